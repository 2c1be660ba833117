/-
  The plain law of bursts: bytes that differ within 32 bits that stand together have unlike sums. No Go, no memory.
-/
import Derived.Test.YtnbjmhlijepkfaaMath
import Derived.Laws.BitsAllLaws
namespace Go.Proofs.Ytnbjmhlijepkfaa.Crc
set_option linter.unusedVariables false
set_option linter.unusedSimpArgs false

def one (b : Bool) : BitVec 32 := if b then 1#32 else 0#32
/-- A state that has met i bits of c. -/
def met (f : Nat → Bool) (s : BitVec 32) : Nat → BitVec 32
  | 0 => s
  | i + 1 => bitStep (met f s i ^^^ one (f i))

theorem met_add (f : Nat → Bool) (s : BitVec 32) (m : Nat) : ∀ n, met f s (m + n) = met (fun i => f (m + i)) (met f s m) n
  | 0 => rfl
  | n + 1 => by
    show bitStep (met f s (m + n) ^^^ one (f (m + n))) = _
    rw [met_add f s m n]; rfl

theorem met_congr (f g : Nat → Bool) (s : BitVec 32) : ∀ n, (∀ i, i < n → f i = g i) → met f s n = met g s n
  | 0, _ => rfl
  | n + 1, h => by
    show bitStep (met f s n ^^^ one (f n)) = bitStep (met g s n ^^^ one (g n))
    rw [met_congr f g s n (fun i hi => h i (by omega)), h n (by omega)]

theorem split_low (c : BitVec 32) : c = one (c.getLsbD 0) ^^^ (c >>> 1 <<< 1) := by
  apply BitVec.eq_of_getLsbD_eq
  intro i hi
  unfold one
  cases i with
  | zero => cases h : c.getLsbD 0 <;> simp
  | succ j =>
    have e : (c >>> 1 <<< 1).getLsbD (j + 1) = c.getLsbD (j + 1) := by
      have h1 : decide (j + 1 < 32) = true := by simpa using hi
      have h2 : decide (j + 1 < 1) = false := by simp
      rw [BitVec.getLsbD_shiftLeft, BitVec.getLsbD_ushiftRight, h1, h2, show 1 + (j + 1 - 1) = j + 1 by omega]
      rfl
    rw [BitVec.getLsbD_xor, e]
    cases h : c.getLsbD 0 <;> simp
theorem bitStep_even (c : BitVec 32) : bitStep (c >>> 1 <<< 1) = c >>> 1 := by
  have h := rep_shift (c >>> 1 <<< 1) 1 (fun i hi => by simp [show i = 0 by omega])
  simp only [rep] at h
  rw [h]
  apply BitVec.eq_of_getLsbD_eq
  intro i hi
  simp
  intro h
  have := BitVec.lt_of_getLsbD h
  omega

/-- Met all at once, or bit by bit. -/
theorem rep_met (c s : BitVec 32) : ∀ i, rep i bitStep (s ^^^ c) = met (fun j => c.getLsbD j) s i ^^^ (c >>> i)
  | 0 => by simp [rep, met]
  | i + 1 => by
    rw [rep, rep_met c s i]
    have h1 := split_low (c >>> i)
    have h2 := bitStep_even (c >>> i)
    have e : (c >>> i).getLsbD 0 = c.getLsbD i := by simp
    rw [e] at h1
    show bitStep (met _ s i ^^^ c >>> i) = bitStep (met _ s i ^^^ one (c.getLsbD i)) ^^^ c >>> (i + 1)
    conv => lhs; rw [h1]
    rw [← BitVec.xor_assoc, bitStep_xor, h2, ← BitVec.shiftRight_add]

theorem met_zero (f : Nat → Bool) : ∀ n, (∀ i, i < n → f i = false) → met f 0#32 n = 0#32
  | 0, _ => rfl
  | n + 1, h => by
    show bitStep (met f 0#32 n ^^^ one (f n)) = 0#32
    rw [met_zero f n (fun i hi => h i (by omega)), h n (by omega)]
    simp [one, bitStep_zero]
theorem met_none (f : Nat → Bool) (s : BitVec 32) : ∀ n, (∀ i, i < n → f i = false) → met f s n = rep n bitStep s
  | 0, _ => rfl
  | n + 1, h => by
    show bitStep (met f s n ^^^ one (f n)) = bitStep (rep n bitStep s)
    rw [met_none f s n (fun i hi => h i (by omega)), h n (by omega)]
    simp [one]

/-- The bits of a burst. -/
def burst (k : Nat) (w : BitVec 32) (t : Nat) (m : Nat) : Bool := decide (k ≤ m) && decide (m < k + t) && w.getLsbD (m - k)

theorem met_burst (k n : Nat) (w : BitVec 32) (hk : k + 32 ≤ n) : met (burst k w 32) 0#32 n = rep (n - k) bitStep w := by
  have h1 : met (burst k w 32) 0#32 k = 0#32 := met_zero _ k (fun i hi => by simp [burst]; omega)
  have h2 : met (burst k w 32) 0#32 (k + 32) = rep 32 bitStep w := by
    rw [met_add, h1]
    have h := rep_met w 0#32 32
    have hz : w >>> 32 = 0#32 := by
      apply BitVec.eq_of_getLsbD_eq
      intro i hi
      rw [BitVec.getLsbD_ushiftRight, BitVec.getLsbD_of_ge _ _ (by omega)]; simp
    rw [BitVec.zero_xor, hz, BitVec.xor_zero] at h
    rw [h]
    refine met_congr _ _ _ 32 (fun i hi => ?_)
    have h1 : (k ≤ k + i) = True := by simp
    have h2 : (k + i < k + 32) = True := by simp; omega
    simp only [burst, h1, h2, decide_true, Bool.true_and]
    rw [show k + i - k = i by omega]
  have e : n = (k + 32) + (n - (k + 32)) := by omega
  rw [e, met_add, h2, met_none _ _ _ (fun i hi => by simp [burst]; omega), ← rep_add]
  congr 1
  omega

/-- A sum of bytes whose bits are those of f. -/
theorem run_bits (f : Nat → Bool) : ∀ (zs : List Int) (o : Nat) (s : BitVec 32), (∀ z ∈ zs, isByte z) → (∀ i, i < zs.length → ∀ j, j < 8 → (BitVec.ofInt 32 (zs.getD i 0)).getLsbD j = f (o + 8 * i + j)) →
    run tab s zs = met (fun i => f (o + i)) s (8 * zs.length)
  | [], _, _, _, _ => rfl
  | z :: zs, o, s, hb, h => by
    have hz := hb z (by simp)
    unfold run
    simp only [List.foldl_cons, List.length_cons]
    rw [onStep_tab _ _ hz.1 hz.2, rep_met, show 8 * (zs.length + 1) = 8 + 8 * zs.length by omega, met_add]
    have e1 : BitVec.ofInt 32 z >>> 8 = 0#32 := by
      obtain ⟨h0, h1⟩ := hz
      apply BitVec.eq_of_toNat_eq
      simp [BitVec.toNat_ofInt, Nat.shiftRight_eq_div_pow]
      omega
    have e2 : met (fun j => (BitVec.ofInt 32 z).getLsbD j) s 8 = met (fun i => f (o + i)) s 8 := met_congr _ _ _ 8 (fun i hi => by
      have := h 0 (by simp) i hi
      simpa using this)
    rw [e1, e2, BitVec.xor_zero]
    have := run_bits f zs (o + 8) (met (fun i => f (o + i)) s 8) (fun a ha => hb a (by simp [ha])) (fun i hi j hj => by
      have := h (i + 1) (by simp; omega) j hj
      rw [show o + 8 + 8 * i + j = o + 8 * (i + 1) + j by omega]
      simpa using this)
    unfold run at this
    rw [this]
    congr 1
    funext i
    congr 1
    omega

/-! ### The bytes in which a burst's bits were turned -/
/-- The first t bits of the burst have been turned. -/
def Turned (k : Nat) (w : BitVec 32) (bs : List Int) (t : Nat) (xs : List Int) : Prop :=
  xs.length = bs.length ∧ (∀ z ∈ xs, isByte z) ∧ ∀ i, i < bs.length → ∀ j, j < 8 →
    (BitVec.ofInt 32 (xs.getD i 0)).getLsbD j = ((BitVec.ofInt 32 (bs.getD i 0)).getLsbD j ^^ burst k w t (8 * i + j))

theorem Turned.zero {k : Nat} {w : BitVec 32} {bs : List Int} (hb : ∀ z ∈ bs, isByte z) : Turned k w bs 0 bs :=
  ⟨rfl, hb, fun i hi j hj => by
    have : burst k w 0 (8 * i + j) = false := by simp [burst]; omega
    rw [this]; simp⟩
theorem getD_byte {zs : List Int} (h : ∀ z ∈ zs, isByte z) (j : Nat) : isByte (zs.getD j 0) := by
  rw [List.getD_eq_getElem?_getD]
  cases e : zs[j]? with
  | none => exact ⟨by decide, by decide⟩
  | some v => exact h v (List.mem_of_getElem? e)
/-- A bit that is none of the burst's is left. -/
theorem Turned.skip {k : Nat} {w : BitVec 32} {bs xs : List Int} {t : Nat} (h : Turned k w bs t xs) (hw : w.getLsbD t = false) : Turned k w bs (t + 1) xs :=
  ⟨h.1, h.2.1, fun i hi j hj => by
    rw [h.2.2 i hi j hj]
    congr 1
    unfold burst
    by_cases e : 8 * i + j = k + t
    · have e1 : 8 * i + j - k = t := by omega
      rw [e1, hw]; simp
    · have : (8 * i + j < k + t) ↔ (8 * i + j < k + (t + 1)) := by omega
      simp [this]⟩
theorem pow_bit (q : Nat) (hq : q < 8) (j : Nat) (hj : j < 8) : (BitVec.ofInt 32 (2 ^ q)).getLsbD j = decide (q = j) := by
  have h : q = 0 ∨ q = 1 ∨ q = 2 ∨ q = 3 ∨ q = 4 ∨ q = 5 ∨ q = 6 ∨ q = 7 := by omega
  have h' : j = 0 ∨ j = 1 ∨ j = 2 ∨ j = 3 ∨ j = 4 ∨ j = 5 ∨ j = 6 ∨ j = 7 := by omega
  rcases h with rfl | rfl | rfl | rfl | rfl | rfl | rfl | rfl <;> rcases h' with rfl | rfl | rfl | rfl | rfl | rfl | rfl | rfl <;> decide
theorem pow_byte (q : Nat) (hq : q < 8) : isByte (2 ^ q) := by
  have h : q = 0 ∨ q = 1 ∨ q = 2 ∨ q = 3 ∨ q = 4 ∨ q = 5 ∨ q = 6 ∨ q = 7 := by omega
  rcases h with rfl | rfl | rfl | rfl | rfl | rfl | rfl | rfl <;> exact ⟨by decide, by decide⟩
theorem xor_byte {a b : Int} (ha : isByte a) (hb : isByte b) : isByte (Go.bits .xor .u8 a b) ∧ BitVec.ofInt 32 (Go.bits .xor .u8 a b) = BitVec.ofInt 32 a ^^^ BitVec.ofInt 32 b := by
  obtain ⟨a0, a1⟩ := ha
  obtain ⟨b0, b1⟩ := hb
  have hx := Nat.xor_lt_two_pow (n := 8) (x := a.toNat) (y := b.toNat) (by omega) (by omega)
  rw [u8_xor _ _ a0 (by omega) b0 (by omega)]
  refine ⟨⟨by omega, by omega⟩, ?_⟩
  apply BitVec.eq_of_toNat_eq
  have e1 : (BitVec.ofInt 32 a).toNat = a.toNat := by rw [BitVec.toNat_ofInt]; omega
  have e2 : (BitVec.ofInt 32 b).toNat = b.toNat := by rw [BitVec.toNat_ofInt]; omega
  rw [BitVec.toNat_xor, e1, e2, BitVec.toNat_ofInt]
  omega
/-- A bit of the burst is turned. -/
theorem Turned.turn {k : Nat} {w : BitVec 32} {bs xs : List Int} {t : Nat} (h : Turned k w bs t xs) (hw : w.getLsbD t = true) (hk : k + t < 8 * bs.length) :
    Turned k w bs (t + 1) (xs.set ((k + t) / 8) (Go.bits .xor .u8 (xs.getD ((k + t) / 8) 0) (2 ^ ((k + t) % 8)))) := by
  have hq : (k + t) % 8 < 8 := Nat.mod_lt _ (by omega)
  have hx := xor_byte (getD_byte h.2.1 ((k + t) / 8)) (pow_byte _ hq)
  have hlt : (k + t) / 8 < xs.length := by rw [h.1]; omega
  refine ⟨by simp [h.1], fun z hz => ?_, fun i hi j hj => ?_⟩
  · rcases List.mem_or_eq_of_mem_set hz with h' | rfl
    · exact h.2.1 z h'
    · exact hx.1
  · by_cases e : i = (k + t) / 8
    · subst e
      have e1 : (xs.set ((k + t) / 8) (Go.bits .xor .u8 (xs.getD ((k + t) / 8) 0) (2 ^ ((k + t) % 8)))).getD ((k + t) / 8) 0 = Go.bits .xor .u8 (xs.getD ((k + t) / 8) 0) (2 ^ ((k + t) % 8)) := by
        simp [List.getD_eq_getElem?_getD, hlt]
      rw [e1, hx.2, BitVec.getLsbD_xor, h.2.2 _ hi j hj, pow_bit _ hq j hj]
      unfold burst
      by_cases ej : (k + t) % 8 = j
      · have e2 : 8 * ((k + t) / 8) + j = k + t := by omega
        rw [e2, show k + t - k = t by omega, hw]
        simp [ej]
      · have e2 : 8 * ((k + t) / 8) + j ≠ k + t := by omega
        have : (8 * ((k + t) / 8) + j < k + t) ↔ (8 * ((k + t) / 8) + j < k + (t + 1)) := by omega
        simp [ej, this]
    · have e1 : (xs.set ((k + t) / 8) (Go.bits .xor .u8 (xs.getD ((k + t) / 8) 0) (2 ^ ((k + t) % 8)))).getD i 0 = xs.getD i 0 := by
        rw [List.getD_eq_getElem?_getD, List.getElem?_set_ne (fun h => e h.symm), ← List.getD_eq_getElem?_getD]
      rw [e1, h.2.2 i hi j hj]
      congr 1
      unfold burst
      have : (8 * i + j < k + t) ↔ (8 * i + j < k + (t + 1)) := by omega
      simp [this]

/-- **Bytes that differ in a burst have like sums only if it is none.** -/
theorem burst_law {k : Nat} {w : BitVec 32} {bs xs : List Int} (hb : ∀ z ∈ bs, isByte z) (h : Turned k w bs 32 xs) (hk : k + 32 ≤ 8 * bs.length) : on tab 0#32 xs = on tab 0#32 bs ↔ w = 0#32 := by
  -- the bytes of the burst alone
  have hbyte : ∀ i, isByte (((BitVec.ofInt 32 (xs.getD i 0) ^^^ BitVec.ofInt 32 (bs.getD i 0)).toNat : Nat) : Int) := fun i => by
    obtain ⟨a0, a1⟩ := getD_byte h.2.1 i
    obtain ⟨b0, b1⟩ := getD_byte hb i
    have e1 : (BitVec.ofInt 32 (xs.getD i 0)).toNat = (xs.getD i 0).toNat := by rw [BitVec.toNat_ofInt]; omega
    have e2 : (BitVec.ofInt 32 (bs.getD i 0)).toNat = (bs.getD i 0).toNat := by rw [BitVec.toNat_ofInt]; omega
    have := Nat.xor_lt_two_pow (n := 8) (x := (xs.getD i 0).toNat) (y := (bs.getD i 0).toNat) (by omega) (by omega)
    rw [BitVec.toNat_xor, e1, e2]
    exact ⟨by omega, by omega⟩
  generalize hes : (List.range bs.length).map (fun i => (((BitVec.ofInt 32 (xs.getD i 0) ^^^ BitVec.ofInt 32 (bs.getD i 0)).toNat : Nat) : Int)) = es
  have hel : es.length = bs.length := by rw [← hes]; simp
  have heb : ∀ z ∈ es, isByte z := fun z hz => by
    rw [← hes] at hz
    obtain ⟨i, _, rfl⟩ := List.mem_map.1 hz
    exact hbyte i
  have heg : ∀ i, i < bs.length → BitVec.ofInt 32 (es.getD i 0) = BitVec.ofInt 32 (xs.getD i 0) ^^^ BitVec.ofInt 32 (bs.getD i 0) := fun i hi => by
    have : es.getD i 0 = (((BitVec.ofInt 32 (xs.getD i 0) ^^^ BitVec.ofInt 32 (bs.getD i 0)).toNat : Nat) : Int) := by
      rw [← hes]; simp [List.getD_eq_getElem?_getD, hi]
    rw [this]
    apply BitVec.eq_of_toNat_eq
    rw [BitVec.ofInt_natCast, BitVec.toNat_ofNat]
    exact Nat.mod_eq_of_lt (BitVec.isLt _)
  have e1 := run_xor bs es xs (~~~ 0#32) 0#32 (by rw [hel]) (by rw [h.1, hel]) hb heb h.2.1 (fun i hi => by
    rw [heg i (by omega)]
    rw [BitVec.xor_comm (BitVec.ofInt 32 (xs.getD i 0)), ← BitVec.xor_assoc, BitVec.xor_self, BitVec.zero_xor])
  have e2 := run_bits (burst k w 32) es 0 0#32 heb (fun i hi j hj => by
    rw [heg i (by omega), BitVec.getLsbD_xor, h.2.2 i (by omega) j hj, Nat.zero_add]
    cases (BitVec.ofInt 32 (bs.getD i 0)).getLsbD j <;> simp)
  simp only [Nat.zero_add] at e2
  rw [met_burst k _ w (by omega)] at e2
  rw [BitVec.xor_zero, e2] at e1
  unfold on
  rw [e1]
  constructor
  · intro hh
    have h2 := congrArg (fun v => ~~~ v ^^^ run tab (~~~ 0#32) bs) hh
    simp only [BitVec.not_not, BitVec.xor_self] at h2
    have h3 : rep (8 * es.length - k) bitStep w = 0#32 := by
      rw [BitVec.xor_comm (run tab (~~~ 0#32) bs), BitVec.xor_assoc, BitVec.xor_self, BitVec.xor_zero] at h2
      exact h2
    exact rep_eq_zero h3
  · intro hh
    subst hh
    rw [rep_zero, BitVec.xor_zero]
end Go.Proofs.Ytnbjmhlijepkfaa.Crc
