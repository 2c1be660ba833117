/-
  The plain law of the sums of layer 1: over 32-bit words alone. No Go, no memory.
-/
import Derived.Laws.Entries
namespace Go.Proofs.Ytnbjmhlijepkfaa.Crc
set_option linter.unusedVariables false
set_option linter.unusedSimpArgs false

def rep {α : Type} : Nat → (α → α) → α → α
  | 0, _, x => x
  | n + 1, f, x => f (rep n f x)

theorem rep_add {α : Type} (f : α → α) (x : α) : ∀ m n, rep (m + n) f x = rep m f (rep n f x)
  | 0, n => by simp [rep]
  | m + 1, n => by rw [show m + 1 + n = (m + n) + 1 by omega]; simp [rep, rep_add f x m n]

def poly : BitVec 32 := 2197175160#32
/-- One bit of a sum. -/
def bitStep (x : BitVec 32) : BitVec 32 := (x >>> 1) ^^^ (if x.getLsbD 0 then poly else 0#32)
def tab (i : Nat) : BitVec 32 := rep 8 bitStep (BitVec.ofNat 32 i)
/-- One byte of a sum, by any table. -/
def onStep (f : Nat → BitVec 32) (s : BitVec 32) (c : Int) : BitVec 32 := (s >>> 8) ^^^ f ((s ^^^ BitVec.ofInt 32 c).toNat % 256)
def run (f : Nat → BitVec 32) (s : BitVec 32) (zs : List Int) : BitVec 32 := zs.foldl (onStep f) s
def on (f : Nat → BitVec 32) (s : BitVec 32) (zs : List Int) : BitVec 32 := ~~~ (run f (~~~ s) zs)

theorem run_append (f : Nat → BitVec 32) (s : BitVec 32) (xs ys : List Int) : run f s (xs ++ ys) = run f (run f s xs) ys := by simp [run]
theorem on_append (f : Nat → BitVec 32) (s : BitVec 32) (xs ys : List Int) : on f (on f s xs) ys = on f s (xs ++ ys) := by simp [on, run_append]
theorem on_nil (f : Nat → BitVec 32) (s : BitVec 32) : on f s [] = s := by simp [on, run]

theorem bitStep_xor (x y : BitVec 32) : bitStep (x ^^^ y) = bitStep x ^^^ bitStep y := by
  unfold bitStep
  rw [BitVec.ushiftRight_xor_distrib, BitVec.getLsbD_xor]
  cases x.getLsbD 0 <;> cases y.getLsbD 0 <;> simp
  all_goals try ac_rfl
  rw [show x >>> 1 ^^^ poly ^^^ (y >>> 1 ^^^ poly) = (x >>> 1 ^^^ y >>> 1) ^^^ (poly ^^^ poly) by ac_rfl]
  simp

theorem bitStep_zero : bitStep 0#32 = 0#32 := by decide

theorem bitStep_eq_zero {x : BitVec 32} (h : bitStep x = 0#32) : x = 0#32 := by
  unfold bitStep at h
  cases hb : x.getLsbD 0 with
  | true =>
    rw [hb] at h
    have h31 := congrArg (fun v : BitVec 32 => v.getLsbD 31) h
    simp [poly] at h31
  | false =>
    rw [hb] at h
    simp at h
    apply BitVec.eq_of_getLsbD_eq
    intro i hi
    cases i with
    | zero => simpa using hb
    | succ j =>
      have := congrArg (fun v : BitVec 32 => v.getLsbD j) h
      simp at this
      rw [show j + 1 = 1 + j by omega]
      simpa using this

theorem rep_xor (n : Nat) (x y : BitVec 32) : rep n bitStep (x ^^^ y) = rep n bitStep x ^^^ rep n bitStep y := by
  induction n with
  | zero => rfl
  | succ n ih => simp only [rep, ih, bitStep_xor]
theorem rep_zero (n : Nat) : rep n bitStep 0#32 = 0#32 := by
  induction n with
  | zero => rfl
  | succ n ih => simp only [rep, ih, bitStep_zero]
theorem rep_eq_zero {n : Nat} {x : BitVec 32} (h : rep n bitStep x = 0#32) : x = 0#32 := by
  induction n with
  | zero => exact h
  | succ n ih => exact ih (bitStep_eq_zero h)
theorem rep_inj {n : Nat} {x y : BitVec 32} (h : rep n bitStep x = rep n bitStep y) : x = y := by
  have := rep_xor n x y
  rw [h] at this
  simp at this
  have := rep_eq_zero this
  have h2 := congrArg (fun v => v ^^^ y) this
  simpa [BitVec.xor_assoc] using h2

/-- A word whose low bits are zero is only moved. -/
theorem rep_shift (x : BitVec 32) : ∀ (n : Nat), (∀ i, i < n → x.getLsbD i = false) → rep n bitStep x = x >>> n
  | 0, _ => by simp [rep]
  | n + 1, h => by
    rw [rep, rep_shift x n (fun i hi => h i (by omega))]
    unfold bitStep
    have : (x >>> n).getLsbD 0 = false := by simpa using h n (by omega)
    rw [this]
    simp
    rw [← BitVec.shiftRight_add]

/-- Eight bits of a word: what the table makes of its low byte, and the rest, moved. -/
theorem rep8 (x : BitVec 32) : rep 8 bitStep x = (x >>> 8) ^^^ tab (x.toNat % 256) := by
  have hsplit : x = (x >>> 8 <<< 8) ^^^ BitVec.ofNat 32 (x.toNat % 256) := by
    apply BitVec.eq_of_getLsbD_eq
    intro i hi
    have e : (BitVec.ofNat 32 (x.toNat % 256)).getLsbD i = (decide (i < 8) && x.getLsbD i) := by
      simp only [BitVec.getLsbD, BitVec.toNat_ofNat]
      rw [Nat.mod_eq_of_lt (a := x.toNat % 256) (by omega), show (256 : Nat) = 2 ^ 8 by rfl, Nat.testBit_mod_two_pow]
    rw [BitVec.getLsbD_xor, e]
    by_cases h8 : i < 8
    · simp [h8]
    · simp [h8, hi]
      congr 1
      omega
  have hlow : rep 8 bitStep (x >>> 8 <<< 8) = x >>> 8 := by
    rw [rep_shift _ 8 (fun i hi => by simp [hi])]
    apply BitVec.eq_of_getLsbD_eq
    intro i hi
    simp
    intro h
    exact BitVec.lt_of_getLsbD h
  conv => lhs; rw [hsplit, rep_xor, hlow]
  rfl

/-- One byte of a sum, by the table: eight bits. -/
theorem onStep_tab (s : BitVec 32) (c : Int) (h0 : 0 ≤ c) (h1 : c ≤ 255) : onStep tab s c = rep 8 bitStep (s ^^^ BitVec.ofInt 32 c) := by
  rw [rep8]
  unfold onStep
  congr 1
  rw [BitVec.ushiftRight_xor_distrib]
  have : BitVec.ofInt 32 c >>> 8 = 0#32 := by
    apply BitVec.eq_of_toNat_eq
    simp [BitVec.toNat_ofInt, Nat.shiftRight_eq_div_pow]
    omega
  rw [this]; simp

theorem tab_xor (a b : Nat) : tab (a ^^^ b) = tab a ^^^ tab b := by
  unfold tab
  rw [← rep_xor]
  congr 1
  apply BitVec.eq_of_getLsbD_eq
  intro i hi
  simp [hi, BitVec.getLsbD_ofNat, Nat.testBit_xor]
theorem tab_inj {a b : Nat} (ha : a < 256) (hb : b < 256) (h : tab a = tab b) : a = b := by
  have := congrArg BitVec.toNat (rep_inj h)
  simp at this
  omega

/-! ### Sums are affine -/
theorem ofInt_xor8 (a b c : Int) (h : BitVec.ofInt 32 c = BitVec.ofInt 32 a ^^^ BitVec.ofInt 32 b) (s t : BitVec 32) : (s ^^^ t) ^^^ BitVec.ofInt 32 c = (s ^^^ BitVec.ofInt 32 a) ^^^ (t ^^^ BitVec.ofInt 32 b) := by
  rw [h]; ac_rfl

def isByte (z : Int) : Prop := 0 ≤ z ∧ z ≤ 255

theorem run_xor : ∀ (xs ys zs : List Int) (s t : BitVec 32), xs.length = ys.length → zs.length = ys.length → (∀ z ∈ xs, isByte z) → (∀ z ∈ ys, isByte z) → (∀ z ∈ zs, isByte z) →
    (∀ i, i < ys.length → BitVec.ofInt 32 (zs.getD i 0) = BitVec.ofInt 32 (xs.getD i 0) ^^^ BitVec.ofInt 32 (ys.getD i 0)) →
    run tab (s ^^^ t) zs = run tab s xs ^^^ run tab t ys
  | [], [], [], s, t, _, _, _, _, _, _ => rfl
  | x :: xs, y :: ys, z :: zs, s, t, h1, h2, hx, hy, hz, h => by
    have h0 := h 0 (by simp)
    simp at h0
    unfold run
    simp only [List.foldl_cons]
    rw [onStep_tab _ _ (hz z (by simp)).1 (hz z (by simp)).2, onStep_tab _ _ (hx x (by simp)).1 (hx x (by simp)).2, onStep_tab _ _ (hy y (by simp)).1 (hy y (by simp)).2,
      ofInt_xor8 x y z h0, rep_xor]
    exact run_xor xs ys zs _ _ (by simpa using h1) (by simpa using h2) (fun a ha => hx a (by simp [ha])) (fun a ha => hy a (by simp [ha])) (fun a ha => hz a (by simp [ha]))
      (fun i hi => by simpa using h (i + 1) (by simp; omega))
  | [], _ :: _, _, _, _, h1, _, _, _, _, _ => by simp at h1
  | _ :: _, [], _, _, _, h1, _, _, _, _, _ => by simp at h1
  | [], [], _ :: _, _, _, _, h2, _, _, _, _ => by simp at h2
  | _ :: _, _ :: _, [], _, _, _, h2, _, _, _, _ => by simp at h2

/-! ### Bit by bit -/
def bitRun (s : BitVec 32) (zs : List Int) : BitVec 32 := zs.foldl (fun s c => rep 8 bitStep (s ^^^ BitVec.ofInt 32 c)) s
theorem run_tab (s : BitVec 32) : ∀ (zs : List Int), (∀ z ∈ zs, isByte z) → run tab s zs = bitRun s zs := by
  intro zs
  induction zs generalizing s with
  | nil => intro _; rfl
  | cons z zs ih =>
    intro h
    unfold run bitRun at *
    simp only [List.foldl_cons]
    rw [onStep_tab _ _ (h z (by simp)).1 (h z (by simp)).2]
    exact ih _ (fun a ha => h a (by simp [ha]))

end Go.Proofs.Ytnbjmhlijepkfaa.Crc
