/-
  Layer 17: a table in a law's walk, apart from blocks that are the law's.
-/
import Derived.Test.YtdfjacpfmjgfiaaMore
namespace Go.Proofs.Ytdfjacpfmjgfiaa
set_option linter.unusedVariables false
set_option linter.unusedSimpArgs false
open Go.Shelf Go.RowKit Go.Proofs.YtdfjacpfmjgfiaaW.PrintWords Go.Proofs.YtdfjacpfmjgfiaaW.PrintMore
attribute [local go_sem] max2_int
structure AtR (R : Nat → Prop) (w W : World) (t : Nat) (most next : Int) (hl : HL) : Prop where
  tb : TB R W t most next hl
  keep : KeepS (fun k => w.heap.size ≤ k) w W
  sub : ∀ k, k < w.heap.size → R k
section
variable {R : Nat → Prop} {w W : World} {t : Nat} {most next : Int} {hl : HL}
theorem AtR.post {w' : World} {most' next' : Int} {hl' : HL} {r : Value} {e : Ending} (h : AtR R w W t most next hl) (hp : TBPost R W t most' next' hl' r e w') : e = .returned r ∧ AtR R w w' t most' next' hl' ∧ KeepS (fun k => ¬ R k) W w' :=
  ⟨hp.1, ⟨hp.2.1, keep_on h.keep hp.2.2 h.sub, h.sub⟩, hp.2.2⟩
/-- The law writes its own, or makes. -/
theorem AtR.other {W' : World} (h : AtR R w W t most next hl) (hk : KeepS R W W') (hb : KeepS (fun k => w.heap.size ≤ k) w W') : AtR R w W' t most next hl := ⟨h.tb.other hk, hb, h.sub⟩
theorem AtR.grows {W' : World} (h : AtR R w W t most next hl) (hg : Grows W W') : AtR R w W' t most next hl := ⟨h.tb.grows hg, keep_grows h.keep hg, h.sub⟩
/-- .. and what is new is the law's. -/
theorem AtR.with {W' : World} (h : AtR R w W t most next hl) (hk : KeepS R W W') (hb : KeepS (fun k => w.heap.size ≤ k) w W') : AtR (fun k => R k ∨ (W.heap.size ≤ k ∧ k < W'.heap.size)) w W' t most next hl := ⟨h.tb.with hk, hb, fun k hk => .inl (h.sub k hk)⟩
theorem AtR.below (h : AtR R w W t most next hl) : Below w.heap.size w W := below_of h.keep
theorem AtR.drewN (h : AtR R w W t most next hl) (q : Nat) : AtR R w (W.drewN q) t most next hl := h.grows ⟨rfl, rfl, rfl, Nat.le_refl _, fun _ _ => rfl⟩
theorem atR_pin (h : AtR R w W t most next hl) (hb : ∀ x ∈ hl, x.2.length ≤ 99999) (hb2 : hl.length ≤ 100000) (k n : Int) :
    Calls Try.prog 13 #[.pointer (some ⟨t, 0, none⟩), .int .i64 k, .int .i64 n] W fun e w' => e = .returned (.bool (getL hl k).isSome) ∧ AtR R w w' t most next (pinL hl k n) ∧ KeepS (fun k => ¬ R k) W w' :=
  (pin_tb h.tb hb hb2 k n).mono fun e w' hp => h.post hp
theorem atR_close (h : AtR R w W t most next hl) (hb : ∀ x ∈ hl, x.2.length ≤ 100000) (hb2 : hl.length ≤ 100000) (k : Int) :
    Calls Try.prog 15 #[.pointer (some ⟨t, 0, none⟩), .int .i64 k] W fun e w' => e = .returned (.bool (getL hl k).isSome) ∧ AtR R w w' t most next (delL hl k) ∧ KeepS (fun k => ¬ R k) W w' :=
  (close_tb h.tb hb hb2 k).mono fun e w' hp => h.post hp
theorem atR_open (h : AtR R w W t most next hl) (hf : hl.length < most) (hb : ∀ x ∈ hl, x.2.length ≤ 50000) (hb2 : hl.length ≤ 50000) (h1n : 1 ≤ next) (hn40 : next ≤ 1000000) {A : Option Addr} {m c : Nat} {xs : List Int} (hr : ReadsR W R A m xs) (hm : m ≤ 40000) :
    Calls Try.prog 17 #[.pointer (some ⟨t, 0, none⟩), .slice A m c] W fun e w' => e = .returned (.tuple #[.int .i64 next, .int .i64 0]) ∧ AtR R w w' t most (next + 1) (hl ++ [(next, insAll [] xs)]) ∧ KeepS (fun k => ¬ R k) W w' :=
  (open_tb h.tb hf hb hb2 h1n hn40 hr hm).mono fun e w' hp => h.post hp
theorem atR_full (h : AtR R w W t most next hl) (hf : most ≤ hl.length) (v : Value) :
    Calls Try.prog 17 #[.pointer (some ⟨t, 0, none⟩), v] W fun e w' => e = .returned (.tuple #[.int .i64 0, .int .i64 5]) ∧ AtR R w w' t most next hl ∧ KeepS (fun k => ¬ R k) W w' :=
  (full_tb h.tb hf v).mono fun e w' hp => h.post hp
theorem atR_of (h : AtR R w W t most next hl) (n : Int) (hb : ∀ x ∈ hl, x.2.length ≤ 1000000) {l : List Int} (e1 : (getL hl n).getD [] = l) :
    Calls Try.prog 24 #[.pointer (some ⟨t, 0, none⟩), .int .i64 n] W fun e w' => ∃ A c, e = .returned (.slice A l.length c) ∧ l.length ≤ c ∧ ReadsInt w' .i64 A l.length l ∧ w'.ownsRow W.heap.size 3 1 (.slice A l.length c) l.length (nums .i64 l) ∧ Grows W w' ∧ AtR R w w' t most next hl := by
  subst e1
  refine (of_tb h.tb n hb).mono ?_
  rintro e w' ⟨v', rfl, ho, hg⟩
  obtain ⟨A, c, rfl, hc⟩ := own_slice ho
  exact ⟨A, c, rfl, hc, own_reads' ho, ho, hg, h.grows hg⟩
theorem atR_new (w W : World) (hk : Below w.heap.size w W) (most : Int) (h : 1 ≤ most ∧ most ≤ 1024) : Calls Try.prog 10 #[.int .i64 most] W fun e w' => ∃ t, e = .returned (.pointer (some ⟨t, 0, none⟩)) ∧ AtR (fun k => k < w.heap.size) w w' t most 1 [] := by
  refine (new_tb W most h).mono ?_
  rintro e w' ⟨t, rfl, hT, hg⟩
  exact ⟨t, rfl, hT.sub fun k h => Nat.lt_of_lt_of_le h hk.size, keep_grows (keep_of hk) hg, fun k h => h⟩
theorem AtR.reads (h : AtR R w W t most next hl) {A : Option Addr} {n : Nat} {xs : List Int} (hr : ReadsInt w .i64 A n xs) : ReadsInt W .i64 A n xs ∧ ReadsR W R A n xs := by
  have h1 : ReadsInt W .i64 A n xs := hr.below h.below
  refine ⟨h1, h1, fun ad e h0 => ?_⟩
  have hlt := ReadsO.lt (O := fun _ => False) ⟨hr, fun _ _ _ h => h⟩ e h0
  exact h.sub _ hlt
end
/-- Is a number one of some? -/
theorem has_calls {W : World} {A : Option Addr} {n c : Nat} {xs : List Int} (hr : ReadsInt W .i64 A n xs) (x : Int) (hn : n ≤ 1000000) :
    Calls Try.prog 28 #[.slice A n c, .int .i64 x] W fun e w' => e = .returned (.bool (xs.contains x)) ∧ w' = W := by
  obtain ⟨hl, _, hc⟩ := hr
  have HL := Aside0.mk hl
  have HC := Aside0.mk hc
  clear hl hc
  go_enter Try.func28, Try.ntmps28
  go_wp2
  go_loopg [5] n (fun f v5 wr => ∃ i : Nat, Aside0 (f + i = n) ∧ i ≤ n ∧ v5 = .int .i64 i ∧ wr = W ∧ Aside0 (∀ j, j < i → xs.getD j 0 ≠ x))
  case atStart => exact ⟨0, ⟨by omega⟩, by omega, rfl, rfl, ⟨fun j hj => by omega⟩⟩
  case round =>
    obtain ⟨i, HF, hi, rfl, rfl, HS⟩ := hrel
    by_cases hlt : i < n
    · obtain ⟨ad, rfl, hcell⟩ := HC.out (by omega)
      replace hcell := hcell i hlt
      obtain ⟨y, hy⟩ : ∃ y, xs.getD i 0 = y := ⟨_, rfl⟩
      rw [hy] at hcell
      have HY := Aside0.mk hy
      clear hy
      by_cases hxy : y = x
      · have hxb : (y == x) = true := beq_iff_eq.2 hxy
        have HX := Aside0.mk hxy
        clear hxy
        go_wp2
        go_ret
        refine ⟨?_, rfl⟩
        have : xs.contains x = true := by
          rw [List.contains_iff_mem, ← HX.out, ← HY.out, List.getD_eq_getElem?_getD, List.getElem?_eq_getElem (by rw [HL.out]; exact hlt)]
          exact List.getElem_mem _
        rw [this]; rfl
      · have hxb : (y == x) = false := beq_eq_false_iff_ne.2 hxy
        have HX := Aside0.mk hxy
        clear hxy
        go_wp2
        go_roundg (n - (i + 1))
        case measure => have := HF.out; omega
        case rel =>
          refine ⟨i + 1, ⟨by omega⟩, by omega, by go_num, rfl, ⟨fun j hj => ?_⟩⟩
          by_cases hji : j = i
          · rw [hji, HY.out]; exact HX.out
          · exact HS.out j (by omega)
    · obtain rfl : i = n := by omega
      go_wp2
      go_ret
      refine ⟨?_, rfl⟩
      have : xs.contains x = false := by
        rw [Bool.eq_false_iff]
        intro h
        rw [List.contains_iff_mem] at h
        obtain ⟨j, hj, e⟩ := List.getElem_of_mem h
        exact HS.out j (by rw [← HL.out]; exact hj) (by rw [List.getD_eq_getElem?_getD, List.getElem?_eq_getElem hj]; exact e)
      rw [this]; rfl
end Go.Proofs.Ytdfjacpfmjgfiaa
