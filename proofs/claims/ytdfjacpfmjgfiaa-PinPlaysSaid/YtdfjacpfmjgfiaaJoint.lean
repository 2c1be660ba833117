/-
  Layer 17: the table and the document's, side by side.
-/
import Derived.Test.YtdfjacpfmjgfiaaRClose
import Derived.Test.YtdfjacpfmjgfiaaOnce
import Derived.Test.YtdfjacpfmjgfiaaGrow
namespace Go.Proofs.Ytdfjacpfmjgfiaa
set_option linter.unusedVariables false
set_option linter.unusedSimpArgs false
open Go.Shelf Go.RowKit Go.Proofs.YtdfjacpfmjgfiaaW.PrintWords Go.Proofs.YtdfjacpfmjgfiaaW.PrintMore PPinPlays
attribute [local go_sem] max2_int
/-- Both tables, apart from each other, from what was there ahead of the law, and from blocks M that are the law's. -/
structure PL (M : Nat → Prop) (w W : World) (t g : Nat) (most n1 : Int) (h1 : HL) (n2 : Int) (h2 : HL) : Prop where
  ex : ∃ O1 O2, TabA W O1 t most n1 h1 ∧ RTA W O2 g most n2 h2 ∧ (∀ k, O1 k → w.heap.size ≤ k ∧ k < W.heap.size ∧ ¬ O2 k ∧ ¬ M k) ∧ ∀ k, O2 k → w.heap.size ≤ k ∧ k < W.heap.size ∧ ¬ M k
  keep : KeepS (fun k => w.heap.size ≤ k) w W
  mlt : ∀ k, M k → k < W.heap.size
section
variable {M : Nat → Prop} {w W : World} {t g : Nat} {most n1 n2 : Int} {h1 h2 : HL}
theorem PL.below (h : PL M w W t g most n1 h1 n2 h2) : Below w.heap.size w W := below_of h.keep
theorem PL.hok (h : PL M w W t g most n1 h1 n2 h2) : HOk n1 h1 := by
  obtain ⟨O1, O2, ⟨S, P, hs, ps, a1, a2, a3, a4, a5⟩, _⟩ := h.ex
  exact a4
theorem keep_all {S : Nat → Prop} {W' : World} (h : KeepS (fun k => w.heap.size ≤ k) w W) (hK : KeepS S W W') (hS : ∀ k, S k → w.heap.size ≤ k) : KeepS (fun k => w.heap.size ≤ k) w W' :=
  keep_on (R := fun k => k < w.heap.size) h (hK.mono fun k _ hk => by have := hS k hk; omega) fun k hk => hk
theorem PL.grows {W' : World} (h : PL M w W t g most n1 h1 n2 h2) (hg : Grows W W') : PL M w W' t g most n1 h1 n2 h2 := by
  obtain ⟨O1, O2, hT, hR, hO1, hO2⟩ := h.ex
  exact ⟨⟨O1, O2, hT.keep fun k _ hlt => hg.block k hlt, hR.keep fun k _ hlt => hg.block k hlt, fun k hk => ⟨(hO1 k hk).1, Nat.lt_of_lt_of_le (hO1 k hk).2.1 hg.size, (hO1 k hk).2.2⟩, fun k hk => ⟨(hO2 k hk).1, Nat.lt_of_lt_of_le (hO2 k hk).2.1 hg.size, (hO2 k hk).2.2⟩⟩, keep_grows h.keep hg, fun k hk => Nat.lt_of_lt_of_le (h.mlt k hk) hg.size⟩
theorem PL.less {M' : Nat → Prop} (h : PL M w W t g most n1 h1 n2 h2) (hs : ∀ k, M' k → M k) : PL M' w W t g most n1 h1 n2 h2 := by
  obtain ⟨O1, O2, hT, hR, hO1, hO2⟩ := h.ex
  exact ⟨⟨O1, O2, hT, hR, fun k hk => ⟨(hO1 k hk).1, (hO1 k hk).2.1, (hO1 k hk).2.2.1, fun hm => (hO1 k hk).2.2.2 (hs k hm)⟩, fun k hk => ⟨(hO2 k hk).1, (hO2 k hk).2.1, fun hm => (hO2 k hk).2.2 (hs k hm)⟩⟩, h.keep, fun k hk => h.mlt k (hs k hk)⟩
/-- A block of the law's is made. -/
theorem PL.box (h : PL (fun _ => False) w W t g most n1 h1 n2 h2) (what hd sg : Int) (v : Value) :
    PL (fun k => k = W.heap.size) w (W.alloc (.cells #[.int .i64 what, .int .i64 hd, .int .i64 sg, v] 31)) t g most n1 h1 n2 h2 ∧ OpBox (fun k => k = W.heap.size) (W.alloc (.cells #[.int .i64 what, .int .i64 hd, .int .i64 sg, v] 31)) W.heap.size what hd sg v := by
  have g1 : Grows W (W.alloc (.cells #[.int .i64 what, .int .i64 hd, .int .i64 sg, v] 31)) := (Below.refl W.heap.size W).alloc (Nat.le_refl _) _
  have n0 := heap_alloc_new W (.cells #[.int .i64 what, .int .i64 hd, .int .i64 sg, v] 31)
  obtain ⟨O1, O2, hT, hR, hO1, hO2⟩ := (h.grows g1).ex
  obtain ⟨P1, P2, hT0, hR0, hP1, hP2⟩ := h.ex
  refine ⟨⟨⟨P1, P2, hT0.keep fun k _ hlt => g1.block k hlt, hR0.keep fun k _ hlt => g1.block k hlt, fun k hk => ⟨(hP1 k hk).1, Nat.lt_of_lt_of_le (hP1 k hk).2.1 g1.size, (hP1 k hk).2.2.1, fun hm => ?_⟩, fun k hk => ⟨(hP2 k hk).1, Nat.lt_of_lt_of_le (hP2 k hk).2.1 g1.size, fun hm => ?_⟩⟩, keep_grows h.keep g1, fun k hk => ?_⟩, ⟨n0, rfl⟩⟩
  · have := (hP1 k hk).2.1; omega
  · have := (hP2 k hk).2.1; omega
  · subst hk; exact lt_heap n0
/-- What a call of the table does to both. -/
theorem PL.ofT {f : Nat} {args : Array Value} {n1' : Int} {h1' : HL} {r : Value} (h : PL M w W t g most n1 h1 n2 h2)
    (hc : ∀ O1, TabA W O1 t most n1 h1 → (∀ k, O1 k → w.heap.size ≤ k) → Calls Try.prog f args W (TPost W O1 t most n1' h1' r)) :
    Calls Try.prog f args W fun e w' => e = .returned r ∧ PL M w w' t g most n1' h1' n2 h2 ∧ KeepS (fun k => ¬ M k) W w' := by
  obtain ⟨O1, O2, hT, hR, hO1, hO2⟩ := h.ex
  refine (hc O1 hT fun k hk => (hO1 k hk).1).mono ?_
  rintro e w' ⟨he, O', hT', hK, hO'⟩
  refine ⟨he, ⟨⟨_, O2, hT'.tight, hR.keep fun k hk hlt => hK.block k hlt fun h1 => (hO1 k h1).2.2.1 hk, fun k hk => ?_, fun k hk => ⟨(hO2 k hk).1, Nat.lt_of_lt_of_le (hO2 k hk).2.1 hK.size, (hO2 k hk).2.2⟩⟩, keep_all h.keep hK fun k hk => (hO1 k hk).1, fun k hk => Nat.lt_of_lt_of_le (h.mlt k hk) hK.size⟩, hK.mono fun k _ hk => (hO1 k hk).2.2.2⟩
  rcases hO' k hk.1 with q | q
  · exact ⟨(hO1 k q).1, hk.2, (hO1 k q).2.2⟩
  · exact ⟨Nat.le_trans h.keep.size q, hk.2, fun q2 => by have := (hO2 k q2).2.1; omega, fun hm => by have := h.mlt k hm; omega⟩
/-- .. and of the document's. -/
theorem PL.ofR {f : Nat} {args : Array Value} {n2' : Int} {h2' : HL} {r : Value} (h : PL M w W t g most n1 h1 n2 h2)
    (hc : ∀ O2, RTA W O2 g most n2 h2 → Calls Try.prog f args W (RPost W O2 g most n2' h2' r)) :
    Calls Try.prog f args W fun e w' => e = .returned r ∧ PL M w w' t g most n1 h1 n2' h2' ∧ KeepS (fun k => ¬ M k) W w' := by
  obtain ⟨O1, O2, hT, hR, hO1, hO2⟩ := h.ex
  refine (hc O2 hR).mono ?_
  rintro e w' ⟨he, O', hR', hK, hO'⟩
  refine ⟨he, ⟨⟨O1, _, hT.keep fun k hk hlt => hK.block k hlt fun h2 => (hO1 k hk).2.2.1 h2, hR'.tight, fun k hk => ⟨(hO1 k hk).1, Nat.lt_of_lt_of_le (hO1 k hk).2.1 hK.size, fun q => ?_, (hO1 k hk).2.2.2⟩, fun k hk => ?_⟩, keep_all h.keep hK fun k hk => (hO2 k hk).1, fun k hk => Nat.lt_of_lt_of_le (h.mlt k hk) hK.size⟩, hK.mono fun k _ hk => (hO2 k hk).2.2⟩
  · rcases hO' k q.1 with q2 | q2
    · exact (hO1 k hk).2.2.1 q2
    · have := (hO1 k hk).2.1; omega
  · rcases hO' k hk.1 with q | q
    · exact ⟨(hO2 k q).1, hk.2, (hO2 k q).2.2⟩
    · exact ⟨Nat.le_trans h.keep.size q, hk.2, fun hm => by have := h.mlt k hm; omega⟩
theorem pl_pin (h : PL M w W t g most n1 h1 n2 h2) (hb : ∀ x ∈ h1, x.2.length ≤ 50000) (hb2 : h1.length ≤ 50000) (k n : Int) :
    Calls Try.prog 13 #[.pointer (some ⟨t, 0, none⟩), .int .i64 k, .int .i64 n] W fun e w' => e = .returned (.bool (getL h1 k).isSome) ∧ PL M w w' t g most n1 (pinL h1 k n) n2 h2 ∧ KeepS (fun k => ¬ M k) W w' :=
  h.ofT fun O1 hT _ => pin_calls hT (fun x hx => Nat.le_trans (hb x hx) (by omega)) (by omega) k n
theorem pl_rpin (h : PL M w W t g most n1 h1 n2 h2) (hok : HOk n2 h2) (hb : ∀ x ∈ h2, x.2.length ≤ 50000) (hb2 : h2.length ≤ 50000) (k n : Int) :
    Calls Try.prog 14 #[.pointer (some ⟨g, 0, none⟩), .int .i64 k, .int .i64 n] W fun e w' => e = .returned (.bool (getL h2 k).isSome) ∧ PL M w w' t g most n1 h1 n2 (pinL h2 k n) ∧ KeepS (fun k => ¬ M k) W w' :=
  h.ofR fun O2 hR => rpin_calls hR hok hb2 hb k n
theorem pl_close (h : PL M w W t g most n1 h1 n2 h2) (hb : ∀ x ∈ h1, x.2.length ≤ 50000) (hb2 : h1.length ≤ 50000) (k : Int) :
    Calls Try.prog 15 #[.pointer (some ⟨t, 0, none⟩), .int .i64 k] W fun e w' => e = .returned (.bool (getL h1 k).isSome) ∧ PL M w w' t g most n1 (delL h1 k) n2 h2 ∧ KeepS (fun k => ¬ M k) W w' :=
  h.ofT fun O1 hT _ => close_calls hT (fun x hx => Nat.le_trans (hb x hx) (by omega)) (by omega) k
theorem pl_rclose (h : PL M w W t g most n1 h1 n2 h2) (hok : HOk n2 h2) (hb2 : h2.length ≤ 50000) (k : Int) :
    Calls Try.prog 16 #[.pointer (some ⟨g, 0, none⟩), .int .i64 k] W fun e w' => e = .returned (.bool (getL h2 k).isSome) ∧ PL M w w' t g most n1 h1 n2 (delL h2 k) ∧ KeepS (fun k => ¬ M k) W w' :=
  h.ofR fun O2 hR => rclose_calls hR hok hb2 k
theorem pl_open (h : PL M w W t g most n1 h1 n2 h2) (hf : h1.length < most) (hb : ∀ x ∈ h1, x.2.length ≤ 50000) (hb2 : h1.length ≤ 50000) (h1n : 1 ≤ n1) (hn40 : n1 ≤ 1000000) {A : Option Addr} {m c : Nat} {xs : List Int} (hr : ReadsInt w .i64 A m xs) (hm : m ≤ 40000) :
    Calls Try.prog 17 #[.pointer (some ⟨t, 0, none⟩), .slice A m c] W fun e w' => e = .returned (.tuple #[.int .i64 n1, .int .i64 0]) ∧ PL M w w' t g most (n1 + 1) (h1 ++ [(n1, insAll [] xs)]) n2 h2 ∧ KeepS (fun k => ¬ M k) W w' :=
  h.ofT fun O1 hT hO => open_calls hT hf hb hb2 h1n hn40 ⟨hr.below h.below, fun ad e h0 hk => by
    have h3 := ReadsO.lt (O := fun _ => False) ⟨hr, fun _ _ _ h => h⟩ e h0
    have := hO _ hk
    omega⟩ hm
theorem pl_ropen (h : PL M w W t g most n1 h1 n2 h2) (hf : h2.length < most) (hb2 : h2.length ≤ 50000) (h1n : 1 ≤ n2) (hn40 : n2 ≤ 1000000) {A : Option Addr} {m c : Nat} {xs : List Int} (hr : ReadsInt w .i64 A m xs) (hm : m ≤ 40000) :
    Calls Try.prog 18 #[.pointer (some ⟨g, 0, none⟩), .slice A m c] W fun e w' => e = .returned (.tuple #[.int .i64 n2, .int .i64 0]) ∧ PL M w w' t g most n1 h1 (n2 + 1) (h2 ++ [(n2, insAll [] xs)]) ∧ KeepS (fun k => ¬ M k) W w' :=
  h.ofR fun O2 hR => ropen_calls hR hf hb2 h1n hn40 (hr.below h.below) hm
theorem pl_full (h : PL M w W t g most n1 h1 n2 h2) (hf : most ≤ h1.length) (v : Value) :
    Calls Try.prog 17 #[.pointer (some ⟨t, 0, none⟩), v] W fun e w' => e = .returned (.tuple #[.int .i64 0, .int .i64 5]) ∧ PL M w w' t g most n1 h1 n2 h2 ∧ KeepS (fun k => ¬ M k) W w' :=
  h.ofT fun O1 hT hO => open_full hT hf v
theorem pl_rfull (h : PL M w W t g most n1 h1 n2 h2) (hf : most ≤ h2.length) (hb2 : h2.length ≤ 50000) (v : Value) :
    Calls Try.prog 18 #[.pointer (some ⟨g, 0, none⟩), v] W fun e w' => e = .returned (.tuple #[.int .i64 0, .int .i64 5]) ∧ PL M w w' t g most n1 h1 n2 h2 ∧ KeepS (fun k => ¬ M k) W w' :=
  h.ofR fun O2 hR => ropen_full hR hf (by omega) v
theorem pl_is (h : PL M w W t g most n1 h1 n2 h2) (n : Int) : Calls Try.prog 21 #[.pointer (some ⟨t, 0, none⟩), .int .i64 n] W fun e w' => e = .returned (.bool (getL h1 n).isSome) ∧ w' = W := by
  obtain ⟨O1, O2, hT, hR, hO1, hO2⟩ := h.ex; exact is_tab hT n
theorem pl_pinned (h : PL M w W t g most n1 h1 n2 h2) (n : Int) : Calls Try.prog 26 #[.pointer (some ⟨t, 0, none⟩), .int .i64 n] W fun e w' => e = .returned (.bool (decide (0 < cnt h1 n))) ∧ w' = W := by
  obtain ⟨O1, O2, hT, hR, hO1, hO2⟩ := h.ex; exact pinned_tab hT n
theorem pl_many (h : PL M w W t g most n1 h1 n2 h2) : Calls Try.prog 19 #[.pointer (some ⟨t, 0, none⟩)] W fun e w' => e = .returned (.int .i64 h1.length) ∧ w' = W := by
  obtain ⟨O1, O2, hT, hR, hO1, hO2⟩ := h.ex; exact many_tab hT
/-- A row as it was told: it stays so. -/
def Told (l : List Int) (v : Value) (W : World) : Prop := ∃ A c, v = .slice A l.length c ∧ l.length ≤ c ∧ ReadsInt W .i64 A l.length l
theorem Told.mono (l : List Int) : ∀ v B W W', Told l v W → Ext B W W' → Told l v W' := by
  rintro v B W W' ⟨A, c, e, hc, hr⟩ hx
  exact ⟨A, c, e, hc, hr.1, hr.2.1, fun h0 => by obtain ⟨ad, ea, hcell⟩ := hr.2.2 h0; exact ⟨ad, ea, fun j hj => hx.cell (hcell j hj)⟩⟩
theorem pl_of (h : PL M w W t g most n1 h1 n2 h2) (n : Int) (hb : ∀ x ∈ h1, x.2.length ≤ 50000) :
    Calls Try.prog 24 #[.pointer (some ⟨t, 0, none⟩), .int .i64 n] W fun e w' => ∃ v', e = .returned v' ∧ Grows W w' ∧ Told ((getL h1 n).getD []) v' w' := by
  obtain ⟨O1, O2, hT, hR, hO1, hO2⟩ := h.ex
  refine (of_tab hT n (fun x hx => Nat.le_trans (hb x hx) (by omega))).mono ?_
  rintro e w' ⟨v', rfl, ho, hg⟩
  obtain ⟨A, c, rfl, hc⟩ := own_slice ho
  exact ⟨_, rfl, hg, A, c, rfl, hc, own_reads' ho⟩
theorem pl_rof (h : PL M w W t g most n1 h1 n2 h2) (hok : HOk n2 h2) (n : Int) (hb : ∀ x ∈ h2, x.2.length ≤ 50000) (hb2 : h2.length ≤ 50000) :
    Calls Try.prog 25 #[.pointer (some ⟨g, 0, none⟩), .int .i64 n] W fun e w' => ∃ v', e = .returned v' ∧ Grows W w' ∧ Told ((getL h2 n).getD []) v' w' := by
  obtain ⟨O1, O2, hT, ⟨rs, vL, hR, rfl⟩, hO1, hO2⟩ := h.ex
  refine (rof_calls hR hok.keyed n (by rw [show (absR rs).length = rs.length by simp [absR]] at hb2; omega) (fun x hx => Nat.le_trans (hb (x.1, x.2.1) (List.mem_map.2 ⟨x, hx, rfl⟩)) (by omega))).mono ?_
  rintro e w' ⟨A, c, rfl, hc, hr, hg⟩
  exact ⟨_, rfl, hg, A, c, rfl, hc, hr⟩
theorem pl_ris (h : PL M w W t g most n1 h1 n2 h2) (hb2 : h2.length ≤ 50000) (n : Int) : Calls Try.prog 22 #[.pointer (some ⟨g, 0, none⟩), .int .i64 n] W fun e w' => e = .returned (.bool (getL h2 n).isSome) ∧ w' = W := by
  obtain ⟨O1, O2, hT, ⟨rs, vL, hR, rfl⟩, hO1, hO2⟩ := h.ex
  exact ris_calls hR n (by rw [show (absR rs).length = rs.length by simp [absR]] at hb2; omega)
theorem pl_rpinned (h : PL M w W t g most n1 h1 n2 h2) (hb : ∀ x ∈ h2, x.2.length ≤ 50000) (hb2 : h2.length ≤ 50000) (n : Int) : Calls Try.prog 27 #[.pointer (some ⟨g, 0, none⟩), .int .i64 n] W fun e w' => e = .returned (.bool (decide (0 < cnt h2 n))) ∧ w' = W := by
  obtain ⟨O1, O2, hT, ⟨rs, vL, hR, rfl⟩, hO1, hO2⟩ := h.ex
  exact rpinned_calls hR n (by rw [show (absR rs).length = rs.length by simp [absR]] at hb2; omega) (fun x hx => Nat.le_trans (hb (x.1, x.2.1) (List.mem_map.2 ⟨x, hx, rfl⟩)) (by omega))
theorem pl_rmany (h : PL M w W t g most n1 h1 n2 h2) : Calls Try.prog 20 #[.pointer (some ⟨g, 0, none⟩)] W fun e w' => e = .returned (.int .i64 h2.length) ∧ w' = W := by
  obtain ⟨O1, O2, hT, ⟨rs, vL, hR, rfl⟩, hO1, hO2⟩ := h.ex
  exact rmany_calls hR
end
/-- Both are new. -/
theorem pl_new {w W1 W2 W3 : World} (h0 : Below w.heap.size w W1) {t g : Nat} {most : Int} (hT : TabA W2 (fun k => W1.heap.size ≤ k) t most 1 []) (g1 : Grows W1 W2) (hR : RTA W3 (fun k => W2.heap.size ≤ k) g most 1 []) (g2 : Grows W2 W3) : PL (fun _ => False) w W3 t g most 1 [] 1 [] := by
  have a1 := h0.size
  have a2 := g1.size
  have a3 := g2.size
  exact ⟨⟨_, _, hT.tight.keep fun k _ hlt => g2.block k hlt, hR.tight, fun k hk => ⟨by omega, by omega, fun q => by omega, fun q => q⟩, fun k hk => ⟨by omega, by omega, fun q => q⟩⟩, keep_grows (keep_grows (keep_of h0) g1) g2, fun k hk => hk.elim⟩
/-- The state of PinPlays's law between two calls. -/
structure PlSt (w W : World) (t g : Nat) (most next : Int) (hl : HL) (B : Nat) : Prop where
  pl : PL (fun _ => False) w W t g most next hl next hl
  bound : ∀ x ∈ hl, x.2.length ≤ B
/-- .. and behind a call on each, its box still there. -/
structure MidSt (w W : World) (t g b : Nat) (what hd sg : Int) (v : Value) (most next : Int) (hl : HL) (B : Nat) : Prop where
  pl : PL (fun k => k = b) w W t g most next hl next hl
  bound : ∀ x ∈ hl, x.2.length ≤ B
  box : OpBox (fun k => k = b) W b what hd sg v
end Go.Proofs.Ytdfjacpfmjgfiaa
