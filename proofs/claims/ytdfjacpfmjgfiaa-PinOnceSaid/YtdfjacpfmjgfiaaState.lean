/-
  Layer 17: a table as it lies in memory.
-/
import Derived.Test.YtdfjacpfmjgfiaaIntMap
import Derived.Test.YtdfjacpfmjgfiaaWMore
namespace Go.Proofs.Ytdfjacpfmjgfiaa
set_option linter.unusedVariables false
set_option linter.unusedSimpArgs false
open Go.RowKit Go.Proofs.YtdfjacpfmjgfiaaW.PrintWords Go.Proofs.YtdfjacpfmjgfiaaW.PrintMore
attribute [local go_sem] max2_int
/-- A handle: its number, its box, the slice in the box, the segments. -/
structure Hd where
  key : Int
  box : Nat
  v : Value
  l : List Int
def entS (hs : List Hd) : Ents := hs.map fun x => (x.key, .pointer (some ⟨x.box, 0, none⟩))
def entP (ps : List (Int × Int)) : Ents := ps.map fun p => (p.1, .int .i64 p.2)
/-- The blocks that are a table's own. -/
def OwnT (t S P : Nat) (hs : List Hd) (k : Nat) : Prop := k = t ∨ k = S ∨ k = P ∨ ∃ x ∈ hs, k = x.box ∨ x.v.ownBlock = some k
structure Tab (W : World) (B t S P : Nat) (most next : Int) (hs : List Hd) (ps : List (Int × Int)) : Prop where
  blk : W.heap[t]? = some (.cells #[.int .i64 most, .int .i64 next, .map (some S), .map (some P)] 51 (0, 0))
  segs : IMap W S (entS hs)
  pins : IMap W P (entP ps)
  box : ∀ x ∈ hs, W.heap[x.box]? = some (.cells #[x.v] 29 (0, 0)) ∧ W.ownsRow B 3 1 x.v x.l.length (nums .i64 x.l)
  apart : hs.Pairwise fun x y => x.box ≠ y.box ∧ ∀ k, x.v.ownBlock = some k → y.v.ownBlock ≠ some k
  SP : S ≠ P
theorem Tab.keep {W W' : World} {B t S P : Nat} {most next : Int} {hs : List Hd} {ps : List (Int × Int)} (h : Tab W B t S P most next hs ps) (hk : ∀ k, OwnT t S P hs k → W'.heap[k]? = W.heap[k]?) : Tab W' B t S P most next hs ps :=
  ⟨(hk t (.inl rfl)).trans h.blk, h.segs.keep (hk S (.inr (.inl rfl))), h.pins.keep (hk P (.inr (.inr (.inl rfl)))),
    fun x hx => ⟨(hk x.box (.inr (.inr (.inr ⟨x, hx, .inl rfl⟩)))).trans (h.box x hx).1, own_move (h.box x hx).2 fun k e => hk k (.inr (.inr (.inr ⟨x, hx, .inr e⟩)))⟩, h.apart, h.SP⟩
theorem Tab.lt {W : World} {B t S P : Nat} {most next : Int} {hs : List Hd} {ps : List (Int × Int)} (h : Tab W B t S P most next hs ps) {k : Nat} (hk : OwnT t S P hs k) : k < W.heap.size := by
  rcases hk with rfl | rfl | rfl | ⟨x, hx, rfl | e⟩
  · exact lt_heap h.blk
  · exact h.segs.lt
  · exact h.pins.lt
  · exact lt_heap (h.box x hx).1
  · exact own_lt (h.box x hx).2 k e
theorem Tab.grows {W W' : World} {B t S P : Nat} {most next : Int} {hs : List Hd} {ps : List (Int × Int)} (h : Tab W B t S P most next hs ps) (hg : Grows W W') : Tab W' B t S P most next hs ps :=
  h.keep fun k hk => hg.block k (h.lt hk)
section
variable {W : World} {B t S P : Nat} {most next : Int} {hs : List Hd} {ps : List (Int × Int)}
theorem Tab.c0 (h : Tab W B t S P most next hs ps) : W.cell? ⟨t, 0, none⟩ = some (.int .i64 most) := cell_of_row W t 0 _ 51 (0, 0) h.blk
theorem Tab.c1 (h : Tab W B t S P most next hs ps) : W.cell? ⟨t, 1, none⟩ = some (.int .i64 next) := cell_of_row W t 1 _ 51 (0, 0) h.blk
theorem Tab.c2 (h : Tab W B t S P most next hs ps) : W.cell? ⟨t, 2, none⟩ = some (.map (some S)) := cell_of_row W t 2 _ 51 (0, 0) h.blk
theorem Tab.c3 (h : Tab W B t S P most next hs ps) : W.cell? ⟨t, 3, none⟩ = some (.map (some P)) := cell_of_row W t 3 _ 51 (0, 0) h.blk
theorem Tab.fr (h : Tab W B t S P most next hs ps) (j : Nat) : W.frozen? ⟨t, j, none⟩ = false := frozen_of_row W t j _ 51 h.blk
end
theorem zero3 (w : World) : (zeroValue 3).run Try.prog w = .ok (.int .i64 0) w := by go_simp
theorem zero55 (w : World) : (zeroValue 55).run Try.prog w = .ok (.pointer none) w := by go_simp
/-- The handle of a number. -/
def hdOf (hs : List Hd) (h : Int) : Option Hd := hs.find? fun x => x.key == h
theorem look_S (hs : List Hd) (h : Int) : alook (entS hs) h = (hdOf hs h).map fun x => .pointer (some ⟨x.box, 0, none⟩) := by
  induction hs with
  | nil => rfl
  | cons x hs ih =>
    show (if x.key = h then _ else alook (entS hs) h) = Option.map _ (List.find? _ (x :: hs))
    rw [List.find?_cons]
    by_cases hk : x.key = h
    · rw [if_pos hk, beq_iff_eq.2 hk]; rfl
    · rw [if_neg hk, beq_eq_false_iff_ne.2 hk]; exact ih
/-- How many pin a segment. -/
def pinOf (ps : List (Int × Int)) (n : Int) : Int := ((ps.find? fun p => p.1 == n).map (·.2)).getD 0
theorem look_P (ps : List (Int × Int)) (n : Int) : (alook (entP ps) n).getD (.int .i64 0) = .int .i64 (pinOf ps n) := by
  unfold pinOf
  induction ps with
  | nil => rfl
  | cons p ps ih =>
    show (if p.1 = n then some (Value.int .i64 p.2) else alook (entP ps) n).getD _ = _
    rw [List.find?_cons]
    by_cases hk : p.1 = n
    · rw [if_pos hk, beq_iff_eq.2 hk]; rfl
    · rw [if_neg hk, beq_eq_false_iff_ne.2 hk]; exact ih
set_option maxRecDepth 100000 in
theorem pinned_calls {W : World} {B t S P : Nat} {most next : Int} {hs : List Hd} {ps : List (Int × Int)} (h : Tab W B t S P most next hs ps) (n : Int) :
    Calls Try.prog 26 #[.pointer (some ⟨t, 0, none⟩), .int .i64 n] W fun e w' => e = .returned (.bool (decide (0 < pinOf ps n))) ∧ w' = W := by
  have c3 := h.c3
  have hl := run_look_i Try.underlying49 Try.underlying3 zero3 h.pins n
  rw [look_P] at hl
  clear h
  go_enter Try.func26, Try.ntmps26
  go_wp2
  go_ret
  exact ⟨rfl, rfl⟩
set_option maxRecDepth 100000 in
theorem is_calls {W : World} {B t S P : Nat} {most next : Int} {hs : List Hd} {ps : List (Int × Int)} (h : Tab W B t S P most next hs ps) (n : Int) :
    Calls Try.prog 21 #[.pointer (some ⟨t, 0, none⟩), .int .i64 n] W fun e w' => e = .returned (.bool (hdOf hs n).isSome) ∧ w' = W := by
  have c2 := h.c2
  have hl := run_look_i Try.underlying48 Try.underlying3 zero55 h.segs n
  rw [look_S] at hl
  clear h
  go_enter Try.func21, Try.ntmps21
  cases hd : hdOf hs n with
  | none =>
    rw [hd] at hl
    simp only [Option.map_none, Option.getD_none] at hl
    go_wp2
    go_ret
    exact ⟨rfl, rfl⟩
  | some x =>
    rw [hd] at hl
    simp only [Option.map_some, Option.getD_some] at hl
    go_wp2
    go_ret
    exact ⟨rfl, rfl⟩
set_option maxRecDepth 100000 in
theorem many_calls {W : World} {B t S P : Nat} {most next : Int} {hs : List Hd} {ps : List (Int × Int)} (h : Tab W B t S P most next hs ps) :
    Calls Try.prog 19 #[.pointer (some ⟨t, 0, none⟩)] W fun e w' => e = .returned (.int .i64 hs.length) ∧ w' = W := by
  have c2 := h.c2
  obtain ⟨a, c, hb, hn⟩ := h.segs.len
  have hn2 : a.size = hs.length := by rw [hn]; simp [entS]
  have hlen : (Builtin.len_ #[48] 3 #[.map (some S)]).run Try.prog W = .ok (.int .i64 hs.length) W := by
    simp [Builtin.len_, run_underlying Try.underlying48, Go.MapKept.run_getObj_map hb, hn2, goInt]
  clear h hn hn2 hb
  go_enter Try.func19, Try.ntmps19
  go_wp2
  go_ret
  exact ⟨rfl, rfl⟩
end Go.Proofs.Ytdfjacpfmjgfiaa
