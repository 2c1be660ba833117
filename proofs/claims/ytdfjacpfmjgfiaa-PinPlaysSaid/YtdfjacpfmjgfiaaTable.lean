/-
  Layer 17: a table as it lies in memory.
-/
import Derived.Test.YtdfjacpfmjgfiaaIntMap
import Derived.Test.YtdfjacpfmjgfiaaWMore
import Derived.Test.YtdfjacpfmjgfiaaWZeros
import Derived.Lib.LazyBuf
namespace Go.Proofs.Ytdfjacpfmjgfiaa
set_option linter.unusedVariables false
set_option linter.unusedSimpArgs false
open Go.RowKit Go.Proofs.YtdfjacpfmjgfiaaW.PrintWords Go.Proofs.YtdfjacpfmjgfiaaW.PrintMore
attribute [local go_sem] max2_int
/-- A handle: its number, its box, the slice in the box, the segments. -/
structure Hd where
  key : Int
  box : Nat
  v : Value
  l : List Int
def entS (hs : List Hd) : Ents := hs.map fun x => (x.key, .pointer (some ⟨x.box, 0, none⟩))
def entP (ps : List (Int × Int)) : Ents := ps.map fun p => (p.1, .int .i64 p.2)
/-- The blocks that are a table's own. -/
def OwnT (t S P : Nat) (hs : List Hd) (k : Nat) : Prop := k = t ∨ k = S ∨ k = P ∨ ∃ x ∈ hs, k = x.box ∨ x.v.ownBlock = some k
structure Tab (W : World) (B t S P : Nat) (most next : Int) (hs : List Hd) (ps : List (Int × Int)) : Prop where
  blk : W.heap[t]? = some (.cells #[.int .i64 most, .int .i64 next, .map (some S), .map (some P)] 51 (0, 0))
  segs : IMap W S (entS hs)
  pins : IMap W P (entP ps)
  box : ∀ x ∈ hs, W.heap[x.box]? = some (.cells #[x.v] 29 (0, 0)) ∧ W.ownsRow B 3 1 x.v x.l.length (nums .i64 x.l)
  apart : hs.Pairwise fun x y => x.box ≠ y.box ∧ ∀ k, x.v.ownBlock = some k → y.v.ownBlock ≠ some k
  SP : S ≠ P
theorem Tab.keep {W W' : World} {B t S P : Nat} {most next : Int} {hs : List Hd} {ps : List (Int × Int)} (h : Tab W B t S P most next hs ps) (hk : ∀ k, OwnT t S P hs k → W'.heap[k]? = W.heap[k]?) : Tab W' B t S P most next hs ps :=
  ⟨(hk t (.inl rfl)).trans h.blk, h.segs.keep (hk S (.inr (.inl rfl))), h.pins.keep (hk P (.inr (.inr (.inl rfl)))),
    fun x hx => ⟨(hk x.box (.inr (.inr (.inr ⟨x, hx, .inl rfl⟩)))).trans (h.box x hx).1, own_move (h.box x hx).2 fun k e => hk k (.inr (.inr (.inr ⟨x, hx, .inr e⟩)))⟩, h.apart, h.SP⟩
theorem Tab.lt {W : World} {B t S P : Nat} {most next : Int} {hs : List Hd} {ps : List (Int × Int)} (h : Tab W B t S P most next hs ps) {k : Nat} (hk : OwnT t S P hs k) : k < W.heap.size := by
  rcases hk with rfl | rfl | rfl | ⟨x, hx, rfl | e⟩
  · exact lt_heap h.blk
  · exact h.segs.lt
  · exact h.pins.lt
  · exact lt_heap (h.box x hx).1
  · exact own_lt (h.box x hx).2 k e
theorem Tab.grows {W W' : World} {B t S P : Nat} {most next : Int} {hs : List Hd} {ps : List (Int × Int)} (h : Tab W B t S P most next hs ps) (hg : Grows W W') : Tab W' B t S P most next hs ps :=
  h.keep fun k hk => hg.block k (h.lt hk)
section
variable {W : World} {B t S P : Nat} {most next : Int} {hs : List Hd} {ps : List (Int × Int)}
theorem Tab.c0 (h : Tab W B t S P most next hs ps) : W.cell? ⟨t, 0, none⟩ = some (.int .i64 most) := cell_of_row W t 0 _ 51 (0, 0) h.blk
theorem Tab.c1 (h : Tab W B t S P most next hs ps) : W.cell? ⟨t, 1, none⟩ = some (.int .i64 next) := cell_of_row W t 1 _ 51 (0, 0) h.blk
theorem Tab.c2 (h : Tab W B t S P most next hs ps) : W.cell? ⟨t, 2, none⟩ = some (.map (some S)) := cell_of_row W t 2 _ 51 (0, 0) h.blk
theorem Tab.c3 (h : Tab W B t S P most next hs ps) : W.cell? ⟨t, 3, none⟩ = some (.map (some P)) := cell_of_row W t 3 _ 51 (0, 0) h.blk
theorem Tab.fr (h : Tab W B t S P most next hs ps) (j : Nat) : W.frozen? ⟨t, j, none⟩ = false := frozen_of_row W t j _ 51 h.blk
end
theorem zero3 (w : World) : (zeroValue 3).run Try.prog w = .ok (.int .i64 0) w := by go_simp
theorem zero55 (w : World) : (zeroValue 55).run Try.prog w = .ok (.pointer none) w := by go_simp
/-- The handle of a number. -/
def hdOf (hs : List Hd) (h : Int) : Option Hd := hs.find? fun x => x.key == h
theorem look_S (hs : List Hd) (h : Int) : alook (entS hs) h = (hdOf hs h).map fun x => .pointer (some ⟨x.box, 0, none⟩) := by
  induction hs with
  | nil => rfl
  | cons x hs ih =>
    show (if x.key = h then _ else alook (entS hs) h) = Option.map _ (List.find? _ (x :: hs))
    rw [List.find?_cons]
    by_cases hk : x.key = h
    · rw [if_pos hk, beq_iff_eq.2 hk]; rfl
    · rw [if_neg hk, beq_eq_false_iff_ne.2 hk]; exact ih
/-- How many pin a segment. -/
def pinOf (ps : List (Int × Int)) (n : Int) : Int := ((ps.find? fun p => p.1 == n).map (·.2)).getD 0
theorem look_P (ps : List (Int × Int)) (n : Int) : (alook (entP ps) n).getD (.int .i64 0) = .int .i64 (pinOf ps n) := by
  unfold pinOf
  induction ps with
  | nil => rfl
  | cons p ps ih =>
    show (if p.1 = n then some (Value.int .i64 p.2) else alook (entP ps) n).getD _ = _
    rw [List.find?_cons]
    by_cases hk : p.1 = n
    · rw [if_pos hk, beq_iff_eq.2 hk]; rfl
    · rw [if_neg hk, beq_eq_false_iff_ne.2 hk]; exact ih
set_option maxRecDepth 100000 in
theorem pinned_calls {W : World} {B t S P : Nat} {most next : Int} {hs : List Hd} {ps : List (Int × Int)} (h : Tab W B t S P most next hs ps) (n : Int) :
    Calls Try.prog 26 #[.pointer (some ⟨t, 0, none⟩), .int .i64 n] W fun e w' => e = .returned (.bool (decide (0 < pinOf ps n))) ∧ w' = W := by
  have c3 := h.c3
  have hl := run_look_i Try.underlying49 Try.underlying3 zero3 h.pins n
  rw [look_P] at hl
  clear h
  go_enter Try.func26, Try.ntmps26
  go_wp2
  go_ret
  exact ⟨rfl, rfl⟩
set_option maxRecDepth 100000 in
theorem is_calls {W : World} {B t S P : Nat} {most next : Int} {hs : List Hd} {ps : List (Int × Int)} (h : Tab W B t S P most next hs ps) (n : Int) :
    Calls Try.prog 21 #[.pointer (some ⟨t, 0, none⟩), .int .i64 n] W fun e w' => e = .returned (.bool (hdOf hs n).isSome) ∧ w' = W := by
  have c2 := h.c2
  have hl := run_look_i Try.underlying48 Try.underlying3 zero55 h.segs n
  rw [look_S] at hl
  clear h
  go_enter Try.func21, Try.ntmps21
  cases hd : hdOf hs n with
  | none =>
    rw [hd] at hl
    simp only [Option.map_none, Option.getD_none] at hl
    go_wp2
    go_ret
    exact ⟨rfl, rfl⟩
  | some x =>
    rw [hd] at hl
    simp only [Option.map_some, Option.getD_some] at hl
    go_wp2
    go_ret
    exact ⟨rfl, rfl⟩
set_option maxRecDepth 100000 in
theorem many_calls {W : World} {B t S P : Nat} {most next : Int} {hs : List Hd} {ps : List (Int × Int)} (h : Tab W B t S P most next hs ps) :
    Calls Try.prog 19 #[.pointer (some ⟨t, 0, none⟩)] W fun e w' => e = .returned (.int .i64 hs.length) ∧ w' = W := by
  have c2 := h.c2
  obtain ⟨a, c, hb, hn⟩ := h.segs.len
  have hn2 : a.size = hs.length := by rw [hn]; simp [entS]
  have hlen : (Builtin.len_ #[48] 3 #[.map (some S)]).run Try.prog W = .ok (.int .i64 hs.length) W := by
    simp [Builtin.len_, run_underlying Try.underlying48, Go.MapKept.run_getObj_map hb, hn2, goInt]
  clear h hn hn2 hb
  go_enter Try.func19, Try.ntmps19
  go_wp2
  go_ret
  exact ⟨rfl, rfl⟩
end Go.Proofs.Ytdfjacpfmjgfiaa

/-
  Layer 17: a segment is pinned by one less.
-/
namespace Go.Proofs.Ytdfjacpfmjgfiaa
set_option linter.unusedVariables false
set_option linter.unusedSimpArgs false
open Go.RowKit Go.Proofs.YtdfjacpfmjgfiaaW.PrintWords Go.Proofs.YtdfjacpfmjgfiaaW.PrintMore
attribute [local go_sem] max2_int
def putP : List (Int × Int) → Int → Int → List (Int × Int)
  | [], n, c => [(n, c)]
  | p :: ps, n, c => if p.1 = n then (n, c) :: ps else p :: putP ps n c
def delP : List (Int × Int) → Int → List (Int × Int)
  | [], n => []
  | p :: ps, n => if p.1 = n then ps else p :: delP ps n
theorem entP_put : ∀ (ps : List (Int × Int)) (n c : Int), aput (entP ps) n (.int .i64 c) = entP (putP ps n c)
  | [], n, c => rfl
  | p :: ps, n, c => by
    show (if p.1 = n then _ else _) = entP (if p.1 = n then _ else _)
    by_cases h : p.1 = n
    · rw [if_pos h, if_pos h]; rfl
    · rw [if_neg h, if_neg h]
      show _ :: aput (entP ps) n _ = _ :: entP (putP ps n c)
      rw [entP_put ps n c]
theorem entP_del : ∀ (ps : List (Int × Int)) (n : Int), adel (entP ps) n = entP (delP ps n)
  | [], n => rfl
  | p :: ps, n => by
    show (if p.1 = n then _ else _) = entP (if p.1 = n then _ else _)
    by_cases h : p.1 = n
    · rw [if_pos h, if_pos h]; rfl
    · rw [if_neg h, if_neg h]
      show _ :: adel (entP ps) n = _ :: entP (delP ps n)
      rw [entP_del ps n]
theorem pinOf_cons (p : Int × Int) (ps : List (Int × Int)) (n : Int) : pinOf (p :: ps) n = if p.1 = n then p.2 else pinOf ps n := by
  unfold pinOf
  rw [List.find?_cons]
  by_cases h : p.1 = n
  · rw [if_pos h, beq_iff_eq.2 h]; rfl
  · rw [if_neg h, beq_eq_false_iff_ne.2 h]
theorem pinOf_put : ∀ (ps : List (Int × Int)) (n c m : Int), pinOf (putP ps n c) m = if m = n then c else pinOf ps m
  | [], n, c, m => by
    show pinOf [(n, c)] m = _
    rw [pinOf_cons]
    by_cases h : n = m
    · rw [if_pos h, if_pos h.symm]
    · rw [if_neg h, if_neg (fun e => h e.symm)]
  | p :: ps, n, c, m => by
    rw [putP]
    by_cases h : p.1 = n
    · rw [if_pos h, pinOf_cons, pinOf_cons, h]
      by_cases h2 : n = m
      · rw [if_pos h2, if_pos h2.symm]
      · rw [if_neg h2, if_neg (fun e => h2 e.symm), if_neg h2]
    · rw [if_neg h, pinOf_cons, pinOf_cons, pinOf_put ps n c m]
      by_cases h2 : p.1 = m
      · rw [if_pos h2, if_pos h2, if_neg (fun e => h (h2.trans e))]
      · rw [if_neg h2, if_neg h2]
theorem put_keys : ∀ (ps : List (Int × Int)) (n c : Int), (ps.map (·.1)).Nodup → ((putP ps n c).map (·.1)).Nodup ∧ ∀ k, k ∈ (putP ps n c).map (·.1) ↔ k = n ∨ k ∈ ps.map (·.1)
  | [], n, c, _ => ⟨by simp [putP], fun k => by simp [putP]⟩
  | p :: ps, n, c, h => by
    obtain ⟨h1, h2⟩ := List.nodup_cons.1 h
    rw [putP]
    by_cases hp : p.1 = n
    · rw [if_pos hp]
      subst hp
      exact ⟨h, fun k => by simp⟩
    · rw [if_neg hp]
      obtain ⟨i1, i2⟩ := put_keys ps n c h2
      refine ⟨List.nodup_cons.2 ⟨fun hm => ?_, i1⟩, fun k => ?_⟩
      · rcases (i2 p.1).1 hm with e | e
        · exact hp e
        · exact h1 e
      · rw [List.map_cons, List.mem_cons, i2, List.map_cons, List.mem_cons]
        constructor
        · rintro (h | h | h)
          · exact .inr (.inl h)
          · exact .inl h
          · exact .inr (.inr h)
        · rintro (h | h | h)
          · exact .inr (.inl h)
          · exact .inl h
          · exact .inr (.inr h)
theorem del_keys : ∀ (ps : List (Int × Int)) (n : Int), (ps.map (·.1)).Nodup → ((delP ps n).map (·.1)).Nodup ∧ (∀ k, k ∈ (delP ps n).map (·.1) → k ∈ ps.map (·.1)) ∧ ∀ m, pinOf (delP ps n) m = if m = n then 0 else pinOf ps m
  | [], n, _ => ⟨by simp [delP], fun k h => by simp [delP] at h, fun m => by simp [delP, pinOf]⟩
  | p :: ps, n, h => by
    obtain ⟨h1, h2⟩ := List.nodup_cons.1 h
    have hno : ∀ (qs : List (Int × Int)) (k : Int), k ∉ qs.map (·.1) → pinOf qs k = 0 := by
      intro qs k hk
      induction qs with
      | nil => rfl
      | cons q qs ih =>
        rw [pinOf_cons, if_neg (fun e => hk (by rw [List.map_cons, List.mem_cons]; exact .inl e.symm)), ih (fun e => hk (by rw [List.map_cons, List.mem_cons]; exact .inr e))]
    rw [delP]
    by_cases hp : p.1 = n
    · rw [if_pos hp]
      refine ⟨h2, fun k hk => by rw [List.map_cons, List.mem_cons]; exact .inr hk, fun m => ?_⟩
      rw [pinOf_cons]
      by_cases hm : m = n
      · rw [if_pos hm, hm, ← hp]; exact hno ps p.1 h1
      · rw [if_neg hm, if_neg (fun e => hm (e.symm.trans hp))]
    · rw [if_neg hp]
      obtain ⟨i1, i2, i3⟩ := del_keys ps n h2
      refine ⟨List.nodup_cons.2 ⟨fun hm => h1 (i2 _ hm), i1⟩, fun k hk => ?_, fun m => ?_⟩
      · rw [List.map_cons, List.mem_cons] at hk ⊢
        exact hk.imp id (i2 k)
      · rw [pinOf_cons, pinOf_cons, i3]
        by_cases h2 : p.1 = m
        · rw [if_pos h2, if_pos h2, if_neg (fun e => hp (h2.trans e))]
        · rw [if_neg h2, if_neg h2]
theorem Tab.pinsTo {W W' : World} {B t S P : Nat} {most next : Int} {hs : List Hd} {ps ps' : List (Int × Int)} (h : Tab W B t S P most next hs ps) (hg : W.grownBy W' (some P)) (hm : IMap W' P (entP ps')) : Tab W' B t S P most next hs ps' := by
  have hne : ∀ (k : Nat) (o : Obj), W.heap[k]? = some o → o.isCells = true → k ≠ P := fun k o ho hc e => by
    obtain ⟨a, c, hb, _⟩ := h.pins
    rw [e, hb] at ho
    rw [← Option.some.inj ho] at hc
    cases hc
  refine ⟨(hg.block t (lt_heap h.blk) (fun e => hne t _ h.blk rfl (Option.some.inj e))).trans h.blk, h.segs.keep (hg.block S h.segs.lt (fun e => h.SP (Option.some.inj e))), hm, fun x hx => ?_, h.apart, h.SP⟩
  have hb := h.box x hx
  refine ⟨(hg.block _ (lt_heap hb.1) (fun e => hne _ _ hb.1 rfl (Option.some.inj e))).trans hb.1, own_move hb.2 fun k hk => ?_⟩
  obtain ⟨cs, hcs⟩ := own_typed hb.2 k hk
  exact hg.block k (lt_heap hcs) (fun e => hne _ _ hcs rfl (Option.some.inj e))
set_option maxRecDepth 100000 in
theorem loose_calls {W : World} {B t S P : Nat} {most next : Int} {hs : List Hd} {ps : List (Int × Int)} (h : Tab W B t S P most next hs ps) (hn : (ps.map (·.1)).Nodup) (n : Int) (h0 : -1000000 ≤ pinOf ps n) (h1 : pinOf ps n ≤ 1000000) :
    Calls Try.prog 34 #[.pointer (some ⟨t, 0, none⟩), .int .i64 n] W fun e w' => e = .returned (.tuple #[]) ∧ ∃ ps', Tab w' B t S P most next hs ps' ∧ (ps'.map (·.1)).Nodup ∧ (∀ m, pinOf ps' m = if m = n then pinOf ps n - 1 else pinOf ps m) ∧ W.grownBy w' (some P) := by
  have c3 := h.c3
  have hl := run_look_i Try.underlying49 Try.underlying3 zero3 h.pins n
  rw [look_P] at hl
  have hw : IntKind.i64.wrap (pinOf ps n - 1) = pinOf ps n - 1 := IntWalk.i64_in _ ⟨by omega, by omega⟩
  obtain ⟨W1, hput, hm1, hg1⟩ := run_put_i Try.underlying49 Try.underlying3 h.pins n (.int .i64 (pinOf ps n - 1))
  rw [entP_put] at hm1
  have HT1 := h.pinsTo hg1 hm1
  have c31 := HT1.c3
  have hl1 := run_look_i Try.underlying49 Try.underlying3 zero3 HT1.pins n
  rw [look_P, pinOf_put, if_pos rfl] at hl1
  obtain ⟨W2, hdel, hm2, hg2⟩ := run_del_i Try.underlying49 Try.underlying3 0 HT1.pins n
  rw [entP_del] at hm2
  have H1 := Aside0.mk HT1
  have H2 := Aside0.mk (HT1.pinsTo hg2 hm2)
  have HG1 := Aside0.mk hg1
  have HG2 := Aside0.mk hg2
  have HN := Aside0.mk hn
  have hk1 := put_keys ps n (pinOf ps n - 1) hn
  have HK1 := Aside0.mk hk1.1
  have HK2 := Aside0.mk (del_keys (putP ps n (pinOf ps n - 1)) n hk1.1)
  clear h HT1 hm1 hg1 hm2 hg2 hn hk1
  go_enter Try.func34, Try.ntmps34
  by_cases hz : pinOf ps n - 1 = 0
  · have hzb : (pinOf ps n - 1 == 0) = true := beq_iff_eq.2 hz
    have HZ := Aside0.mk hz
    clear hz
    go_wp2
    go_end0
    refine ⟨rfl, _, H2.out, HK2.out.1, fun m => ?_, grown_trans HG1.out HG2.out⟩
    rw [HK2.out.2.2, pinOf_put]
    by_cases hm : m = n
    · rw [if_pos hm, if_pos hm, HZ.out]
    · rw [if_neg hm, if_neg hm]
  · have hzb : (pinOf ps n - 1 == 0) = false := beq_eq_false_iff_ne.2 hz
    clear hz
    go_wp2
    go_end0
    exact ⟨rfl, _, H1.out, HK1.out, fun m => pinOf_put _ _ _ _, HG1.out⟩
end Go.Proofs.Ytdfjacpfmjgfiaa

/-
  Layer 17: slices.Insert of one number into an own row of numbers.
-/
namespace Go.Proofs.Ytdfjacpfmjgfiaa
set_option linter.unusedVariables false
set_option linter.unusedSimpArgs false
open Go.RowKit Go.Proofs.YtdfjacpfmjgfiaaW.PrintWords Go.Proofs.YtdfjacpfmjgfiaaW.PrintMore
attribute [local go_sem] max2_int
theorem info3' : (Try.prog.info? 3).map (fun i => (i.zero, i.size, i.bytes)) = some (some (.int .i64 0), 1, 8) := by kernel_rfl
theorem ints_run {t u ty : TypeId} (ht : Try.prog.underlying t = some (.slice 3)) (hu : Try.prog.underlying u = some (.slice 3)) {W : World} (base : Nat) (v : Value) (xs ys : List Int) (A : Option Addr) (m c : Nat) (HO : W.ownsRow base 3 1 v xs.length (nums .i64 xs)) (HR : ReadsInt W .i64 A m ys) (hbase : base ≤ W.heap.size) (hl : (xs.length + m) * 8 ≤ 140737488355328) :
    ∃ v1 w1, (Builtin.append_ #[t, u] ty #[v, .slice A m c]).run Try.prog W = .ok v1 w1 ∧ w1.ownsRow base 3 1 v1 (xs ++ ys).length (nums .i64 (xs ++ ys)) ∧ W.grownBy w1 v.ownBlock ∧ (v1.ownBlock = v.ownBlock ∨ v1.ownBlock = some W.heap.size) := by
  obtain ⟨b0, c0, ev, _⟩ := own_slice HO
  have hty : (Builtin.append_ #[t, u] ty #[v, .slice A m c]).run Try.prog W = (Builtin.append_ #[t, t] ty #[v, .slice A m c]).run Try.prog W := by rw [ev]; exact append_types ht hu _ _ _ _ _
  rw [hty]
  clear hty ev
  obtain ⟨i0, hi, hz0, hz1, hz2⟩ := parts3 info3'
  have hm : ys.length = m := HR.1
  have hl2 : (xs ++ ys).length = xs.length + m := by rw [List.length_append, hm]
  have hn2 : nums .i64 (xs ++ ys) = nums .i64 xs ++ nums .i64 ys := by simp [nums]
  rcases A with _ | ad
  · have h0 : m = 0 := by
      rcases Nat.eq_zero_or_pos m with h0 | h0
      · exact h0
      · obtain ⟨ad, h, _⟩ := HR.2.2 h0
        cases h
    subst h0
    obtain rfl : ys = [] := List.eq_nil_of_length_eq_zero hm
    refine ⟨v, W, ?_, by simpa using HO, World.grownBy.refl W _, .inl rfl⟩
    rcases HO.2 with ⟨rfl, hn⟩ | ⟨g, cap, cur, rfl, _, _, hnc, _⟩
    · simp [Builtin.append_, run_underlying ht, sizeOf, typeInfo, hi, Builtin.lenOf, Builtin.firstCells]
    · simp [Builtin.append_, run_underlying ht, sizeOf, typeInfo, hi, Builtin.lenOf, Builtin.firstCells, hnc, storeCells]
  · have hcells : ∀ j u, (nums .i64 ys)[j]? = some u → W.cell? (ad.add j) = some u := by
      intro j u hu
      have hj : j < ys.length := by
        rcases Nat.lt_or_ge j ys.length with h | h
        · exact h
        · simp [nums, List.getElem?_eq_none h] at hu
      obtain ⟨ad', h', hc⟩ := HR.2.2 (by omega)
      injection h' with h'
      subst h'
      have := hc j (by omega)
      simp [nums, List.getElem?_eq_getElem hj] at hu
      subst hu
      rw [this]
      simp [List.getD_eq_getElem?_getD, List.getElem?_eq_getElem hj]
    obtain ⟨v1, w1, hr, h2, h3, _, h5⟩ := run_append_own_at (P := Try.prog) W base t ty 3 i0 (.int .i64 0) 1 8 ht hi hz0 hz1 hz2 rfl (by omega) v xs.length (nums .i64 xs) HO ad m c (nums .i64 ys) (by simp [nums, hm]) hcells
      (by intro u hu; simp only [nums, List.mem_map] at hu; obtain ⟨q, _, rfl⟩ := hu; rfl) (by simp only [maxLen]; omega) (by omega) hbase
    refine ⟨v1, w1, hr, ?_, h3, h5⟩
    rw [hl2, hn2]; exact h2
/-- What Insert does of an own row. -/
def InsPost (W : World) (B : Nat) (v : Value) (xs' : List Int) (e : Ending) (w' : World) : Prop :=
  ∃ v', e = .returned v' ∧ w'.ownsRow B 3 1 v' xs'.length (nums .i64 xs') ∧ W.grownBy w' v.ownBlock ∧ (v'.ownBlock = v.ownBlock ∨ ∃ b, W.heap.size ≤ b ∧ v'.ownBlock = some b)
set_option maxRecDepth 100000 in
set_option maxHeartbeats 1000000 in
theorem insert_end {W : World} {B : Nat} {v : Value} {xs : List Int} (ho : W.ownsRow B 3 1 v xs.length (nums .i64 xs)) (hB : B ≤ W.heap.size) (g : Nat) (n : Int) (hg : W.heap[g]? = some (.cells #[.int .i64 n] 3 (0, 0))) (hl : xs.length ≤ 100000) :
    Calls Try.prog 31 #[v, .int .i64 xs.length, .slice (some ⟨g, 0, none⟩) 1 1] W (InsPost W B v (xs ++ [n])) := by
  have hrd : ReadsInt W .i64 (some ⟨g, 0, none⟩) 1 [n] := ⟨rfl, by decide, fun _ => ⟨_, rfl, fun j hj => by
    obtain rfl : j = 0 := by omega
    exact cell_of_row W g 0 _ 3 (0, 0) hg⟩⟩
  obtain ⟨v1, w1, hr, ho1, hg1, hloc⟩ := ints_run (t := 29) (u := 29) (ty := 29) Try.underlying29 Try.underlying29 B v xs [n] (some ⟨g, 0, none⟩) 1 1 ho hrd hB (by omega)
  obtain ⟨A, c, rfl, hc⟩ := own_slice ho
  have HO1 := Aside0.mk ho1
  have HG1 := Aside0.mk hg1
  have HL1 := Aside0.mk hloc
  have h1 : (xs.length : Int) ≤ (c : Int) := by omega
  have h2 : (0 : Int) ≤ (xs.length : Int) := by omega
  clear hrd ho ho1 hg1 hloc hg
  by_cases hcc : c = xs.length
  · subst hcc
    go_enter Try.func31, Try.ntmps31
    go_wp2_with (at_builtin; refine wpList_appendE (.tmp 23) (.tmp 24) 29 rfl rfl rfl rfl ⟨_, _, hr, ?_⟩)
    go_ret
    exact ⟨v1, rfl, HO1.out, HG1.out, HL1.out.imp id fun e => ⟨_, Nat.le_refl _, e⟩⟩
  · go_enter Try.func31, Try.ntmps31
    go_wp2_with (at_builtin; refine wpList_appendE (.tmp 23) (.tmp 24) 29 rfl rfl rfl rfl ⟨_, _, hr, ?_⟩)
    go_ret
    exact ⟨v1, rfl, HO1.out, HG1.out, HL1.out.imp id fun e => ⟨_, Nat.le_refl _, e⟩⟩
/-- append(s[:i], make([]int, m)...) where there is no room. -/
theorem zeros_grow {W : World} {b i cap : Nat} {cur : Array Value} (hb : W.heap[b]? = some (.cells cur 3 (0, 0))) (hcs : cur.size = cap) (m : Nat) (hi : i ≤ cap) (hg : cap < i + m) (hm : 0 < m) (hl : i + m ≤ 1000000) :
    ∃ (cap' : Nat) (cs : Array Value) (w' : World), (Builtin.append_ #[29, 3] 29 #[.slice (some ⟨b, 0, none⟩) i cap, .int .i64 m]).run Try.prog W = .ok (.slice (some ⟨W.heap.size, 0, none⟩) (i + m) cap') w' ∧ i + m ≤ cap' ∧ cap' ≤ maxLen ∧ cs.size = cap' ∧ cs.toList.take (i + m) = cur.toList.take i ++ List.replicate m (.int .i64 0) ∧ w'.heap[W.heap.size]? = some (.cells cs 3 (0, 0)) ∧ Grows W w' := by
  obtain ⟨i0, hi0, hz0, hz1, hz2⟩ := parts3 info3'
  have hw : IntKind.i64.wrap (m : Int) = m := by rw [IntKind.wrap_i64]; omega
  have hneg : ¬ ((m : Int) < 0) := by omega
  have hbig : ¬ (281474976710656 < (m : Int) * (i0.bytes : Int)) := by rw [hz2]; omega
  have hn : ¬ (i + m ≤ cap) := by omega
  have h63 : ¬ (9223372036854775807 < ((i : Int) + (m : Int))) := by omega
  have hfit := growslice_fits (bytes := 8) hg (show (i + m) * 8 ≤ 140737488355328 by omega)
  have h48 : ¬ (281474976710656 < Builtin.nextslicecap (i + m) cap * i0.bytes) := by rw [hz2]; omega
  have hmz : ¬ (m * i0.size = 0) := by rw [hz1]; omega
  have hmz2 : ¬ m = 0 := by omega
  have hlen : (cur.toList.take i).length = i * 1 := by rw [List.length_take, Array.length_toList, hcs]; omega
  have holds : ∀ j u, (cur.toList.take i)[j]? = some u → W.drew.cell? ((⟨b, 0, none⟩ : Addr).add j) = some u := by
    intro j u hu
    rw [List.getElem?_take] at hu
    split at hu
    · have hadd : (⟨b, 0, none⟩ : Addr).add j = ⟨b, j, none⟩ := by unfold Addr.add; split <;> simp_all
      rw [hadd]
      exact (cell_of_row W b j cur 3 (0, 0) hb).trans (by rw [← Array.getElem?_toList]; exact hu)
    · cases hu
  have hfo := run_firstCells_some (P := Try.prog) W.drew 1 i _ i cap (cur.toList.take i) hlen (by simpa using holds)
  rw [← hz1] at hfo
  refine ⟨grownCap W (i + m) cap 3, (cur.toList.take i).toArray ++ Builtin.zeroCells (Value.int .i64 0).cells m ++ Builtin.zeroCells (Value.int .i64 0).cells (grownCap W (i + m) cap 3 - (i + m)), _, ?_, grownCap_ge W (i + m) cap 3, grownCap_le_maxLen W (i + m) cap 3 (by simp only [maxLen]; omega), ?_, ?_, heap_alloc_new W.drew _, ?_⟩
  · simp [Builtin.append_, run_underlying Try.underlying29, run_underlying Try.underlying3, sizeOf, typeInfo, zeroValue, hi0, hz0, asInt, asIntOf, hw, hneg, hbig, hn, h63, h48, Question.forced, hfo, newRow, grownCap, hmz, hmz2]
  · have := grownCap_ge W (i + m) cap 3
    simp only [Array.size_append, List.size_toArray, size_zeroCells, hlen, Value.cells]
    simp
    omega
  · have hz : (Builtin.zeroCells (Value.int .i64 0).cells m).toList = List.replicate m (.int .i64 0) := by
      rw [← toList_madeCells_one (.int .i64 0) m]; simp [Builtin.zeroCells, madeCells, Value.cells]
    simp only [Array.toList_append, hz]
    rw [List.take_left' (by rw [List.length_append, hlen, List.length_replicate]; omega)]
  · exact ⟨rfl, rfl, rfl, by show W.heap.size ≤ (W.heap.push _).size; rw [Array.size_push]; exact Nat.le_succ _, fun k hk => heap_alloc_old W.drew _ hk⟩
end Go.Proofs.Ytdfjacpfmjgfiaa

/-
  Layer 17: slices.Clone of an own row of numbers.
-/
namespace Go.Proofs.Ytdfjacpfmjgfiaa
set_option linter.unusedVariables false
set_option linter.unusedSimpArgs false
open Go.RowKit Go.Proofs.YtdfjacpfmjgfiaaW.PrintWords Go.Proofs.YtdfjacpfmjgfiaaW.PrintMore
attribute [local go_sem] max2_int
theorem own_empty3 {W : World} {g : Nat} (h : W.heap[g]? = some (.cells #[] 3 (0, 0))) : W.ownsRow g 3 1 (.slice (some ⟨g, 0, none⟩) 0 0) ([] : List Int).length (nums .i64 []) :=
  ⟨rfl, .inr ⟨g, 0, _, rfl, Nat.le_refl _, h, Nat.le_refl _, by decide, rfl, rfl⟩⟩
theorem grown_own {W W1 W2 : World} {e sz n : Nat} {v : Value} {xs : List Value} (h : Grows W W1) (hk : W1.grownBy W2 v.ownBlock) (ho : W1.ownsRow W.heap.size e sz v n xs) : Grows W W2 :=
  ⟨hk.os.trans h.os, hk.tape.trans h.tape, hk.output.trans h.output, Nat.le_trans h.size hk.size, fun k hlt => (hk.block k (Nat.lt_of_lt_of_le hlt h.size) (fun e1 => by have := own_base ho k e1.symm; omega)).trans (h.block k hlt)⟩
set_option maxRecDepth 100000 in
set_option maxHeartbeats 1000000 in
theorem clone_calls {W : World} {B : Nat} {v : Value} {xs : List Int} (ho : W.ownsRow B 3 1 v xs.length (nums .i64 xs)) (hl : xs.length ≤ 1000000) :
    Calls Try.prog 35 #[v] W fun e w' => ∃ v', e = .returned v' ∧ w'.ownsRow W.heap.size 3 1 v' xs.length (nums .i64 xs) ∧ Grows W w' := by
  have q29 : ∀ (w : World) (a : Option Addr) (n c : Nat), (binOp .eql 29 (.slice a n c) (.slice none 0 0)).run Try.prog w = .ok (.bool a.isNone) w := fun w a n c => Go.run_eql_slice_nil w _ _ a n c Try.underlying29
  rcases ho.2 with ⟨rfl, h0⟩ | ⟨b, cap, cur, rfl, hb, hh, hc, _⟩
  · obtain rfl : xs = [] := List.eq_nil_of_length_eq_zero h0
    go_enter Try.func35, Try.ntmps35
    go_wp2
    go_ret
    exact ⟨_, rfl, World.ownsRow_nil _ _ _ _, Below.refl _ _⟩
  · have he0 : Grows W (W.alloc (.cells #[] 3)) := (Below.refl W.heap.size W).alloc (Nat.le_refl _) (.cells #[] 3)
    have hr0 := own_reads' (own_grows ho he0)
    obtain ⟨v1, w1, hr, ho1, hg1, hloc⟩ := ints_run (t := 29) (u := 29) (ty := 29) Try.underlying29 Try.underlying29 W.heap.size (.slice (some ⟨W.heap.size, 0, none⟩) 0 0) [] xs (some ⟨b, 0, none⟩) xs.length cap (own_empty3 (heap_alloc_new W (.cells #[] 3))) hr0 he0.size (by simp; omega)
    have HG := Aside0.mk (grown_own he0 hg1 (own_empty3 (heap_alloc_new W (.cells #[] 3))))
    rw [List.nil_append] at ho1
    have HO := Aside0.mk ho1
    clear ho1 hg1 hloc hr0 he0 ho hh
    go_enter Try.func35, Try.ntmps35
    go_wp2_with (at_builtin; refine wpList_appendE (.tmp 5) (.tmp 6) 29 rfl rfl rfl rfl ⟨_, _, hr, ?_⟩)
    go_ret
    exact ⟨_, rfl, HO.out, HG.out⟩
end Go.Proofs.Ytdfjacpfmjgfiaa

/-
  Layer 17: a new table; what a handle pins.
-/
namespace Go.Proofs.Ytdfjacpfmjgfiaa
set_option linter.unusedVariables false
set_option linter.unusedSimpArgs false
open Go.RowKit Go.Proofs.YtdfjacpfmjgfiaaW.PrintWords Go.Proofs.YtdfjacpfmjgfiaaW.PrintMore
attribute [local go_sem] max2_int
theorem Grows.trans {a b c : World} (h : Grows a b) (k : Grows b c) : Grows a c :=
  ⟨k.os.trans h.os, k.tape.trans h.tape, k.output.trans h.output, Nat.le_trans h.size k.size, fun i hi => (k.block i (Nat.lt_of_lt_of_le hi h.size)).trans (h.block i hi)⟩
theorem hdOf_mem {hs : List Hd} {n : Int} {x : Hd} (h : hdOf hs n = some x) : x ∈ hs ∧ x.key = n := ⟨List.mem_of_find?_eq_some h, by have := List.find?_some h; simpa using this⟩
set_option maxRecDepth 100000 in
set_option maxHeartbeats 1000000 in
theorem of_calls {W : World} {B t S P : Nat} {most next : Int} {hs : List Hd} {ps : List (Int × Int)} (h : Tab W B t S P most next hs ps) (n : Int) (hl : ∀ x ∈ hs, x.l.length ≤ 1000000) :
    Calls Try.prog 24 #[.pointer (some ⟨t, 0, none⟩), .int .i64 n] W fun e w' => ∃ v', e = .returned v' ∧ w'.ownsRow W.heap.size 3 1 v' (((hdOf hs n).map (·.l)).getD []).length (nums .i64 (((hdOf hs n).map (·.l)).getD [])) ∧ Grows W w' := by
  have c2 := h.c2
  have hlk := run_lookok_i Try.underlying48 Try.underlying3 zero55 h.segs n
  rw [look_S] at hlk
  cases hd : hdOf hs n with
  | none =>
    rw [hd] at hlk
    simp only [Option.map_none, Option.getD_none, Option.isSome_none] at hlk ⊢
    clear h
    go_enter Try.func24, Try.ntmps24
    go_wp2
    go_ret
    exact ⟨_, rfl, World.ownsRow_nil _ _ _ _, Below.refl _ _⟩
  | some x =>
    rw [hd] at hlk
    simp only [Option.map_some, Option.getD_some, Option.isSome_some] at hlk ⊢
    have hx := h.box x (hdOf_mem hd).1
    have e0 := cell_of_row W x.box 0 _ 29 (0, 0) hx.1
    have HC := Aside0.mk (clone_calls hx.2 (hl x (hdOf_mem hd).1))
    clear h hx hl hd
    obtain ⟨xk, xb, xv, xl⟩ := x
    simp only at hlk e0 HC ⊢
    replace e0 : W.cell? ⟨xb, 0, none⟩ = some xv := e0
    go_enter Try.func24, Try.ntmps24
    go_wp2_with (go_at_call 35; refine HC.out.mono ?_; clear HC; rintro e w1 ⟨v', rfl, ho, hg⟩; have HO := Aside0.mk ho; have HG := Aside0.mk hg; clear ho hg)
    go_ret
    exact ⟨_, rfl, HO.out, HG.out⟩
set_option maxRecDepth 100000 in
set_option maxHeartbeats 1000000 in
theorem new_none (w : World) (most : Int) (h : ¬ (1 ≤ most ∧ most ≤ 1024)) : Calls Try.prog 10 #[.int .i64 most] w fun e w' => e = .returned (.pointer none) ∧ w' = w := by
  by_cases h1 : most < 1
  · go_enter Try.func10, Try.ntmps10
    go_wp2
    go_ret
    exact ⟨rfl, rfl⟩
  · have h2 : 1024 < most := by omega
    go_enter Try.func10, Try.ntmps10
    go_wp2
    go_ret
    exact ⟨rfl, rfl⟩
set_option maxRecDepth 100000 in
set_option maxHeartbeats 1000000 in
theorem new_some (w : World) (most : Int) (h : 1 ≤ most ∧ most ≤ 1024) : Calls Try.prog 10 #[.int .i64 most] w fun e w' => ∃ t, e = .returned (.pointer (some ⟨t, 0, none⟩)) ∧ ∃ S P, Tab w' w.heap.size t S P most 1 [] [] ∧ Grows w w' ∧ ∀ k, OwnT t S P [] k → w.heap.size ≤ k := by
  have h1 : ¬ most < 1 := by omega
  have h2 : ¬ 1024 < most := by omega
  have hmm := @run_makeMap Try.prog
  go_enter Try.func10, Try.ntmps10
  go_wp2
  go_ret
  have s1 : (w.alloc (.map #[] 0)).heap.size = w.heap.size + 1 := by show (w.heap.push _).size = _; rw [Array.size_push]
  have s2 : ((w.alloc (.map #[] 0)).alloc (.map #[] 0)).heap.size = w.heap.size + 1 + 1 := by show ((w.alloc (.map #[] 0)).heap.push _).size = _; rw [Array.size_push, s1]
  have n1 := heap_alloc_new w (.map #[] 0)
  have n2 := heap_alloc_new (w.alloc (.map #[] 0)) (.map #[] 0)
  have n3 := heap_alloc_new ((w.alloc (.map #[] 0)).alloc (.map #[] 0)) (.cells #[.int .i64 most, .int .i64 1, .map (some w.heap.size), .map (some (w.heap.size + 1))] 51)
  have g1 : Grows w (w.alloc (.map #[] 0)) := (Below.refl w.heap.size w).alloc (Nat.le_refl _) _
  have g2 : Grows (w.alloc (.map #[] 0)) ((w.alloc (.map #[] 0)).alloc (.map #[] 0)) := (Below.refl _ _).alloc (Nat.le_refl _) _
  have g3 : Grows ((w.alloc (.map #[] 0)).alloc (.map #[] 0)) (((w.alloc (.map #[] 0)).alloc (.map #[] 0)).alloc (.cells #[.int .i64 most, .int .i64 1, .map (some w.heap.size), .map (some (w.heap.size + 1))] 51)) := (Below.refl _ _).alloc (Nat.le_refl _) _
  rw [s1] at n2
  rw [s2] at n3
  refine ⟨_, rfl, w.heap.size, w.heap.size + 1, ⟨n3, ?_, ?_, fun x hx => (by cases hx), List.Pairwise.nil, by omega⟩, Grows.trans (Grows.trans g1 g2) g3, ?_⟩
  · exact IMap.made ((g3.block _ (by rw [s2]; omega)).trans ((g2.block _ (by rw [s1]; omega)).trans n1))
  · exact IMap.made ((g3.block _ (by rw [s2]; omega)).trans n2)
  · rintro k (rfl | rfl | rfl | ⟨x, hx, _⟩)
    · omega
    · omega
    · omega
    · cases hx
end Go.Proofs.Ytdfjacpfmjgfiaa
