/-
  Layer 17: a segment is pinned by one less.
-/
import Derived.Test.YtdfjacpfmjgfiaaState
namespace Go.Proofs.Ytdfjacpfmjgfiaa
set_option linter.unusedVariables false
set_option linter.unusedSimpArgs false
open Go.RowKit Go.Proofs.YtdfjacpfmjgfiaaW.PrintWords Go.Proofs.YtdfjacpfmjgfiaaW.PrintMore
attribute [local go_sem] max2_int
def putP : List (Int × Int) → Int → Int → List (Int × Int)
  | [], n, c => [(n, c)]
  | p :: ps, n, c => if p.1 = n then (n, c) :: ps else p :: putP ps n c
def delP : List (Int × Int) → Int → List (Int × Int)
  | [], n => []
  | p :: ps, n => if p.1 = n then ps else p :: delP ps n
theorem entP_put : ∀ (ps : List (Int × Int)) (n c : Int), aput (entP ps) n (.int .i64 c) = entP (putP ps n c)
  | [], n, c => rfl
  | p :: ps, n, c => by
    show (if p.1 = n then _ else _) = entP (if p.1 = n then _ else _)
    by_cases h : p.1 = n
    · rw [if_pos h, if_pos h]; rfl
    · rw [if_neg h, if_neg h]
      show _ :: aput (entP ps) n _ = _ :: entP (putP ps n c)
      rw [entP_put ps n c]
theorem entP_del : ∀ (ps : List (Int × Int)) (n : Int), adel (entP ps) n = entP (delP ps n)
  | [], n => rfl
  | p :: ps, n => by
    show (if p.1 = n then _ else _) = entP (if p.1 = n then _ else _)
    by_cases h : p.1 = n
    · rw [if_pos h, if_pos h]; rfl
    · rw [if_neg h, if_neg h]
      show _ :: adel (entP ps) n = _ :: entP (delP ps n)
      rw [entP_del ps n]
theorem pinOf_cons (p : Int × Int) (ps : List (Int × Int)) (n : Int) : pinOf (p :: ps) n = if p.1 = n then p.2 else pinOf ps n := by
  unfold pinOf
  rw [List.find?_cons]
  by_cases h : p.1 = n
  · rw [if_pos h, beq_iff_eq.2 h]; rfl
  · rw [if_neg h, beq_eq_false_iff_ne.2 h]
theorem pinOf_put : ∀ (ps : List (Int × Int)) (n c m : Int), pinOf (putP ps n c) m = if m = n then c else pinOf ps m
  | [], n, c, m => by
    show pinOf [(n, c)] m = _
    rw [pinOf_cons]
    by_cases h : n = m
    · rw [if_pos h, if_pos h.symm]
    · rw [if_neg h, if_neg (fun e => h e.symm)]
  | p :: ps, n, c, m => by
    rw [putP]
    by_cases h : p.1 = n
    · rw [if_pos h, pinOf_cons, pinOf_cons, h]
      by_cases h2 : n = m
      · rw [if_pos h2, if_pos h2.symm]
      · rw [if_neg h2, if_neg (fun e => h2 e.symm), if_neg h2]
    · rw [if_neg h, pinOf_cons, pinOf_cons, pinOf_put ps n c m]
      by_cases h2 : p.1 = m
      · rw [if_pos h2, if_pos h2, if_neg (fun e => h (h2.trans e))]
      · rw [if_neg h2, if_neg h2]
theorem put_keys : ∀ (ps : List (Int × Int)) (n c : Int), (ps.map (·.1)).Nodup → ((putP ps n c).map (·.1)).Nodup ∧ ∀ k, k ∈ (putP ps n c).map (·.1) ↔ k = n ∨ k ∈ ps.map (·.1)
  | [], n, c, _ => ⟨by simp [putP], fun k => by simp [putP]⟩
  | p :: ps, n, c, h => by
    obtain ⟨h1, h2⟩ := List.nodup_cons.1 h
    rw [putP]
    by_cases hp : p.1 = n
    · rw [if_pos hp]
      subst hp
      exact ⟨h, fun k => by simp⟩
    · rw [if_neg hp]
      obtain ⟨i1, i2⟩ := put_keys ps n c h2
      refine ⟨List.nodup_cons.2 ⟨fun hm => ?_, i1⟩, fun k => ?_⟩
      · rcases (i2 p.1).1 hm with e | e
        · exact hp e
        · exact h1 e
      · rw [List.map_cons, List.mem_cons, i2, List.map_cons, List.mem_cons]
        constructor
        · rintro (h | h | h)
          · exact .inr (.inl h)
          · exact .inl h
          · exact .inr (.inr h)
        · rintro (h | h | h)
          · exact .inr (.inl h)
          · exact .inl h
          · exact .inr (.inr h)
theorem del_keys : ∀ (ps : List (Int × Int)) (n : Int), (ps.map (·.1)).Nodup → ((delP ps n).map (·.1)).Nodup ∧ (∀ k, k ∈ (delP ps n).map (·.1) → k ∈ ps.map (·.1)) ∧ ∀ m, pinOf (delP ps n) m = if m = n then 0 else pinOf ps m
  | [], n, _ => ⟨by simp [delP], fun k h => by simp [delP] at h, fun m => by simp [delP, pinOf]⟩
  | p :: ps, n, h => by
    obtain ⟨h1, h2⟩ := List.nodup_cons.1 h
    have hno : ∀ (qs : List (Int × Int)) (k : Int), k ∉ qs.map (·.1) → pinOf qs k = 0 := by
      intro qs k hk
      induction qs with
      | nil => rfl
      | cons q qs ih =>
        rw [pinOf_cons, if_neg (fun e => hk (by rw [List.map_cons, List.mem_cons]; exact .inl e.symm)), ih (fun e => hk (by rw [List.map_cons, List.mem_cons]; exact .inr e))]
    rw [delP]
    by_cases hp : p.1 = n
    · rw [if_pos hp]
      refine ⟨h2, fun k hk => by rw [List.map_cons, List.mem_cons]; exact .inr hk, fun m => ?_⟩
      rw [pinOf_cons]
      by_cases hm : m = n
      · rw [if_pos hm, hm, ← hp]; exact hno ps p.1 h1
      · rw [if_neg hm, if_neg (fun e => hm (e.symm.trans hp))]
    · rw [if_neg hp]
      obtain ⟨i1, i2, i3⟩ := del_keys ps n h2
      refine ⟨List.nodup_cons.2 ⟨fun hm => h1 (i2 _ hm), i1⟩, fun k hk => ?_, fun m => ?_⟩
      · rw [List.map_cons, List.mem_cons] at hk ⊢
        exact hk.imp id (i2 k)
      · rw [pinOf_cons, pinOf_cons, i3]
        by_cases h2 : p.1 = m
        · rw [if_pos h2, if_pos h2, if_neg (fun e => hp (h2.trans e))]
        · rw [if_neg h2, if_neg h2]
theorem Tab.pinsTo {W W' : World} {B t S P : Nat} {most next : Int} {hs : List Hd} {ps ps' : List (Int × Int)} (h : Tab W B t S P most next hs ps) (hg : W.grownBy W' (some P)) (hm : IMap W' P (entP ps')) : Tab W' B t S P most next hs ps' := by
  have hne : ∀ (k : Nat) (o : Obj), W.heap[k]? = some o → o.isCells = true → k ≠ P := fun k o ho hc e => by
    obtain ⟨a, c, hb, _⟩ := h.pins
    rw [e, hb] at ho
    rw [← Option.some.inj ho] at hc
    cases hc
  refine ⟨(hg.block t (lt_heap h.blk) (fun e => hne t _ h.blk rfl (Option.some.inj e))).trans h.blk, h.segs.keep (hg.block S h.segs.lt (fun e => h.SP (Option.some.inj e))), hm, fun x hx => ?_, h.apart, h.SP⟩
  have hb := h.box x hx
  refine ⟨(hg.block _ (lt_heap hb.1) (fun e => hne _ _ hb.1 rfl (Option.some.inj e))).trans hb.1, own_move hb.2 fun k hk => ?_⟩
  obtain ⟨cs, hcs⟩ := own_typed hb.2 k hk
  exact hg.block k (lt_heap hcs) (fun e => hne _ _ hcs rfl (Option.some.inj e))
set_option maxRecDepth 100000 in
theorem loose_calls {W : World} {B t S P : Nat} {most next : Int} {hs : List Hd} {ps : List (Int × Int)} (h : Tab W B t S P most next hs ps) (hn : (ps.map (·.1)).Nodup) (n : Int) (h0 : -1000000 ≤ pinOf ps n) (h1 : pinOf ps n ≤ 1000000) :
    Calls Try.prog 34 #[.pointer (some ⟨t, 0, none⟩), .int .i64 n] W fun e w' => e = .returned (.tuple #[]) ∧ ∃ ps', Tab w' B t S P most next hs ps' ∧ (ps'.map (·.1)).Nodup ∧ (∀ m, pinOf ps' m = if m = n then pinOf ps n - 1 else pinOf ps m) ∧ W.grownBy w' (some P) := by
  have c3 := h.c3
  have hl := run_look_i Try.underlying49 Try.underlying3 zero3 h.pins n
  rw [look_P] at hl
  have hw : IntKind.i64.wrap (pinOf ps n - 1) = pinOf ps n - 1 := IntWalk.i64_in _ ⟨by omega, by omega⟩
  obtain ⟨W1, hput, hm1, hg1⟩ := run_put_i Try.underlying49 Try.underlying3 h.pins n (.int .i64 (pinOf ps n - 1))
  rw [entP_put] at hm1
  have HT1 := h.pinsTo hg1 hm1
  have c31 := HT1.c3
  have hl1 := run_look_i Try.underlying49 Try.underlying3 zero3 HT1.pins n
  rw [look_P, pinOf_put, if_pos rfl] at hl1
  obtain ⟨W2, hdel, hm2, hg2⟩ := run_del_i Try.underlying49 Try.underlying3 0 HT1.pins n
  rw [entP_del] at hm2
  have H1 := Aside0.mk HT1
  have H2 := Aside0.mk (HT1.pinsTo hg2 hm2)
  have HG1 := Aside0.mk hg1
  have HG2 := Aside0.mk hg2
  have HN := Aside0.mk hn
  have hk1 := put_keys ps n (pinOf ps n - 1) hn
  have HK1 := Aside0.mk hk1.1
  have HK2 := Aside0.mk (del_keys (putP ps n (pinOf ps n - 1)) n hk1.1)
  clear h HT1 hm1 hg1 hm2 hg2 hn hk1
  go_enter Try.func34, Try.ntmps34
  by_cases hz : pinOf ps n - 1 = 0
  · have hzb : (pinOf ps n - 1 == 0) = true := beq_iff_eq.2 hz
    have HZ := Aside0.mk hz
    clear hz
    go_wp2
    go_end0
    refine ⟨rfl, _, H2.out, HK2.out.1, fun m => ?_, grown_trans HG1.out HG2.out⟩
    rw [HK2.out.2.2, pinOf_put]
    by_cases hm : m = n
    · rw [if_pos hm, if_pos hm, HZ.out]
    · rw [if_neg hm, if_neg hm]
  · have hzb : (pinOf ps n - 1 == 0) = false := beq_eq_false_iff_ne.2 hz
    clear hz
    go_wp2
    go_end0
    exact ⟨rfl, _, H1.out, HK1.out, fun m => pinOf_put _ _ _ _, HG1.out⟩
end Go.Proofs.Ytdfjacpfmjgfiaa
