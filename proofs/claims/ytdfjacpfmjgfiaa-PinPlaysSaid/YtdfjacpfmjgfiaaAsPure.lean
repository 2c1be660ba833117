/-
  Layer 17: by which handles a segment is pinned, in plain Lean; all but one of a row.
-/
import Derived.Test.YtdfjacpfmjgfiaaOnce
namespace Go.Proofs.Ytdfjacpfmjgfiaa
set_option linter.unusedVariables false
set_option linter.unusedSimpArgs false
open Go.Shelf Go.RowKit Go.Proofs.YtdfjacpfmjgfiaaW.PrintWords Go.Proofs.YtdfjacpfmjgfiaaW.PrintMore PPinPlays
attribute [local go_sem] max2_int
theorem getL_pin (hl : HL) (h s k : Int) : getL (pinL hl h s) k = if k = h then (getL hl k).map (fun l => ins l s) else getL hl k := by
  unfold getL pinL
  induction hl with
  | nil => simp
  | cons x hl ih =>
    rw [List.map_cons, List.find?_cons, List.find?_cons]
    have e : (if x.1 = h then (x.1, ins x.2 s) else x).1 = x.1 := by split <;> rfl
    rw [e]
    by_cases hk : x.1 = k
    · rw [beq_iff_eq.2 hk]
      dsimp only
      by_cases hkh : k = h
      · rw [if_pos hkh, if_pos (hk.trans hkh)]; rfl
      · rw [if_neg hkh, if_neg (fun e => hkh (hk.symm.trans e))]
    · rw [beq_eq_false_iff_ne.2 hk]; exact ih
theorem getL_del (hl : HL) (h k : Int) : getL (delL hl h) k = if k = h then none else getL hl k := by
  by_cases hk : k = h
  · rw [if_pos hk, hk]; exact del_gone hl h
  · rw [if_neg hk]
    unfold getL delL
    congr 1
    induction hl with
    | nil => rfl
    | cons x hl ih =>
      by_cases hx : x.1 = h
      · rw [List.filter_cons_of_neg (by simp [hx]), List.find?_cons, beq_eq_false_iff_ne.2 (fun e => hk (e.symm.trans hx))]; exact ih
      · rw [List.filter_cons_of_pos (by simpa using hx), List.find?_cons, List.find?_cons, ih]
theorem getL_open {hl : HL} {next : Int} (ho : HOk next hl) (l : List Int) (k : Int) : getL (hl ++ [(next, l)]) k = if k = next then some l else getL hl k := by
  unfold getL
  rw [List.find?_append]
  by_cases hk : k = next
  · rw [if_pos hk, List.find?_eq_none.2 (fun y hy e => by have := (ho.low y hy).2; simp at e; omega)]
    simp [hk]
  · rw [if_neg hk]
    have : List.find? (fun x : Int × List Int => x.1 == k) [(next, l)] = none := by
      rw [List.find?_eq_none]
      intro y hy e
      obtain rfl := List.mem_singleton.1 hy
      exact hk (by simpa using (beq_iff_eq.1 e).symm)
    rw [this, Option.or_none]
/-- Just these handles pin a segment. -/
def ByOk (hl : HL) (seg : Int) (by' : List Int) : Prop := ∀ k, k ∈ by' ↔ ∃ l, getL hl k = some l ∧ l.contains seg = true
theorem by_pin_other {hl : HL} {seg : Int} {by' : List Int} (h : ByOk hl seg by') (hd s : Int) (hs : (s == seg) = false) : ByOk (pinL hl hd s) seg by' := fun k => by
  rw [h k, getL_pin]
  by_cases hk : k = hd
  · rw [if_pos hk]
    have hne : (seg == s) = false := by rw [beq_eq_false_iff_ne] at hs ⊢; exact fun e => hs e.symm
    constructor
    · rintro ⟨l, h1, h2⟩
      exact ⟨_, by rw [h1]; rfl, by rw [contains_ins, h2, Bool.or_true]⟩
    · rintro ⟨l, h1, h2⟩
      obtain ⟨l', h3, rfl⟩ := Option.map_eq_some_iff.1 h1
      exact ⟨l', h3, by rw [contains_ins, hne, Bool.false_or] at h2; exact h2⟩
  · rw [if_neg hk]
theorem by_pin_add {hl : HL} {seg : Int} {by' : List Int} (h : ByOk hl seg by') (hd : Int) (hs : (getL hl hd).isSome = true) {by2 : List Int} (h2 : ∀ k, k ∈ by2 ↔ k ∈ by' ∨ k = hd) : ByOk (pinL hl hd seg) seg by2 := fun k => by
  rw [h2, h k, getL_pin]
  obtain ⟨q, hq⟩ := Option.isSome_iff_exists.1 hs
  by_cases hk : k = hd
  · rw [if_pos hk]
    exact ⟨fun _ => ⟨_, by rw [hk, hq]; rfl, by rw [contains_ins]; simp⟩, fun _ => .inr hk⟩
  · rw [if_neg hk]
    exact ⟨fun h => h.resolve_right hk, .inl⟩
theorem by_del {hl : HL} {seg : Int} {by' : List Int} (h : ByOk hl seg by') (hd : Int) : ByOk (delL hl hd) seg (by'.filter (· != hd)) := fun k => by
  rw [List.mem_filter, h k, getL_del]
  by_cases hk : k = hd
  · rw [if_pos hk]; simp [hk]
  · rw [if_neg hk]
    exact ⟨fun h => h.1, fun h => ⟨h, by simpa using hk⟩⟩
theorem by_open_no {hl : HL} {seg next : Int} {by' : List Int} (h : ByOk hl seg by') (ho : HOk next hl) (xs : List Int) (hs : xs.contains seg = false) : ByOk (hl ++ [(next, insAll [] xs)]) seg by' := fun k => by
  rw [h k, getL_open ho]
  have hin : (insAll [] xs).contains seg = false := by
    rw [Bool.eq_false_iff] at hs ⊢
    intro h2
    rw [List.contains_iff_mem, mem_insAll] at h2
    exact hs (List.contains_iff_mem.2 (h2.resolve_right (by simp)))
  by_cases hk : k = next
  · rw [if_pos hk]
    constructor
    · rintro ⟨l, h1, h2⟩
      have := (ho.low _ (getL_mem h1)).2
      simp at this
      omega
    · rintro ⟨l, h1, h2⟩
      injection h1 with h1
      rw [← h1, hin] at h2
      cases h2
  · rw [if_neg hk]
theorem by_open_yes {hl : HL} {seg next : Int} {by' : List Int} (h : ByOk hl seg by') (ho : HOk next hl) (xs : List Int) (hs : xs.contains seg = true) : ByOk (hl ++ [(next, insAll [] xs)]) seg (by' ++ [next]) := fun k => by
  rw [List.mem_append, h k, getL_open ho]
  have hin : (insAll [] xs).contains seg = true := by
    rw [List.contains_iff_mem] at hs ⊢
    exact mem_insAll xs |>.2 (.inl hs)
  by_cases hk : k = next
  · rw [if_pos hk]
    exact ⟨fun _ => ⟨_, rfl, hin⟩, fun _ => .inr (by simp [hk])⟩
  · rw [if_neg hk]
    exact ⟨fun h => h.resolve_right (by simpa using hk), .inl⟩
theorem by_pos {hl : HL} {seg : Int} {by' : List Int} (h : ByOk hl seg by') (hk : Keyed' hl) : decide (0 < cnt hl seg) = decide (0 < by'.length) := by
  rw [decide_eq_decide, List.length_pos_iff_exists_mem]
  unfold cnt
  rw [List.countP_pos_iff]
  constructor
  · rintro ⟨x, hx, hc⟩
    exact ⟨x.1, (h x.1).2 ⟨x.2, getL_of_mem hk hx, hc⟩⟩
  · rintro ⟨k, hk2⟩
    obtain ⟨l, h1, h2⟩ := (h k).1 hk2
    exact ⟨(k, l), getL_mem h1, h2⟩
theorem filter_one (x y : Int) : [y].filter (· != x) = if (y != x) = true then [y] else [] := by
  by_cases h : (y != x) = true
  · rw [if_pos h, List.filter_cons, if_pos h]; rfl
  · rw [if_neg h, List.filter_cons, if_neg h]; rfl
set_option maxRecDepth 100000 in
set_option maxHeartbeats 1000000 in
/-- All but one. -/
theorem without_calls {W : World} {A : Option Addr} {n c : Nat} {xs : List Int} (hr : ReadsInt W .i64 A n xs) (x : Int) (hn : n ≤ 1000000) :
    Calls Try.prog 29 #[.slice A n c, .int .i64 x] W fun e w' => ∃ v, e = .returned v ∧ w'.ownsRow W.heap.size 3 1 v (xs.filter (· != x)).length (nums .i64 (xs.filter (· != x))) ∧ Grows W w' := by
  obtain rfl := hr.1
  have HR := Aside0.mk hr
  clear hr
  go_enter Try.func29, Try.ntmps29
  go_wp2
  go_loopg [5, 6] xs.length (fun f v5 v6 wr => ∃ i : Nat, Aside0 (f + i = xs.length) ∧ i ≤ xs.length ∧ v6 = .int .i64 i ∧ Aside0 (wr.ownsRow W.heap.size 3 1 v5 ((xs.take i).filter (· != x)).length (nums .i64 ((xs.take i).filter (· != x))) ∧ Grows W wr))
  case atStart => exact ⟨0, ⟨by omega⟩, by omega, rfl, ⟨World.ownsRow_nil _ _ _ _, Grows.refl _⟩⟩
  case round =>
    obtain ⟨i, HF, hi, rfl, HS⟩ := hrel
    obtain ⟨Av, cv, ev, hcv⟩ := own_slice HS.out.1
    subst ev
    by_cases hlt : i < xs.length
    · obtain ⟨ad, rfl, hcell⟩ := (HR.out.below HS.out.2).2.2 (by omega)
      replace hcell := hcell i hlt
      rw [getD_lt hlt] at hcell
      have hts := List.take_succ_eq_append_getElem hlt
      have hle : ((xs.take i).filter (· != x)).length ≤ i := Nat.le_trans (List.length_filter_le _ _) (List.length_take_le _ _)
      have HTS := Aside0.mk (show (xs.take (i + 1)).filter (· != x) = (xs.take i).filter (· != x) ++ if (xs[i] != x) = true then [xs[i]] else [] by
        rw [hts, List.filter_append, filter_one])
      clear hts
      generalize xs[i] = y at hcell HTS
      generalize (xs.take i).filter (· != x) = zs at HS HTS hcv hle ⊢
      cases hy : (y != x) with
      | true =>
        have g0 : Grows wr (wr.alloc (.cells #[.int .i64 y] 3)) := (Below.refl wr.heap.size wr).alloc (Nat.le_refl _) (.cells #[.int .i64 y] 3)
        obtain ⟨v1, w1, hr, ho1, hg1, hloc⟩ := ints_run (t := 29) (u := 29) (ty := 29) Try.underlying29 Try.underlying29 W.heap.size _ zs [y] (some ⟨wr.heap.size, 0, none⟩) 1 1 (own_grows HS.out.1 g0) (lits_reads (by simp) (heap_alloc_new wr _)) (Nat.le_trans HS.out.2.size g0.size) (by omega)
        have HO := Aside0.mk ho1
        have HG := Aside0.mk (show Grows W w1 from by
          have h1 := Grows.trans HS.out.2 g0
          exact ⟨hg1.os.trans h1.os, hg1.tape.trans h1.tape, hg1.output.trans h1.output, Nat.le_trans h1.size hg1.size, fun k hk => (hg1.block k (Nat.lt_of_lt_of_le hk h1.size) (fun e => by have := own_base HS.out.1 k e.symm; omega)).trans (h1.block k hk)⟩)
        rw [hy] at HTS
        clear HS ho1 hg1 hloc g0 hle hcv
        go_wp2_with (at_builtin; refine wpList_appendE (.tmp 19) (.tmp 24) 29 rfl rfl rfl rfl ⟨_, _, hr, ?_⟩; clear hr)
        go_roundg (xs.length - (i + 1))
        case measure => have := HF.out; omega
        case rel => exact ⟨i + 1, ⟨by omega⟩, by omega, by go_num, ⟨by rw [HTS.out]; exact HO.out, HG.out⟩⟩
      | false =>
        rw [hy] at HTS
        clear hle hcv
        go_wp2
        go_roundg (xs.length - (i + 1))
        case measure => have := HF.out; omega
        case rel => exact ⟨i + 1, ⟨by omega⟩, by omega, by go_num, ⟨by rw [HTS.out]; simpa using HS.out.1, HS.out.2⟩⟩
    · obtain rfl : i = xs.length := by omega
      have HE := HS
      rw [List.take_of_length_le (Nat.le_refl _)] at HE ⊢
      clear HS
      go_wp2
      go_ret
      exact ⟨_, rfl, HE.out⟩
end Go.Proofs.Ytdfjacpfmjgfiaa
