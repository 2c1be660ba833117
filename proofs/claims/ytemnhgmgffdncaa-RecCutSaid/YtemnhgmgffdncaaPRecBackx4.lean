-- Printed by wip/givenprint.py of this repository: the printer's run, with contracts of my own for some functions.
import Derived.Test.YtemnhgmgffdncaaPRecBackx0
import Derived.Test.YtemnhgmgffdncaaPRecBackx2
import Derived.Test.YtemnhgmgffdncaaPRecBackx3
namespace Go.Proofs.Ytemnhgmgffdncaa.PRecBack
open Go.RowKit Go.Proofs.YtemnhgmgffdncaaW.PrintWords Go.Proofs.YtemnhgmgffdncaaW.PrintLast Go.Proofs.YtemnhgmgffdncaaW.PrintMore
attribute [local go_sem] max2_int min2_int max_two min_two max_three min_three max_four min_four   -- for this text's walks alone
set_option linter.unusedVariables false
set_option linter.unusedSimpArgs false

/-! ### rec_Key: function 18 -/
def rec_Key.f (a0 : ByteArray) : Option (Bool) := (rec_within.f (a0.size : Int) 1 64).bind fun t105 => (some t105)
set_option maxHeartbeats 8000000 in
set_option maxRecDepth 100000 in
theorem rec_Key.calls (a0 : ByteArray) (r : Bool) (w : World) (h : rec_Key.f a0 = some r) :
    Calls Try.prog 18 #[.string a0] w fun e w' => e = .returned (.bool r) ∧ Drawn0 w w' := by
  have H : ((rec_within.f (a0.size : Int) 1 64).bind fun t105 => (some t105)) = some r := h
  clear h
  replace H := Option.bind_eq_some_iff.mp H
  obtain ⟨t105, A20, H⟩ := H
  replace H : (some t105) = some r := H
  have A2 := Aside0.mk A20
  clear A20
  obtain rfl := Option.some.inj H
  go_enter Try.func18, Try.ntmps18
  go_wp2_with (first | ((with_reducible refine gate_callee (f := 22) rfl ?_); refine goesL_ (some 5) rfl rfl Try.func22 (by kernel_rfl) rfl #[.int .i64 (a0.size : Int), .int .i64 1, .int .i64 64] rfl (by (try simp only [List.map_toArray, List.map_cons, List.map_nil]); first | done | rfl | (simp only [List.length_drop, List.length_take]; rfl)) ?_; (with_reducible refine (rec_within.calls (a0.size : Int) 1 64 t105 _ A2.out).mono ?_); rintro e w' ⟨rfl, ⟨nd, rfl⟩⟩; refine ⟨_, rfl, ?_⟩))
  go_ret
  exact ⟨by first | rfl | (simp; done) | (simp [*]; done), by repeat (first | exact Drawn0.refl _ | apply Drawn0.step)⟩

/-! ### souterrainlaw04_head: function 9 -/
/-- The mark of a constant string's bytes. -/
theorem wpList_mark {ops : Array Oper} {rest : List Oper} {o : Oper} {a : Act} {w : World} {Q : Exit → Act → World → Prop} (x : Operand) (hgd : Region.wanted o (yielded ops a.tmps) = true) (ho : o.op = .convert 23 23 x) (g n c : Nat) (C : Array Value) (hx : a.eval x = .slice (some ⟨g, 0, none⟩) n c)
    (hg : w.heap[g]? = some (.cells C 5 (0, 0)))
    (h : ∀ w1, w.grownBy w1 (some g) → (∃ fr, w1.heap[g]? = some (Obj.cells C 5 fr)) → wpList Try.prog ops Q rest (a.put o.dst (.slice (some ⟨g, 0, none⟩) n c)) w1) : wpList Try.prog ops Q (o :: rest) a w := by
  have hr : (convert 23 23 (.slice (some ⟨g, 0, none⟩) n c)).run Try.prog w = .ok (.slice (some ⟨g, 0, none⟩) n c) (w.freeze ⟨g, C.size, none⟩ 1) := by
    have hsh : w.shape? g = some (5, C.size) := by unfold World.shape?; rw [hg]
    simp [convert, run_underlying Try.underlying23, run_underlying Try.underlying5, markStringish, hsh]
  refine wpList_step fun K hK => ?_
  rw [if_pos hgd]
  unfold Oper.wp execOp
  simp only [ho, hx, Sem.run_bind, hr, Result.andThen_ok, Sem.run_pure]
  refine hK _ _ (h _ ?_ ?_)
  · unfold World.freeze
    split
    · exact World.grownBy.refl _ _
    · exact ⟨rfl, rfl, rfl, by simp, fun k hk hne => by simp only [Array.getElem?_modify]; rw [if_neg (fun e => hne (by rw [e]))]⟩
  · unfold World.freeze
    split
    · exact ⟨_, hg⟩
    · simp only [Array.getElem?_modify, if_true, hg, Option.map_some]
      exact ⟨_, rfl⟩
theorem lit_reads {W : World} {g : Nat} {xs : List Int} {fr : Nat × Nat} (hm : xs.length ≤ 9223372036854775807) (h : W.heap[g]? = some (Obj.cells (xs.map (Value.int .u8)).toArray 5 fr)) : ReadsInt W .u8 (some ⟨g, 0, none⟩) xs.length xs := by
  refine ⟨rfl, hm, fun _ => ⟨_, rfl, fun j hj => ?_⟩⟩
  have hadd : (⟨g, 0, none⟩ : Addr).add j = ⟨g, j, none⟩ := by unfold Addr.add; split <;> simp_all
  rw [hadd, cell_of_row W g j _ 5 fr h]
  simp [List.getD_eq_getElem?_getD, List.getElem?_eq_getElem hj]
theorem head_p1 : putRec 3 ⟨#[97, 98]⟩ 0 0 0 [] [120, 121] = [3, 2, 97, 98, 120, 121] := by kernel_rfl
theorem head_p2 : putRec 2 ⟨#[107]⟩ 7 0 5 [(1, 258, 5)] [] = [2, 1, 107, 0, 0, 0, 0, 0, 7, 0, 0, 5, 0, 1, 0, 0, 0, 1, 0, 0, 1, 2, 0, 5] := by kernel_rfl
theorem head_g1 : getRec [2, 1, 107, 0, 0, 0, 0, 0, 7, 0, 0, 5, 0, 1, 0, 0, 0, 1, 0, 0, 1, 2, 0, 5] = some (2, (⟨#[107]⟩, 7, 0, 5, [(1, 258, 5)], [])) := by kernel_rfl
theorem head_u : u8s [2, 1, 107, 0, 0, 0, 0, 0, 7, 0, 0, 5, 0, 1, 0, 0, 0, 1, 0, 0, 1, 2, 0, 5] := by unfold u8s; decide
theorem head_k1 : rec_Key.f ⟨#[97]⟩ = some true := by kernel_rfl
theorem head_k2 : rec_Key.f ⟨#[]⟩ = some false := by kernel_rfl
theorem head_r : rightB 0 noKey 0 0 0 [] ([] : List Int).length = false := by kernel_rfl
theorem head_g2 : getRec [5, 1] = none := by kernel_rfl
theorem head_same : souterrainref04_Same.f 10 2 ⟨#[107]⟩ 7 0 5 [⟨1, 258, 5⟩] [] 2 ⟨#[107]⟩ 7 0 5 [⟨1, 258, 5⟩] [] = some true := by kernel_rfl
theorem low_lit {W : World} {g : Nat} {xs : List Int} {fr : Nat × Nat} (hm : xs.length ≤ 9223372036854775807) (h : W.heap[g]? = some (Obj.cells (xs.map (Value.int .u8)).toArray 5 fr)) : Low W W.heap.size (some ⟨g, 0, none⟩) xs.length xs :=
  ⟨lit_reads hm h, fun _ ad e => by obtain rfl := Option.some.inj e; exact lt_heap h⟩
theorem loc_own {W : World} {p : Nat} {a b c : Int} (h : W.heap[p]? = some (.cells #[.int .i64 a, .int .i64 b, .int .i64 c] 39 (0, 0))) : W.ownsRow 0 39 3 (.slice (some ⟨p, 0, none⟩) 1 1) [(a, b, c)].length (locCells [(a, b, c)]) :=
  ⟨rfl, .inr ⟨p, 1, _, rfl, Nat.zero_le _, h, Nat.le_refl _, by decide, rfl, rfl⟩⟩
theorem loc_low {W : World} {p B : Nat} {ls : List Loc3} {n c : Nat} (h : W.ownsRow B 39 3 (.slice (some ⟨p, 0, none⟩) n c) ls.length (locCells ls)) : LowL W W.heap.size (some ⟨p, 0, none⟩) ls := by
  obtain ⟨A, c', e, _, hl⟩ := own_lowL h
  injection e with e
  rw [← e] at hl
  exact hl
theorem C_loc {W : World} {B : Nat} {A : Option Addr} {n c : Nat} {ls : List Loc3} (h : W.ownsRow B 39 3 (.slice A n c) ls.length (locCells ls)) : Kd.C k39 W A (ofL ls).length (ofL ls) := by
  obtain ⟨A', c', e, _, hc⟩ := Kd.R_reads (out_locs h)
  injection e with e
  rw [e]
  exact hc
theorem C_u8 {W : World} {B : Nat} {A : Option Addr} {n c : Nat} {xs : List Int} (h : W.ownsRow B 5 1 (.slice A n c) xs.length (nums .u8 xs)) : Kd.C (Kd.int .u8) W A xs.length xs := by
  obtain ⟨A', c', e, _, hc⟩ := Kd.R_reads (out_bytes h)
  injection e with e
  rw [e]
  exact hc
set_option maxRecDepth 100000 in
set_option maxHeartbeats 400000 in
theorem head_calls (w : World) : Calls Try.prog 9 #[] w fun e w' => e = .returned (.bool true) ∧ Below w.heap.size w w' := by
  go_enter Try.func9, Try.ntmps9
  go_upto_region 2 with (first
    | (refine wpList_mark (.tmp 8) (by simp [Region.wanted]) rfl _ 2 2 #[.int .u8 120, .int .u8 121] rfl (heap_alloc_new _ _) ?_
       intro w1 hg1 hf1
       have HB1 := Aside0.mk (pw_below_grown (below_alloc (Below.refl w.heap.size w) (.cells #[.int .u8 120, .int .u8 121] 5)) (some w.heap.size) (below_alloc (Below.refl w.heap.size w) _).size hg1 (fun k e => by injection e with e; omega))
       have HF1 := Aside0.mk hf1
       clear hg1 hf1)
    | (go_at_call 15
       go_loud (
       refine (putRec_calls 3 ⟨#[97, 98]⟩ 0 0 0 none 0 [] (some ⟨w.heap.size, 0, none⟩) 2 [120, 121] w1 (RecIn.nilL (HF1.out.elim fun fr h => low_lit (xs := [120, 121]) (by simp) h) (by simp))).mono ?_
       rintro e w2 ⟨v1, rfl, ho2, hg2⟩
       rw [head_p1] at ho2
       obtain ⟨A1, c1, rfl, hc1⟩ := own_slice ho2
       have HO2 := Aside0.mk ho2
       have HG2 := Aside0.mk (Grows.trans (show Grows w w1 from HB1.out) hg2)
       have HC1 := Aside0.mk hc1
       clear ho2 hg2 hc1 HF1)))
  go_upto_region 3 with fail
  have hg3 := (Below.refl w2.heap.size w2).alloc (Nat.le_refl _) (.cells #[.int .i64 1, .int .i64 258, .int .i64 5] 39)
  have hl3 := heap_alloc_new w2 (.cells #[.int .i64 1, .int .i64 258, .int .i64 5] 39)
  have hq3 : w2.heap.size + 1 = (w2.alloc (.cells #[.int .i64 1, .int .i64 258, .int .i64 5] 39)).heap.size := by show _ = (w2.heap.push _).size; rw [Array.size_push]
  rw [hq3]
  generalize (w2.alloc (.cells #[.int .i64 1, .int .i64 258, .int .i64 5] 39)) = wa at hg3 hl3 hq3 ⊢
  clear hq3
  generalize w2.heap.size = p at hl3 ⊢
  have hg4 := (Below.refl wa.heap.size wa).alloc (Nat.le_refl _) (.cells (recCells 2 ⟨#[107]⟩ 7 0 5 (.slice (some ⟨p, 0, none⟩) 1 1) (.slice none 0 0)) 25)
  have hl4 := heap_alloc_new wa (.cells (recCells 2 ⟨#[107]⟩ 7 0 5 (.slice (some ⟨p, 0, none⟩) 1 1) (.slice none 0 0)) 25)
  change Code.wp _ _ _ _ (wa.alloc (.cells (recCells 2 ⟨#[107]⟩ 7 0 5 (.slice (some ⟨p, 0, none⟩) 1 1) (.slice none 0 0)) 25))
  have HG3 := Aside0.mk ((HG2.out.trans (show Grows w2 wa from hg3)).trans (show Grows wa _ from hg4))
  have HO3 := Aside0.mk (own_grows (own_grows (show w2.ownsRow _ 5 1 _ _ _ from HO2.out) (show Grows w2 wa from hg3)) (show Grows wa _ from hg4))
  have HL3 := Aside0.mk (loc_own ((hg4.block _ (lt_heap hl3)).trans hl3))
  have HQ3 := Aside0.mk (show RecT 25 _ _ 2 ⟨#[107]⟩ 7 0 5 (.slice (some ⟨p, 0, none⟩) 1 1) (.slice none 0 0) from hl4)
  clear hg3 hg4 hl3 hl4
  generalize (wa.alloc (.cells (recCells 2 ⟨#[107]⟩ 7 0 5 (.slice (some ⟨p, 0, none⟩) 1 1) (.slice none 0 0)) 25)) = w3 at HG3 HO3 HL3 HQ3 ⊢
  generalize wa.heap.size = q3 at HQ3 ⊢
  clear HG2 HO2
  have d0 := HQ3.out.c0; have d1 := HQ3.out.c1; have d2 := HQ3.out.c2; have d3 := HQ3.out.c3; have d4 := HQ3.out.c4; have d5 := HQ3.out.c5; have d6 := HQ3.out.c6
  have HRUN : Aside0 (Calls Try.prog 15 #[.agg #[.int .i64 2, .string ⟨#[107]⟩, .int .i64 7, .int .i64 0, .int .i64 5, .slice (some ⟨p, 0, none⟩) 1 1, .slice none 0 0]] w3 fun e w' => ∃ v, e = .returned v ∧ OwnB w' w3.heap.size v [2, 1, 107, 0, 0, 0, 0, 0, 7, 0, 0, 5, 0, 1, 0, 0, 0, 1, 0, 0, 1, 2, 0, 5] ∧ Grows w3 w') := ⟨by
    have h := putRec_calls 2 ⟨#[107]⟩ 7 0 5 (some ⟨p, 0, none⟩) 1 [(1, 258, 5)] none 0 [] w3 (RecIn.nilB (loc_low HL3.out) (by decide))
    rw [head_p2] at h
    exact h⟩
  go_upto_region 4 with
    (go_at_call 15
     refine HRUN.out.mono ?_
     clear HRUN
     rintro e w4 ⟨v3, rfl, ho4, hg4⟩
     obtain ⟨A3, c3, rfl, hc3⟩ := own_slice ho4
     have HO4 := Aside0.mk ho4
     have HG4 := Aside0.mk hg4
     have HC3 := Aside0.mk hc3
     clear ho4 hg4 hc3)
  clear d0 d1 d2 d3 d4 d5 d6
  have HQ4 := Aside0.mk (HQ3.out.grows HG4.out)
  have HL4 := Aside0.mk (own_grows HL3.out HG4.out)
  have HA4 := Aside0.mk (own_grows HO3.out HG4.out)
  have HGW4 := Aside0.mk (HG3.out.trans HG4.out)
  clear HQ3 HL3 HO3 HG3 HG4
  have HRUN2 : Aside0 (Calls Try.prog 11 #[.slice A3 24 c3] w4 fun e w' => ∃ vL vB, e = .returned (.tuple #[recV 2 ⟨#[107]⟩ 7 0 5 vL vB, .bool true]) ∧ Grows w4 w' ∧ w'.ownsRow w4.heap.size 39 3 vL [(1, 258, 5)].length (locCells [(1, 258, 5)]) ∧ OwnB w' w4.heap.size vB []) := ⟨by
    have h := get_calls A3 c3 [2, 1, 107, 0, 0, 0, 0, 0, 7, 0, 0, 5, 0, 1, 0, 0, 0, 1, 0, 0, 1, 2, 0, 5] w4 (own_reads' HO4.out) HC3.out head_u (by simp)
    rw [head_g1] at h
    refine h.mono ?_
    rintro e w5 ⟨v4, rfl, hg5, _, hs5⟩
    obtain ⟨vL, vB, rfl, hL5, hB5⟩ := hs5 2 _ rfl
    exact ⟨vL, vB, rfl, hg5, hL5, hB5⟩⟩
  go_upto_region 5 with
    (go_at_call 11
     refine HRUN2.out.mono ?_
     clear HRUN2
     rintro e w5 ⟨vL, vB, rfl, hg5, hL5, hB5⟩
     obtain ⟨LA, lc, rfl, hlc⟩ := own_slice hL5
     obtain ⟨BA, bc, rfl, hbc⟩ := own_slice (show w5.ownsRow _ 5 1 _ _ _ from hB5)
     have HG5 := Aside0.mk hg5
     have HL5 := Aside0.mk hL5
     have HB5 := Aside0.mk hB5
     have HLC := Aside0.mk hlc
     have HBC := Aside0.mk hbc
     clear hg5 hL5 hB5 hlc hbc
     unfold recV recCells)
  have hg6 := (Below.refl w5.heap.size w5).alloc (Nat.le_refl _) (.cells (recCells 2 ⟨#[107]⟩ 7 0 5 (.slice LA 1 lc) (.slice BA 0 bc)) 25)
  have hl6 := heap_alloc_new w5 (.cells (recCells 2 ⟨#[107]⟩ 7 0 5 (.slice LA 1 lc) (.slice BA 0 bc)) 25)
  change Code.wp _ _ _ _ (w5.alloc (.cells (recCells 2 ⟨#[107]⟩ 7 0 5 (.slice LA 1 lc) (.slice BA 0 bc)) 25))
  have HG6 := Aside0.mk (HG5.out.trans (show Grows w5 _ from hg6))
  have HL6 := Aside0.mk (own_grows HL5.out (show Grows w5 _ from hg6))
  have HB6 := Aside0.mk (own_grows (show w5.ownsRow _ 5 1 _ _ _ from HB5.out) (show Grows w5 _ from hg6))
  have HR6 := Aside0.mk (show RecT 25 _ _ 2 ⟨#[107]⟩ 7 0 5 (.slice LA 1 lc) (.slice BA 0 bc) from hl6)
  clear hg6 hl6 HL5 HB5 HG5
  generalize (w5.alloc (.cells (recCells 2 ⟨#[107]⟩ 7 0 5 (.slice LA 1 lc) (.slice BA 0 bc)) 25)) = w6 at HG6 HL6 HB6 HR6 ⊢
  generalize w5.heap.size = q5 at HR6 ⊢
  have hg7 := (Below.refl w6.heap.size w6).alloc (Nat.le_refl _) (.cells #[.int .u8 5, .int .u8 1] 5)
  have hl7 := heap_alloc_new w6 (.cells #[.int .u8 5, .int .u8 1] 5)
  have HRUN3 : Aside0 (Calls Try.prog 11 #[.slice (some ⟨w6.heap.size, 0, none⟩) 2 2] (w6.alloc (.cells #[.int .u8 5, .int .u8 1] 5)) fun e w' => e = .returned (.tuple #[.agg #[.int .i64 0, .string ⟨#[]⟩, .int .i64 0, .int .i64 0, .int .i64 0, .slice none 0 0, .slice none 0 0], .bool false]) ∧ Grows w6 w') := ⟨by
    have h := get_calls (some ⟨w6.heap.size, 0, none⟩) 2 [5, 1] (w6.alloc (.cells #[.int .u8 5, .int .u8 1] 5)) (lit_reads (xs := [5, 1]) (by simp) hl7) (by simp) (by unfold u8s; decide) (by simp)
    rw [head_g2] at h
    refine h.mono ?_
    rintro e w5 ⟨v4, rfl, hg5, hn, _⟩
    obtain rfl := hn rfl
    exact ⟨rfl, Grows.trans (show Grows w6 _ from hg7) hg5⟩⟩
  clear hg7 hl7
  go_upto_region 6 with
    (go_at_call 11
     refine HRUN3.out.mono ?_
     clear HRUN3
     rintro e w7 ⟨rfl, hg7⟩
     have HG7 := Aside0.mk hg7
     clear hg7)
  have hg8 := (Below.refl w7.heap.size w7).alloc (Nat.le_refl _) (.cells #[.int .i64 0, .string ⟨#[]⟩, .int .i64 0, .int .i64 0, .int .i64 0, .slice none 0 0, .slice none 0 0] 25)
  have HG8 := Aside0.mk (HG7.out.trans (show Grows w7 _ from hg8))
  clear hg8 HG7
  generalize w7.alloc (.cells #[.int .i64 0, .string ⟨#[]⟩, .int .i64 0, .int .i64 0, .int .i64 0, .slice none 0 0, .slice none 0 0] 25) = w8 at HG8 ⊢
  have hg48 := HG6.out.trans HG8.out
  have hA := own_grows HA4.out hg48
  have hB := own_grows (show w4.ownsRow _ 5 1 _ _ _ from HO4.out) hg48
  have h28 := conv_str Try.underlying23 (own_reads' hA) c1
  have h32 := conv_str Try.underlying23 (own_reads' hB) c3
  have e28 : strOfNums [3, 2, 97, 98, 120, 121] = ⟨#[3, 2, 97, 98, 120, 121]⟩ := by kernel_rfl
  have e32 : strOfNums [2, 1, 107, 0, 0, 0, 0, 0, 7, 0, 0, 5, 0, 1, 0, 0, 0, 1, 0, 0, 1, 2, 0, 5] = ⟨#[2, 1, 107, 0, 0, 0, 0, 0, 7, 0, 0, 5, 0, 1, 0, 0, 0, 1, 0, 0, 1, 2, 0, 5]⟩ := by kernel_rfl
  rw [e28] at h28
  rw [e32] at h32
  replace h28 : (convert 23 9 (.slice A1 6 c1)).run Try.prog w8 = _ := h28
  replace h32 : (convert 23 9 (.slice A3 24 c3)).run Try.prog w8 = _ := h32
  clear e28 e32 hA hB
  have hq := HQ4.out.grows hg48
  have hr := HR6.out.grows HG8.out
  have d0 := hq.c0; have d1 := hq.c1; have d2 := hq.c2; have d3 := hq.c3; have d4 := hq.c4; have d5 := hq.c5; have d6 := hq.c6
  have e0 := hr.c0; have e1 := hr.c1; have e2 := hr.c2; have e3 := hr.c3; have e4 := hr.c4; have e5 := hr.c5; have e6 := hr.c6
  have hsame := souterrainref04_Same.calls 10 2 ⟨#[107]⟩ 7 0 5 LA lc [⟨1, 258, 5⟩] BA bc [] 2 ⟨#[107]⟩ 7 0 5 (some ⟨p, 0, none⟩) 1 [⟨1, 258, 5⟩] none 0 [] true w8 (C_loc (own_grows HL6.out HG8.out)) HLC.out (C_u8 (own_grows HB6.out HG8.out)) HBC.out (C_loc (own_grows HL4.out hg48)) (Nat.le_refl _) (C_u8 (World.ownsRow_nil _ 0 _ _)) (Nat.le_refl _) head_same
  have HSAME : Aside0 (Calls Try.prog 17 #[.agg #[.int .i64 2, .string ⟨#[107]⟩, .int .i64 7, .int .i64 0, .int .i64 5, .slice LA 1 lc, .slice BA 0 bc], .agg #[.int .i64 2, .string ⟨#[107]⟩, .int .i64 7, .int .i64 0, .int .i64 5, .slice (some ⟨p, 0, none⟩) 1 1, .slice none 0 0]] w8 fun e w' => e = .returned (.bool true) ∧ Below w8.heap.size w8 w') := ⟨hsame⟩
  have HGW := Aside0.mk (HGW4.out.trans hg48)
  clear hg48 hq hr hsame HA4 HO4 HL4 HQ4 HL6 HB6 HR6 HG8 HG6 HGW4 HLC HBC HC1 HC3 HB1
  go_wp2_with (first
    | (go_at_call 17
       refine HSAME.out.mono ?_
       clear HSAME h28 h32 d0 d1 d2 d3 d4 d5 d6 e0 e1 e2 e3 e4 e5 e6
       rintro e w9 ⟨rfl, hg9⟩
       have HG9 := Aside0.mk (HGW.out.trans (show Grows w8 w9 from hg9))
       clear hg9 HGW)
    | (go_at_call 18
       refine (rec_Key.calls ⟨#[97]⟩ true w9 head_k1).mono ?_
       rintro e w10 ⟨rfl, hg10⟩
       have HG10 := Aside0.mk (HG9.out.trans (drawn_grows hg10))
       clear hg10 HG9)
    | (go_at_call 18
       refine (rec_Key.calls ⟨#[]⟩ false w10 head_k2).mono ?_
       rintro e w11 ⟨rfl, hg11⟩
       have HG11 := Aside0.mk (HG10.out.trans (drawn_grows hg11))
       clear hg11 HG10)
    | (go_at_call 13
       refine (right_calls 0 noKey 0 0 0 none 0 [] none 0 [] w11 (RecIn.nilL (low_nil w11 0) (Nat.le_refl _))).mono ?_
       rw [head_r]
       rintro e w12 ⟨rfl, hg12⟩
       have HG12 := Aside0.mk (HG11.out.trans hg12)
       clear hg12 HG11))
  go_ret
  exact ⟨rfl, HG12.out⟩
def souterrainlaw04_head.f : Option (Bool) := some true
theorem souterrainlaw04_head.calls (r : Bool) (w : World) (h : souterrainlaw04_head.f = some r) :
    Calls Try.prog 9 #[] w fun e w' => e = .returned (.bool r) ∧ Below w.heap.size w w' := by
  obtain rfl := Option.some.inj h
  exact head_calls w

/-! ### souterrainlaw04_great: function 10 -/
def souterrainlaw04_great.f (a0_0 : Int) (a0_1 : ByteArray) (a0_2 : Int) (a0_3 : Int) (a0_4 : Int) (l0_5 : List (S39)) (l0_6 : List Int) : Option (Bool) := if (wrap64 ((a0_1.size : Int) + (l0_6.length : Int))) > 20000 then (some true) else (some (decide ((l0_5.length : Int) > 2000)))
set_option maxHeartbeats 8000000 in
set_option maxRecDepth 100000 in
theorem souterrainlaw04_great.calls (a0_0 : Int) (a0_1 : ByteArray) (a0_2 : Int) (a0_3 : Int) (a0_4 : Int) (A0_5 : Option Addr) (c0_5 : Nat) (l0_5 : List (S39)) (A0_6 : Option Addr) (c0_6 : Nat) (l0_6 : List Int) (r : Bool) (w : World) (hr0_5 : Kd.C k39 w A0_5 l0_5.length l0_5) (hc0_5 : l0_5.length ≤ c0_5) (hr0_6 : Kd.C (Kd.int .u8) w A0_6 l0_6.length l0_6) (hc0_6 : l0_6.length ≤ c0_6) (h : souterrainlaw04_great.f a0_0 a0_1 a0_2 a0_3 a0_4 l0_5 l0_6 = some r) :
    Calls Try.prog 10 #[.agg #[.int .i64 a0_0, .string a0_1, .int .i64 a0_2, .int .i64 a0_3, .int .i64 a0_4, .slice A0_5 l0_5.length c0_5, .slice A0_6 l0_6.length c0_6]] w fun e w' => e = .returned (.bool r) ∧ Below w.heap.size w w' := by
  have hu25 := Try.underlying25
  have HR0_5 := Aside0.mk hr0_5
  have HC0_5 := Aside0.mk hc0_5
  clear hr0_5 hc0_5
  have HR0_6 := Aside0.mk hr0_6
  have HC0_6 := Aside0.mk hc0_6
  clear hr0_6 hc0_6
  have HB := Aside0.mk (Below.refl w.heap.size w)
  have H : (if (wrap64 ((a0_1.size : Int) + (l0_6.length : Int))) > 20000 then (some true) else (some (decide ((l0_5.length : Int) > 2000)))) = some r := h
  clear h
  by_cases c2 : (wrap64 ((a0_1.size : Int) + (l0_6.length : Int))) > 20000
  · rw [if_pos c2] at H
    have c2b0 : decide (20000 < (wrap64 ((a0_1.size : Int) + (l0_6.length : Int)))) = true := decide_eq_true c2
    clear c2
    obtain rfl := Option.some.inj H
    go_enter Try.func10, Try.ntmps10
    go_wp2_with (first | ((with_reducible refine gate_dst (N := 1) rfl ?_); (try (refine gate_guard (by rfl) ?_; dsimp only)); refine box_event ?hg (N := 1) ?hd (cs := #[.int .i64 a0_0, .string a0_1, .int .i64 a0_2, .int .i64 a0_3, .int .i64 a0_4, .slice A0_5 l0_5.length c0_5, .slice A0_6 l0_6.length c0_6]) (t := 25) ?hr ?_; (case hd => rfl); (case hg => rfl); (case hr => first | (go_simp; done) | (go_simp; rfl)); intro gb106 hg w3 hbox hb; have n0_ := Aside0.mk (below_step (by repeat (first | (with_reducible first | exact HB.out | apply below_alloc | apply pw_below_drewN | apply below_drew1) | exact HB.out)) hb); have n1_ := Aside0.mk (hbox); have n2_ := Aside0.mk ((by rw [hg]; exact (below_size (by repeat (first | (with_reducible first | exact HB.out | apply below_alloc | apply pw_below_drewN | apply below_drew1) | exact HB.out))) : w.heap.size ≤ gb106)); have n3_ := Aside0.mk ((by rw [hg]; exact (below_size (by repeat (first | (with_reducible first | exact HB.out | apply below_alloc | apply pw_below_drewN | apply below_drew1) | exact HB.out))) : w.heap.size ≤ gb106)); clear HB; have HB := n0_; have BK106 := n1_; have GW106 := n2_; have GE106 := n3_; clear n0_ n1_ n2_ n3_; clear hb hbox hg; have hcz4_0 : w3.cell? ⟨gb106, 0, none⟩ = some (.int .i64 a0_0) := (blk_cell BK106.out 0).trans rfl; have hcz4_1 : w3.cell? ⟨gb106, 1, none⟩ = some (.string a0_1) := (blk_cell BK106.out 1).trans rfl; have hcz4_2 : w3.cell? ⟨gb106, 2, none⟩ = some (.int .i64 a0_2) := (blk_cell BK106.out 2).trans rfl; have hcz4_3 : w3.cell? ⟨gb106, 3, none⟩ = some (.int .i64 a0_3) := (blk_cell BK106.out 3).trans rfl; have hcz4_4 : w3.cell? ⟨gb106, 4, none⟩ = some (.int .i64 a0_4) := (blk_cell BK106.out 4).trans rfl; have hcz4_5 : w3.cell? ⟨gb106, 5, none⟩ = some (.slice A0_5 l0_5.length c0_5) := (blk_cell BK106.out 5).trans rfl; have hcz4_6 : w3.cell? ⟨gb106, 6, none⟩ = some (.slice A0_6 l0_6.length c0_6) := (blk_cell BK106.out 6).trans rfl; have hfz4_0 := blk_frozen BK106.out 0; have hfz4_1 := blk_frozen BK106.out 1; have hfz4_2 := blk_frozen BK106.out 2; have hfz4_3 := blk_frozen BK106.out 3; have hfz4_4 := blk_frozen BK106.out 4; have hfz4_5 := blk_frozen BK106.out 5; have hfz4_6 := blk_frozen BK106.out 6))
    go_ret
    exact ⟨by first | rfl | (simp [errW_none, errW_some] <;> rfl) | (simp [*, errW_none, errW_some] <;> rfl), by repeat (first | (with_reducible first | exact HB.out | apply below_alloc | apply pw_below_drewN | apply below_drew1 | refine below_set ?_ GE106.out) | exact HB.out)⟩
  · rw [if_neg c2] at H
    have c2b0 : decide (20000 < (wrap64 ((a0_1.size : Int) + (l0_6.length : Int)))) = false := decide_eq_false c2
    clear c2
    obtain rfl := Option.some.inj H
    go_enter Try.func10, Try.ntmps10
    go_wp2_with (first | ((with_reducible refine gate_dst (N := 1) rfl ?_); (try (refine gate_guard (by rfl) ?_; dsimp only)); refine box_event ?hg (N := 1) ?hd (cs := #[.int .i64 a0_0, .string a0_1, .int .i64 a0_2, .int .i64 a0_3, .int .i64 a0_4, .slice A0_5 l0_5.length c0_5, .slice A0_6 l0_6.length c0_6]) (t := 25) ?hr ?_; (case hd => rfl); (case hg => rfl); (case hr => first | (go_simp; done) | (go_simp; rfl)); intro gb106 hg w5 hbox hb; have n0_ := Aside0.mk (below_step (by repeat (first | (with_reducible first | exact HB.out | apply below_alloc | apply pw_below_drewN | apply below_drew1) | exact HB.out)) hb); have n1_ := Aside0.mk (hbox); have n2_ := Aside0.mk ((by rw [hg]; exact (below_size (by repeat (first | (with_reducible first | exact HB.out | apply below_alloc | apply pw_below_drewN | apply below_drew1) | exact HB.out))) : w.heap.size ≤ gb106)); have n3_ := Aside0.mk ((by rw [hg]; exact (below_size (by repeat (first | (with_reducible first | exact HB.out | apply below_alloc | apply pw_below_drewN | apply below_drew1) | exact HB.out))) : w.heap.size ≤ gb106)); clear HB; have HB := n0_; have BK106 := n1_; have GW106 := n2_; have GE106 := n3_; clear n0_ n1_ n2_ n3_; clear hb hbox hg; have hcz6_0 : w5.cell? ⟨gb106, 0, none⟩ = some (.int .i64 a0_0) := (blk_cell BK106.out 0).trans rfl; have hcz6_1 : w5.cell? ⟨gb106, 1, none⟩ = some (.string a0_1) := (blk_cell BK106.out 1).trans rfl; have hcz6_2 : w5.cell? ⟨gb106, 2, none⟩ = some (.int .i64 a0_2) := (blk_cell BK106.out 2).trans rfl; have hcz6_3 : w5.cell? ⟨gb106, 3, none⟩ = some (.int .i64 a0_3) := (blk_cell BK106.out 3).trans rfl; have hcz6_4 : w5.cell? ⟨gb106, 4, none⟩ = some (.int .i64 a0_4) := (blk_cell BK106.out 4).trans rfl; have hcz6_5 : w5.cell? ⟨gb106, 5, none⟩ = some (.slice A0_5 l0_5.length c0_5) := (blk_cell BK106.out 5).trans rfl; have hcz6_6 : w5.cell? ⟨gb106, 6, none⟩ = some (.slice A0_6 l0_6.length c0_6) := (blk_cell BK106.out 6).trans rfl; have hfz6_0 := blk_frozen BK106.out 0; have hfz6_1 := blk_frozen BK106.out 1; have hfz6_2 := blk_frozen BK106.out 2; have hfz6_3 := blk_frozen BK106.out 3; have hfz6_4 := blk_frozen BK106.out 4; have hfz6_5 := blk_frozen BK106.out 5; have hfz6_6 := blk_frozen BK106.out 6))
    go_ret
    exact ⟨by first | rfl | (simp [errW_none, errW_some] <;> rfl) | (simp [*, errW_none, errW_some] <;> rfl), by repeat (first | (with_reducible first | exact HB.out | apply below_alloc | apply pw_below_drewN | apply below_drew1 | refine below_set ?_ GE106.out) | exact HB.out)⟩

end Go.Proofs.Ytemnhgmgffdncaa.PRecBack
