/-
  The law PinAs: a segment is pinned just as long as a handle is there that pins it.
-/
import Derived.Test.YtdfjacpfmjgfiaaAsPure
namespace Go.Proofs.Ytdfjacpfmjgfiaa
set_option linter.unusedVariables false
set_option linter.unusedSimpArgs false
open Go.Shelf Go.RowKit Go.Proofs.YtdfjacpfmjgfiaaW.PrintWords Go.Proofs.YtdfjacpfmjgfiaaW.PrintMore PPinPlays
attribute [local go_sem] max2_int
/-- The state of PinAs's law. -/
structure AsSt (w W : World) (t : Nat) (v : Value) (most next : Int) (hl : HL) (seg : Int) (by' : List Int) (B : Nat) : Prop where
  tab : ∃ R, AtR R w W t most next hl ∧ Mine R w W v by'
  bound : ∀ x ∈ hl, x.2.length ≤ B
  just : ByOk hl seg by'
theorem AsSt.below {w W : World} {t : Nat} {v : Value} {most next : Int} {hl : HL} {seg : Int} {by' : List Int} {B : Nat} (h : AsSt w W t v most next hl seg by' B) : Below w.heap.size w W := h.tab.elim fun R h => h.1.below
set_option maxRecDepth 100000 in
set_option maxHeartbeats 4000000 in
theorem as_calls (w : World) (m : Nat) (hm : m < 256) {A1 : Option Addr} {c1 : Nat} (l : List S31) (seg : Int) (hr : Kd.C k31 w A1 l.length l) (hc1 : l.length ≤ c1) (hl : l.length ≤ 4611686018427387904) :
    Calls Try.prog 4 #[.int .u8 m, .slice A1 l.length c1, .int .i64 seg] w fun e w' => e = .returned (.bool true) ∧ Below w.heap.size w w' := by
  obtain ⟨kg, rg, hgr, hgf⟩ := great_tells l hl
  have HR := Aside0.mk hr
  have HGR := Aside0.mk hgr
  have HGF := Aside0.mk hgf
  clear hr hgr hgf
  have hu : IntKind.i64.wrap (m : Int) = m := IntWalk.i64_in _ ⟨by omega, by omega⟩
  go_enter Try.func4, Try.ntmps4
  go_upto_region 2 with (go_at_call 9; refine (head_calls _).mono ?_; rintro e w1 ⟨rfl, hb⟩; have HB := Aside0.mk hb; clear hb)
  go_upto_region 3 with (go_at_call 10; refine (atR_new w _ HB.out (1 + (m : Int)) (by omega)).mono ?_; rintro e w2 ⟨t, rfl, hA⟩; have HA := Aside0.mk hA; clear hA)
  clear HB
  cases rg with
  | true =>
    go_wp2_with (go_at_call 12; refine (souterrainlaw17_great.calls kg A1 c1 l true _ (Kd.C_below HR.out HA.out.below) hc1 HGR.out).mono ?_; rintro e w3 ⟨rfl, hb2⟩; have HB2 := Aside0.mk (HA.out.grows hb2); clear hb2)
    go_ret
    exact ⟨rfl, HB2.out.below⟩
  | false =>
    have HTOT := Aside0.mk (HGF.out rfl).1
    have hl3 := (HGF.out rfl).2
    go_upto_region 5 with (go_at_call 12; refine (souterrainlaw17_great.calls kg A1 c1 l false _ (Kd.C_below HR.out HA.out.below) hc1 HGR.out).mono ?_; rintro e w3 ⟨rfl, hb2⟩; have HA3 := Aside0.mk (HA.out.grows hb2); clear hb2 HA)
    clear HGF
    go_wp2
    go_loopg [9, 10] l.length (fun f v9 v10 wr => ∃ (i : Nat) (by' : List Int) (hl : HL) (next : Int), Aside0 (f + i = l.length) ∧ i ≤ l.length ∧ v10 = .int .i64 i ∧ 1 ≤ next ∧ next ≤ i + 1 ∧ hl.length ≤ i ∧ by'.length ≤ i ∧ Aside0 (AsSt w wr t v9 (1 + (m : Int)) next hl seg by' (i + tot (l.take i))))
    case atStart => exact ⟨0, [], [], 1, ⟨by omega⟩, by omega, rfl, by omega, by omega, by simp, by simp, ⟨⟨_, HA3.out, Mine.nil _ _ _⟩, (fun x hx => by cases hx), (fun k => by simp [getL])⟩⟩
    case round =>
      clear HA3
      obtain ⟨i, by', hl, next, HF, hi, rfl, hn2, hn3, hhl, hbl, HS⟩ := hrel
      by_cases hlt : i < l.length
      · obtain ⟨ad, A3, c3, rfl, h0, h1, h2, h3, hcc, hrr⟩ := op_at HR.out HS.out.below hlt
        obtain ⟨x, hx⟩ : ∃ x, x = l[i] := ⟨_, rfl⟩
        rw [← hx] at h0 h1 h2 h3 hcc hrr
        have HX := Aside0.mk hx
        clear hx
        obtain ⟨what, hd, sg, sgs⟩ := x
        simp only at h0 h1 h2 h3 hcc hrr
        have HRR := Aside0.mk hrr
        clear hrr
        obtain ⟨R0, hT0, hM0⟩ := HS.out.tab
        obtain ⟨Av, cv, ev, hcv⟩ := own_slice hM0.own
        subst ev
        have HT := Aside0.mk hT0
        have HM0 := Aside0.mk hM0
        have HB := Aside0.mk HS.out.bound
        have HJ := Aside0.mk HS.out.just
        have HTA := Aside0.mk (tot_at hlt)
        have HTT := Aside0.mk (tot_take hlt)
        rw [← HX.out] at HTA HTT
        clear HS hT0 hM0
        have hB9 : i + tot (l.take i) ≤ 9000 := by have := HTA.out; have := HTOT.out; omega
        have hX9 : sgs.length ≤ 9000 := by have h1 := HTA.out; have h2 := HTOT.out; dsimp only at h1; omega
        go_upto_region 10 with fail
        obtain ⟨R, hA, hX, hRR⟩ := HT.out.box what hd sg (.slice A3 sgs.length c3)
        have hM := (HM0.out.grows (W' := wr.alloc (Obj.cells #[Value.int IntKind.i64 what, Value.int IntKind.i64 hd, Value.int IntKind.i64 sg, Value.slice A3 sgs.length c3] 31)) ((Below.refl wr.heap.size wr).alloc (Nat.le_refl _) _)).more hRR
        generalize wr.alloc (Obj.cells #[Value.int IntKind.i64 what, Value.int IntKind.i64 hd, Value.int IntKind.i64 sg, Value.slice A3 sgs.length c3] 31) = W1 at hA hX hM ⊢
        generalize wr.heap.size = b at hX ⊢
        have HA := Aside0.mk hA
        have HBX := Aside0.mk hX
        have HM := Aside0.mk hM
        have c0 := hX.c0
        have c1' := hX.c1
        have c2' := hX.c2
        have c3' := hX.c3
        clear hA hX hM h0 h1 h2 h3 HT HM0 hRR
        go_upto_block 2 with fail
        go_cut [9] (fun v9 wc => ∃ (by2 : List Int) (hl2 : HL) (next2 : Int), 1 ≤ next2 ∧ next2 ≤ i + 1 + 1 ∧ hl2.length ≤ i + 1 ∧ by2.length ≤ i + 1 ∧ Aside0 (AsSt w wc t v9 (1 + (m : Int)) next2 hl2 seg by2 (i + 1 + tot (l.take (i + 1)))))
        case first =>
          cases hw2b : (what == 2) with
          | true =>
            cases hbb : (getL hl hd).isSome with
            | false =>
              have HC := Aside0.mk (pinq_tb HA.out.tb hd sg (by cases h : getL hl hd with | none => rfl | some q => rw [h] at hbb; cases hbb))
              clear hbb
              go_wp2_with (go_at_call 13; refine HC.out.mono ?_; clear HC; rintro e w4 ⟨rfl, rfl⟩)
              go_meet
              case rel => exact ⟨by', hl, next, hn2, by omega, by omega, by omega, ⟨⟨_, HA.out, HM.out⟩, fun x hx => (by have h1 := HB.out x hx; have h2 := HTT.out; omega), HJ.out⟩⟩
            | true =>
              have HC := Aside0.mk (atR_pin HA.out (fun x hx => Nat.le_trans (HB.out x hx) (by omega)) (by omega) hd sg)
              rw [hbb] at HC
              have HBB := Aside0.mk hbb
              have HPB := Aside0.mk (fun x (hx : x ∈ pinL hl hd sg) => (by have h1 := pin_bound HB.out hd sg x hx; have h2 := HTT.out; omega : x.2.length ≤ i + 1 + tot (l.take (i + 1))))
              have HPL := Aside0.mk (show (pinL hl hd sg).length = hl.length by unfold pinL; rw [List.length_map])
              clear hbb
              cases hsb : (sg == seg) with
              | false =>
                have HJ2 := Aside0.mk (by_pin_other HJ.out hd sg hsb)
                go_wp2_with (go_at_call 13; refine HC.out.mono ?_; clear HC; rintro e w4 ⟨rfl, hA4, hK4⟩; have HA4 := Aside0.mk hA4; have HM4 := Aside0.mk (HM.out.keep hK4); have q2 := (HBX.out.keep hK4).c2; clear hA4 hK4)
                go_meet
                case rel => exact ⟨by', _, next, hn2, by omega, (by rw [HPL.out]; omega), by omega, ⟨⟨_, HA4.out, HM4.out⟩, HPB.out, HJ2.out⟩⟩
              | true =>
                have hse : sg = seg := beq_iff_eq.1 hsb
                have HSE := Aside0.mk hse
                clear hse
                cases hch : by'.contains hd with
                | true =>
                  have HJ2 := Aside0.mk (by_pin_add HJ.out hd HBB.out (by2 := by') (fun k => ⟨.inl, fun h => h.elim id fun e => by rw [e]; exact List.contains_iff_mem.1 hch⟩))
                  have HCH := Aside0.mk hch
                  clear hch
                  go_wp2_with (first
                    | (go_at_call 13; refine HC.out.mono ?_; clear HC; rintro e w4 ⟨rfl, hA4, hK4⟩; have HA4 := Aside0.mk hA4; have HM4 := Aside0.mk (HM.out.keep hK4); have q2 := (HBX.out.keep hK4).c2; have q1 := (HBX.out.keep hK4).c1; have HHas := Aside0.mk (has_calls (c := cv) (own_reads' (HM.out.keep hK4).own) hd (by omega)); rw [HCH.out] at HHas; clear hA4 hK4)
                    | (go_at_call 28; refine HHas.out.mono ?_; clear HHas; rintro e w5 ⟨rfl, rfl⟩))
                  go_meet
                  case rel => exact ⟨by', _, next, hn2, by omega, (by rw [HPL.out]; omega), by omega, ⟨⟨_, HA4.out, HM4.out⟩, HPB.out, (by rw [HSE.out]; exact HJ2.out)⟩⟩
                | false =>
                  have HJ2 := Aside0.mk (by_pin_add HJ.out hd HBB.out (by2 := by' ++ [hd]) (fun k => by rw [List.mem_append, List.mem_singleton]))
                  have HCH := Aside0.mk hch
                  clear hch
                  go_upto_region 16 with (first
                    | (go_at_call 13; refine HC.out.mono ?_; clear HC; rintro e w4 ⟨rfl, hA4, hK4⟩; have HA4 := Aside0.mk hA4; have HM4 := Aside0.mk (HM.out.keep hK4); have q2 := (HBX.out.keep hK4).c2; have q1 := (HBX.out.keep hK4).c1; have HHas := Aside0.mk (has_calls (c := cv) (own_reads' (HM.out.keep hK4).own) hd (by omega)); rw [HCH.out] at HHas; clear hA4 hK4)
                    | (go_at_call 28; refine HHas.out.mono ?_; clear HHas; rintro e w5 ⟨rfl, rfl⟩))
                  obtain ⟨v1, w6, hr, R6, hA6, hM6⟩ := append_mine HA4.out HM4.out hd (by omega)
                  have HA6 := Aside0.mk hA6
                  have HM6 := Aside0.mk hM6
                  clear HA4 HM4 hA6 hM6
                  go_wp2_with (at_builtin; refine wpList_appendE (.tmp 83) (.tmp 86) 29 rfl rfl rfl rfl ⟨_, _, hr, ?_⟩; clear hr)
                  go_meet
                  case rel => exact ⟨by' ++ [hd], _, next, hn2, by omega, (by rw [HPL.out]; omega), (by simp; omega), ⟨⟨_, HA6.out, HM6.out⟩, HPB.out, (by rw [HSE.out]; exact HJ2.out)⟩⟩
          | false =>
            cases hw3b : (what == 3) with
            | true =>
              cases hbb : (getL hl hd).isSome with
              | false =>
                have HC := Aside0.mk (closeq_tb HA.out.tb hd (by cases h : getL hl hd with | none => rfl | some q => rw [h] at hbb; cases hbb))
                clear hbb
                go_wp2_with (go_at_call 15; refine HC.out.mono ?_; clear HC; rintro e w4 ⟨rfl, rfl⟩)
                go_meet
                case rel => exact ⟨by', hl, next, hn2, by omega, by omega, by omega, ⟨⟨_, HA.out, HM.out⟩, fun x hx => (by have h1 := HB.out x hx; have h2 := HTT.out; omega), HJ.out⟩⟩
              | true =>
                have HC := Aside0.mk (atR_close HA.out (fun x hx => Nat.le_trans (HB.out x hx) (by omega)) (by omega) hd)
                rw [hbb] at HC
                have HDL := Aside0.mk (del_len HA.out.tb.hok.keyed hbb)
                have HFL := Aside0.mk (List.length_filter_le (fun z : Int => z != hd) by')
                clear hbb
                go_upto_region 19 with (go_at_call 15; refine HC.out.mono ?_; clear HC; rintro e w4 ⟨rfl, hA4, hK4⟩; have HA4 := Aside0.mk hA4; have HM4 := Aside0.mk (HM.out.keep hK4); have q1 := (HBX.out.keep hK4).c1; have HW := Aside0.mk (without_calls (c := cv) (own_reads' (HM.out.keep hK4).own) hd (by omega)); clear hA4 hK4)
                go_wp2_with (go_at_call 29; refine HW.out.mono ?_; clear HW; rintro e w5 ⟨v5, rfl, ho, hg⟩; have HA5 := Aside0.mk (HA4.out.with (KeepS.of_grows hg) (keep_grows HA4.out.keep hg)); have HM5 := Aside0.mk (Mine.mk (R := fun k => R k ∨ (w4.heap.size ≤ k ∧ k < w5.heap.size)) (w := w) (own_mono ho HA4.out.keep.size) (fun k e => .inr ⟨own_base ho k e, own_lt ho k e⟩)); clear ho hg)
                go_meet
                case rel => exact ⟨by'.filter (· != hd), delL hl hd, next, hn2, by omega, (by have := HDL.out; omega), (by have := HFL.out; omega), ⟨⟨_, HA5.out, HM5.out⟩, fun x hx => (by have h1 := del_bound HB.out hd x hx; have h2 := HTT.out; omega), by_del HJ.out hd⟩⟩
            | false =>
              by_cases hfl : hl.length < 1 + m
              · have HC := Aside0.mk (atR_open (c := c3) HA.out (by omega) (fun x hx => Nat.le_trans (HB.out x hx) (by omega)) (by omega) hn2 (by omega) (HA.out.reads HRR.out).2 (by omega))
                have HOB := Aside0.mk (fun x (hx : x ∈ hl ++ [(next, insAll [] sgs)]) => (by have h1 := open_bound HB.out next sgs x hx; have h2 := HTT.out; dsimp only at h2; omega : x.2.length ≤ i + 1 + tot (l.take (i + 1))))
                clear hfl
                cases hch : sgs.contains seg with
                | true =>
                  have HJ2 := Aside0.mk (by_open_yes HJ.out HA.out.tb.hok sgs hch)
                  have HCH := Aside0.mk hch
                  clear hch
                  go_upto_region 13 with (first
                    | (go_at_call 17; refine HC.out.mono ?_; clear HC; rintro e w4 ⟨rfl, hA4, hK4⟩; have HA4 := Aside0.mk hA4; have HM4 := Aside0.mk (HM.out.keep hK4); have q3 := (HBX.out.keep hK4).c3; have HHas := Aside0.mk (has_calls (c := c3) (hA4.reads HRR.out).1 seg (by omega)); rw [HCH.out] at HHas; clear hA4 hK4)
                    | (go_at_call 28; refine HHas.out.mono ?_; clear HHas; rintro e w5 ⟨rfl, rfl⟩))
                  obtain ⟨v1, w6, hr, R6, hA6, hM6⟩ := append_mine HA4.out HM4.out next (by omega)
                  have HA6 := Aside0.mk hA6
                  have HM6 := Aside0.mk hM6
                  clear HA4 HM4 hA6 hM6
                  go_wp2_with (at_builtin; refine wpList_appendE (.tmp 58) (.tmp 60) 29 rfl rfl rfl rfl ⟨_, _, hr, ?_⟩; clear hr)
                  go_meet
                  case rel => exact ⟨by' ++ [next], _, next + 1, by omega, by omega, (by simp; omega), (by simp; omega), ⟨⟨_, HA6.out, HM6.out⟩, HOB.out, HJ2.out⟩⟩
                | false =>
                  have HJ2 := Aside0.mk (by_open_no HJ.out HA.out.tb.hok sgs hch)
                  have HCH := Aside0.mk hch
                  clear hch
                  go_wp2_with (first
                    | (go_at_call 17; refine HC.out.mono ?_; clear HC; rintro e w4 ⟨rfl, hA4, hK4⟩; have HA4 := Aside0.mk hA4; have HM4 := Aside0.mk (HM.out.keep hK4); have q3 := (HBX.out.keep hK4).c3; have HHas := Aside0.mk (has_calls (c := c3) (hA4.reads HRR.out).1 seg (by omega)); rw [HCH.out] at HHas; clear hA4 hK4)
                    | (go_at_call 28; refine HHas.out.mono ?_; clear HHas; rintro e w5 ⟨rfl, rfl⟩))
                  go_meet
                  case rel => exact ⟨by', _, next + 1, by omega, by omega, (by simp; omega), by omega, ⟨⟨_, HA4.out, HM4.out⟩, HOB.out, HJ2.out⟩⟩
              · have HC := Aside0.mk (atR_full HA.out (by omega) (.slice A3 sgs.length c3))
                clear hfl
                go_wp2_with (go_at_call 17; refine HC.out.mono ?_; clear HC; rintro e w4 ⟨rfl, hA4, hK4⟩; have HA4 := Aside0.mk hA4; have HM4 := Aside0.mk (HM.out.keep hK4); clear hA4 hK4)
                go_meet
                case rel => exact ⟨by', hl, next, hn2, by omega, by omega, by omega, ⟨⟨_, HA4.out, HM4.out⟩, fun x hx => (by have h1 := HB.out x hx; have h2 := HTT.out; omega), HJ.out⟩⟩
        case rest =>
          obtain ⟨by2, hl2, next2, g1, g2, g3, g4, HS⟩ := hcut
          clear HA HBX HM HB HJ c0 c1' c2' c3' hn2 hn3 hhl hbl
          obtain ⟨Rt, hT, hM⟩ := HS.out.tab
          obtain ⟨Ab, cb, ev, hcb⟩ := own_slice hM.own
          subst ev
          have HP := Aside0.mk (pinned_tb hT.tb seg)
          rw [by_pos HS.out.just hT.tb.hok.keyed] at HP
          have hgi : decide (0 < (by2.length : Int)) = decide (0 < by2.length) := by rw [decide_eq_decide]; omega
          clear hT hM
          generalize hz : decide (0 < by2.length) = z at HP hgi
          cases z
          all_goals
            go_wp2_with (go_at_call 26; refine HP.out.mono ?_; clear HP; rintro e w7 ⟨rfl, rfl⟩)
            clear hz hgi
            go_loopg [14] by2.length (fun f v14 wr => ∃ k : Nat, Aside0 (f + k = by2.length) ∧ k ≤ by2.length ∧ v14 = .int .i64 k ∧ Aside0 (AsSt w wr t (.slice Ab by2.length cb) (1 + (m : Int)) next2 hl2 seg by2 (i + 1 + tot (l.take (i + 1)))))
            case atStart => exact ⟨0, ⟨by omega⟩, by omega, rfl, HS⟩
            case round =>
              clear HS
              obtain ⟨k, HF2, hk, rfl, HS⟩ := hrel
              by_cases hlt2 : k < by2.length
              · obtain ⟨Rk, hT, hM⟩ := HS.out.tab
                obtain ⟨bb, cc, ev, _, hcell⟩ := own_cell hM.own hlt2
                injection ev with ev _ ev3
                subst ev ev3
                obtain ⟨q, hq1, hq2⟩ := (HS.out.just by2[k]).1 (List.getElem_mem _)
                generalize by2[k] = y at hcell hq1
                have hqb : q.length ≤ 1000000 := by
                  have h1 := HS.out.bound _ (getL_mem hq1)
                  have h2 := HTT.out
                  have h3 := HTA.out
                  dsimp only at h1 h2 h3
                  omega
                have HI := Aside0.mk (is_tb hT.tb y)
                rw [hq1] at HI
                have HO := Aside0.mk (atR_of hT y (fun x hx => Nat.le_trans (HS.out.bound x hx) (by have h2 := HTT.out; have h3 := HTA.out; omega)) (l := q) (by rw [hq1]; rfl))
                have HM := Aside0.mk hM
                have HQ2 := Aside0.mk hq2
                have HBN := Aside0.mk HS.out.bound
                have HJU := Aside0.mk HS.out.just
                clear hT hM hq1 hq2 HS
                go_wp2_with (first
                  | (go_at_call 21; refine HI.out.mono ?_; clear HI; rintro e w8 ⟨rfl, rfl⟩)
                  | (go_at_call 24; refine HO.out.mono ?_; clear HO; rintro e w9 ⟨Aq, cq, rfl, hcq, hrq, hoq, hgq, hAq⟩; have HA9 := Aside0.mk hAq; have HM9 := Aside0.mk (HM.out.grows hgq); have HHas := Aside0.mk (has_calls (c := cq) hrq seg hqb); rw [HQ2.out] at HHas; clear hcq hrq hoq hgq hAq)
                  | (go_at_call 28; refine HHas.out.mono ?_; clear HHas; rintro e w10 ⟨rfl, rfl⟩))
                go_roundg (by2.length - (k + 1))
                case measure => have := HF2.out; omega
                case rel => exact ⟨k + 1, ⟨by omega⟩, by omega, by go_num, ⟨⟨_, HA9.out, HM9.out⟩, HBN.out, HJU.out⟩⟩
              · go_wp2
                go_roundg (l.length - (i + 1))
                case measure => have := HF.out; omega
                case rel => exact ⟨i + 1, by2, hl2, next2, ⟨by omega⟩, by omega, by go_num, g1, by omega, g3, g4, HS⟩
      · go_wp2
        go_ret
        exact ⟨rfl, HS.out.below⟩
end Go.Proofs.Ytdfjacpfmjgfiaa
