/-
  The law PinPlays: the table answers as the document's does, whatever is played on both.
-/
import Derived.Test.YtdfjacpfmjgfiaaJoint
namespace Go.Proofs.Ytdfjacpfmjgfiaa
set_option linter.unusedVariables false
set_option linter.unusedSimpArgs false
open Go.Shelf Go.RowKit Go.Proofs.YtdfjacpfmjgfiaaW.PrintWords Go.Proofs.YtdfjacpfmjgfiaaW.PrintMore PPinPlays
attribute [local go_sem] max2_int
set_option maxRecDepth 100000 in
set_option maxHeartbeats 4000000 in
theorem plays_calls (w : World) (most : Int) {A1 : Option Addr} {c1 : Nat} (l : List S31) (hr : Kd.C k31 w A1 l.length l) (hc1 : l.length ≤ c1) (hl : l.length ≤ 4611686018427387904) :
    Calls Try.prog 3 #[.int .i64 most, .slice A1 l.length c1] w fun e w' => e = .returned (.bool true) ∧ Below w.heap.size w w' := by
  obtain ⟨kg, rg, hgr, hgf⟩ := great_tells l hl
  have HR := Aside0.mk hr
  have HGR := Aside0.mk hgr
  have HGF := Aside0.mk hgf
  clear hr hgr hgf
  go_enter Try.func3, Try.ntmps3
  go_upto_region 2 with (go_at_call 9; refine (head_calls _).mono ?_; rintro e w1 ⟨rfl, hb⟩; have HB := Aside0.mk hb; clear hb)
  by_cases hmo : 1 ≤ most ∧ most ≤ 1024
  · have HMO := Aside0.mk hmo
    clear hmo
    go_upto_region 4 with (first
      | (go_at_call 10; refine (new_tab _ most HMO.out).mono ?_; rintro e w2 ⟨t, rfl, hT, hg⟩; have HT := Aside0.mk hT; have HG := Aside0.mk hg; clear hT hg)
      | (go_at_call 11; refine (rnew_some _ most HMO.out).mono ?_; rintro e w3 ⟨g, rfl, hT, hg⟩; have HP := Aside0.mk (pl_new HB.out HT.out HG.out hT hg); clear hT hg HT HG))
    clear HB
    cases rg with
    | true =>
      go_wp2_with (go_at_call 12; refine (souterrainlaw17_great.calls kg A1 c1 l true _ (Kd.C_below HR.out HP.out.below) hc1 HGR.out).mono ?_; rintro e w4 ⟨rfl, hb2⟩; have HP4 := Aside0.mk (HP.out.grows hb2); clear hb2)
      go_ret
      exact ⟨rfl, HP4.out.below⟩
    | false =>
      have HTOT := Aside0.mk (HGF.out rfl).1
      have hl3 := (HGF.out rfl).2
      go_upto_region 6 with (go_at_call 12; refine (souterrainlaw17_great.calls kg A1 c1 l false _ (Kd.C_below HR.out HP.out.below) hc1 HGR.out).mono ?_; rintro e w4 ⟨rfl, hb2⟩; have HP4 := Aside0.mk (HP.out.grows hb2); clear hb2 HP)
      clear HGF
      go_wp2
      go_loopg [8] l.length (fun f v8 wr => ∃ (i : Nat) (hl : HL) (next : Int), Aside0 (f + i = l.length) ∧ i ≤ l.length ∧ v8 = .int .i64 i ∧ 1 ≤ next ∧ next ≤ i + 1 ∧ hl.length ≤ i ∧ Aside0 (PlSt w wr t g most next hl (i + tot (l.take i))))
      case atStart => exact ⟨0, [], 1, ⟨by omega⟩, by omega, rfl, by omega, by omega, by simp, ⟨⟨HP4.out, fun x hx => by cases hx⟩⟩⟩
      case round =>
        clear HP4
        obtain ⟨i, hl, next, HF, hi, rfl, hn2, hn3, hhl, HS⟩ := hrel
        by_cases hlt : i < l.length
        · obtain ⟨ad, A3, c3, rfl, h0, h1, h2, h3, hcc, hrr⟩ := op_at HR.out HS.out.pl.below hlt
          obtain ⟨x, hx⟩ : ∃ x, x = l[i] := ⟨_, rfl⟩
          rw [← hx] at h0 h1 h2 h3 hcc hrr
          have HX := Aside0.mk hx
          clear hx
          obtain ⟨what, hd, sg, sgs⟩ := x
          simp only at h0 h1 h2 h3 hcc hrr
          have HRR := Aside0.mk hrr
          clear hrr
          have HP := Aside0.mk HS.out.pl
          have HB := Aside0.mk HS.out.bound
          have HTA := Aside0.mk (tot_at hlt)
          have HTT := Aside0.mk (tot_take hlt)
          rw [← HX.out] at HTA HTT
          clear HS
          have hB9 : i + tot (l.take i) ≤ 9000 := by have := HTA.out; have := HTOT.out; omega
          have hX9 : sgs.length ≤ 9000 := by have h1 := HTA.out; have h2 := HTOT.out; dsimp only at h1; omega
          have HB5 := Aside0.mk (fun x hx => Nat.le_trans (HB.out x hx) (by omega : i + tot (l.take i) ≤ 50000))
          go_upto_region 10 with fail
          obtain ⟨hA, hX⟩ := HP.out.box what hd sg (.slice A3 sgs.length c3)
          generalize wr.alloc (Obj.cells #[Value.int IntKind.i64 what, Value.int IntKind.i64 hd, Value.int IntKind.i64 sg, Value.slice A3 sgs.length c3] 31) = W1 at hA hX ⊢
          generalize wr.heap.size = b at hA hX ⊢
          have HA := Aside0.mk hA
          have HBX := Aside0.mk hX
          have c0 := hX.c0
          have c1' := hX.c1
          have c2' := hX.c2
          have c3' := hX.c3
          have HOK := Aside0.mk hA.hok
          clear hA hX h0 h1 h2 h3 HP
          go_upto_block 2 with fail
          go_cut [10, 11] (fun v10 v11 wc => ∃ (bb : Bool) (hl2 : HL) (next2 : Int), v10 = .bool bb ∧ v11 = .bool bb ∧ 1 ≤ next2 ∧ next2 ≤ i + 1 + 1 ∧ hl2.length ≤ i + 1 ∧ Aside0 (MidSt w wc t g b what hd sg (.slice A3 sgs.length c3) most next2 hl2 (i + 1 + tot (l.take (i + 1)))))
          case first =>
            cases hw2b : (what == 2) with
            | true =>
              have HC := Aside0.mk (pl_pin HA.out HB5.out (by omega) hd sg)
              have HPB := Aside0.mk (fun x (hx : x ∈ pinL hl hd sg) => (by have h1 := pin_bound HB.out hd sg x hx; have h2 := HTT.out; omega : x.2.length ≤ i + 1 + tot (l.take (i + 1))))
              have HPL := Aside0.mk (show (pinL hl hd sg).length = hl.length by unfold pinL; rw [List.length_map])
              go_wp2_with (first
                | (go_at_call 13; refine HC.out.mono ?_; clear HC; rintro e w4 ⟨rfl, hA4, hK4⟩; have HBX4 := Aside0.mk (HBX.out.keep hK4); have q1 := HBX4.out.c1; have q2 := HBX4.out.c2; have HD := Aside0.mk (pl_rpin hA4 HOK.out HB5.out (by omega) hd sg); clear hA4 hK4)
                | (go_at_call 14; refine HD.out.mono ?_; clear HD; rintro e w5 ⟨rfl, hA5, hK5⟩; have HA5 := Aside0.mk hA5; have HBX5 := Aside0.mk (HBX4.out.keep hK5); clear hA5 hK5))
              go_meet
              case rel => exact ⟨_, pinL hl hd sg, next, rfl, rfl, hn2, by omega, (by rw [HPL.out]; omega), ⟨⟨HA5.out, HPB.out, HBX5.out⟩⟩⟩
            | false =>
              cases hw3b : (what == 3) with
              | true =>
                have HC := Aside0.mk (pl_close HA.out HB5.out (by omega) hd)
                have HPB := Aside0.mk (fun x (hx : x ∈ delL hl hd) => (by have h1 := del_bound HB.out hd x hx; have h2 := HTT.out; omega : x.2.length ≤ i + 1 + tot (l.take (i + 1))))
                have HPL := Aside0.mk (show (delL hl hd).length ≤ hl.length from List.length_filter_le _ _)
                go_wp2_with (first
                  | (go_at_call 15; refine HC.out.mono ?_; clear HC; rintro e w4 ⟨rfl, hA4, hK4⟩; have HBX4 := Aside0.mk (HBX.out.keep hK4); have q1 := HBX4.out.c1; have HD := Aside0.mk (pl_rclose hA4 HOK.out (by omega) hd); clear hA4 hK4)
                  | (go_at_call 16; refine HD.out.mono ?_; clear HD; rintro e w5 ⟨rfl, hA5, hK5⟩; have HA5 := Aside0.mk hA5; have HBX5 := Aside0.mk (HBX4.out.keep hK5); clear hA5 hK5))
                go_meet
                case rel => exact ⟨_, delL hl hd, next, rfl, rfl, hn2, by omega, (by have := HPL.out; omega), ⟨⟨HA5.out, HPB.out, HBX5.out⟩⟩⟩
              | false =>
                by_cases hfl : hl.length < most
                · have HC := Aside0.mk (pl_open (c := c3) HA.out hfl HB5.out (by omega) hn2 (by omega) HRR.out (by omega))
                  have HOB := Aside0.mk (fun x (hx : x ∈ hl ++ [(next, insAll [] sgs)]) => (by have h1 := open_bound HB.out next sgs x hx; have h2 := HTT.out; dsimp only at h2; omega : x.2.length ≤ i + 1 + tot (l.take (i + 1))))
                  have hnn : (next == next) = true := beq_self_eq_true next
                  have HFL := Aside0.mk hfl
                  clear hfl
                  go_wp2_with (first
                    | (go_at_call 17; refine HC.out.mono ?_; clear HC; rintro e w4 ⟨rfl, hA4, hK4⟩; have HBX4 := Aside0.mk (HBX.out.keep hK4); have q3 := HBX4.out.c3; have HD := Aside0.mk (pl_ropen (c := c3) hA4 HFL.out (by omega) hn2 (by omega) HRR.out (by omega)); clear hA4 hK4)
                    | (go_at_call 18; refine HD.out.mono ?_; clear HD; rintro e w5 ⟨rfl, hA5, hK5⟩; have HA5 := Aside0.mk hA5; have HBX5 := Aside0.mk (HBX4.out.keep hK5); clear hA5 hK5))
                  go_meet
                  case rel => exact ⟨true, _, next + 1, rfl, rfl, by omega, by omega, (by simp; omega), ⟨⟨HA5.out, HOB.out, HBX5.out⟩⟩⟩
                · have HFL := Aside0.mk (show most ≤ hl.length by omega)
                  have HC := Aside0.mk (pl_full HA.out HFL.out (.slice A3 sgs.length c3))
                  clear hfl
                  go_wp2_with (first
                    | (go_at_call 17; refine HC.out.mono ?_; clear HC; rintro e w4 ⟨rfl, hA4, hK4⟩; have HBX4 := Aside0.mk (HBX.out.keep hK4); have q3 := HBX4.out.c3; have HD := Aside0.mk (pl_rfull hA4 HFL.out (by omega) (.slice A3 sgs.length c3)); clear hA4 hK4)
                    | (go_at_call 18; refine HD.out.mono ?_; clear HD; rintro e w5 ⟨rfl, hA5, hK5⟩; have HA5 := Aside0.mk hA5; have HBX5 := Aside0.mk (HBX4.out.keep hK5); clear hA5 hK5))
                  go_meet
                  case rel => exact ⟨true, hl, next, rfl, rfl, hn2, by omega, by omega, ⟨⟨HA5.out, fun x hx => (by have h1 := HB.out x hx; have h2 := HTT.out; omega), HBX5.out⟩⟩⟩
          case rest =>
            obtain ⟨bb, hl2, next2, rfl, rfl, g1, g2, g3, HS⟩ := hcut
            clear HA HBX HB HB5 c0 c1' c2' c3' hn2 hn3 hhl HOK
            have HBD := Aside0.mk (fun x hx => Nat.le_trans (HS.out.bound x hx) (by have h2 := HTT.out; have h3 := HTA.out; have h4 := HTOT.out; omega : i + 1 + tot (l.take (i + 1)) ≤ 50000))
            obtain ⟨b1, hb1⟩ : ∃ b1, (getL hl2 hd).isSome = b1 := ⟨_, rfl⟩
            have H1 := Aside0.mk hb1
            obtain ⟨b2, hb2⟩ : ∃ b2, decide (0 < cnt hl2 sg) = b2 := ⟨_, rfl⟩
            have H2 := Aside0.mk hb2
            obtain ⟨q, hq⟩ : ∃ q, (getL hl2 hd).getD [] = q := ⟨_, rfl⟩
            have HQQ := Aside0.mk hq
            have HQL := Aside0.mk (show q.length ≤ 1000000 by
              rw [← hq]
              cases hg : getL hl2 hd with
              | none => simp
              | some q2 => have := HBD.out _ (getL_mem hg); simp only [Option.getD_some]; dsimp only at this; omega)
            clear hb1 hb2 hq
            go_upto_region 22 with fail
            apply wp_region_grow (hm := by kernel_rfl) (hB := by kernel_rfl)
            case h =>
              apply grow_fixed
              case hw => simp [Region.wanted, yielded]
              case ho =>
                intro w' hb hf
                clear hf
                refine ⟨?_⟩
                go_simp
                exact ⟨Ext.refl _ _, rfl⟩
              simp only [Act.put, List.setIfInBounds_toArray, List.set_cons_zero, List.set_cons_succ]
              apply grow_fixed
              case hw => simp [Region.wanted, yielded]
              case ho =>
                intro w' hb hf
                clear hf
                refine ⟨?_⟩
                go_simp
                exact ⟨Ext.refl _ _, rfl⟩
              simp only [Act.put, List.setIfInBounds_toArray, List.set_cons_zero, List.set_cons_succ]
              apply grow_fixed (c := .bool false)
              case hw => simp [Region.wanted, yielded]
              case ho =>
                intro w' hb hf
                clear hf
                refine ⟨?_⟩
                go_simp
                exact ⟨Ext.refl _ _, by simp⟩
              simp only [Act.put, List.setIfInBounds_toArray, List.set_cons_zero, List.set_cons_succ]
              apply grow_fixed
              case hw => simp [Region.wanted, yielded]
              case ho =>
                intro w' hb hf
                clear hf
                refine ⟨?_⟩
                go_simp
                exact ⟨Ext.refl _ _, rfl⟩
              simp only [Act.put, List.setIfInBounds_toArray, List.set_cons_zero, List.set_cons_succ]
              apply grow_fixed
              case hw => simp [Region.wanted, yielded]
              case ho =>
                intro w' hb hf
                clear hf
                refine ⟨?_⟩
                go_simp
                exact ⟨Ext.refl _ _, rfl⟩
              simp only [Act.put, List.setIfInBounds_toArray, List.set_cons_zero, List.set_cons_succ]
              apply grow_fixed
              case hw => simp [Region.wanted, yielded]
              case ho =>
                intro w' hb hf
                clear hf
                refine ⟨?_⟩
                go_simp
                exact (pl_many (HS.out.pl.grows hb)).mono fun e w2 h => ⟨_, h.1, by rw [h.2]; exact Ext.refl _ _, by first | rfl | rw [rfl]⟩
              simp only [Act.put, List.setIfInBounds_toArray, List.set_cons_zero, List.set_cons_succ]
              apply grow_fixed
              case hw => simp [Region.wanted, yielded]
              case ho =>
                intro w' hb hf
                clear hf
                refine ⟨?_⟩
                go_simp
                exact ⟨Ext.refl _ _, rfl⟩
              simp only [Act.put, List.setIfInBounds_toArray, List.set_cons_zero, List.set_cons_succ]
              apply grow_fixed
              case hw => simp [Region.wanted, yielded]
              case ho =>
                intro w' hb hf
                clear hf
                refine ⟨?_⟩
                go_simp
                exact (pl_rmany (HS.out.pl.grows hb)).mono fun e w2 h => ⟨_, h.1, by rw [h.2]; exact Ext.refl _ _, by first | rfl | rw [rfl]⟩
              simp only [Act.put, List.setIfInBounds_toArray, List.set_cons_zero, List.set_cons_succ]
              apply grow_fixed (c := .bool false)
              case hw => simp [Region.wanted, yielded]
              case ho =>
                intro w' hb hf
                clear hf
                refine ⟨?_⟩
                go_simp
                exact ⟨Ext.refl _ _, by simp⟩
              simp only [Act.put, List.setIfInBounds_toArray, List.set_cons_zero, List.set_cons_succ]
              apply grow_fixed (c := .bool false)
              case hw => simp [Region.wanted, yielded]
              case ho =>
                intro w' hb hf
                clear hf
                refine ⟨?_⟩
                go_simp
                exact ⟨Ext.refl _ _, rfl⟩
              simp only [Act.put, List.setIfInBounds_toArray, List.set_cons_zero, List.set_cons_succ]
              apply grow_fixed (c := .bool false)
              case hw => simp [Region.wanted, yielded]
              case ho =>
                intro w' hb hf
                clear hf
                refine ⟨?_⟩
                go_simp
                exact ⟨Ext.refl _ _, rfl⟩
              simp only [Act.put, List.setIfInBounds_toArray, List.set_cons_zero, List.set_cons_succ]
              apply grow_fixed
              case hw => simp [Region.wanted, yielded]
              case ho =>
                intro w' hb hf
                clear hf
                refine ⟨?_⟩
                go_simp
                exact ⟨Ext.refl _ _, rfl⟩
              simp only [Act.put, List.setIfInBounds_toArray, List.set_cons_zero, List.set_cons_succ]
              apply grow_fixed
              case hw => simp [Region.wanted, yielded]
              case ho =>
                intro w' hb hf
                clear hf
                refine ⟨?_⟩
                go_simp
                exact ⟨Ext.refl _ _, rfl⟩
              simp only [Act.put, List.setIfInBounds_toArray, List.set_cons_zero, List.set_cons_succ]
              apply grow_fixed
              case hw => simp [Region.wanted, yielded]
              case ho =>
                intro w' hb hf
                clear hf
                have q1 := (HS.out.box.keep (KeepS.of_grows hb)).c1
                refine ⟨?_⟩
                go_simp
                exact ⟨Ext.refl _ _, rfl⟩
              simp only [Act.put, List.setIfInBounds_toArray, List.set_cons_zero, List.set_cons_succ]
              apply grow_fixed (c := .bool b1)
              case hw => simp [Region.wanted, yielded]
              case ho =>
                intro w' hb hf
                clear hf
                refine ⟨?_⟩
                go_simp
                exact (pl_is (HS.out.pl.grows hb) hd).mono fun e w2 h => ⟨_, h.1, by rw [h.2]; exact Ext.refl _ _, by first | rfl | rw [H1.out]⟩
              simp only [Act.put, List.setIfInBounds_toArray, List.set_cons_zero, List.set_cons_succ]
              apply grow_fixed
              case hw => simp [Region.wanted, yielded]
              case ho =>
                intro w' hb hf
                clear hf
                refine ⟨?_⟩
                go_simp
                exact ⟨Ext.refl _ _, rfl⟩
              simp only [Act.put, List.setIfInBounds_toArray, List.set_cons_zero, List.set_cons_succ]
              apply grow_fixed
              case hw => simp [Region.wanted, yielded]
              case ho =>
                intro w' hb hf
                clear hf
                refine ⟨?_⟩
                go_simp
                exact ⟨Ext.refl _ _, rfl⟩
              simp only [Act.put, List.setIfInBounds_toArray, List.set_cons_zero, List.set_cons_succ]
              apply grow_fixed
              case hw => simp [Region.wanted, yielded]
              case ho =>
                intro w' hb hf
                clear hf
                have q1 := (HS.out.box.keep (KeepS.of_grows hb)).c1
                refine ⟨?_⟩
                go_simp
                exact ⟨Ext.refl _ _, rfl⟩
              simp only [Act.put, List.setIfInBounds_toArray, List.set_cons_zero, List.set_cons_succ]
              apply grow_fixed (c := .bool b1)
              case hw => simp [Region.wanted, yielded]
              case ho =>
                intro w' hb hf
                clear hf
                refine ⟨?_⟩
                go_simp
                exact (pl_ris (HS.out.pl.grows hb) (by omega) hd).mono fun e w2 h => ⟨_, h.1, by rw [h.2]; exact Ext.refl _ _, by first | rfl | rw [H1.out]⟩
              simp only [Act.put, List.setIfInBounds_toArray, List.set_cons_zero, List.set_cons_succ]
              apply grow_fixed (c := .bool false)
              case hw => simp [Region.wanted, yielded]
              case ho =>
                intro w' hb hf
                clear hf
                refine ⟨?_⟩
                go_simp
                exact ⟨Ext.refl _ _, by simp⟩
              simp only [Act.put, List.setIfInBounds_toArray, List.set_cons_zero, List.set_cons_succ]
              apply grow_fixed (c := .bool false)
              case hw => simp [Region.wanted, yielded]
              case ho =>
                intro w' hb hf
                clear hf
                refine ⟨?_⟩
                go_simp
                exact ⟨Ext.refl _ _, rfl⟩
              simp only [Act.put, List.setIfInBounds_toArray, List.set_cons_zero, List.set_cons_succ]
              apply grow_fixed (c := .bool false)
              case hw => simp [Region.wanted, yielded]
              case ho =>
                intro w' hb hf
                clear hf
                refine ⟨?_⟩
                go_simp
                exact ⟨Ext.refl _ _, rfl⟩
              simp only [Act.put, List.setIfInBounds_toArray, List.set_cons_zero, List.set_cons_succ]
              apply grow_fixed
              case hw => simp [Region.wanted, yielded]
              case ho =>
                intro w' hb hf
                clear hf
                refine ⟨?_⟩
                go_simp
                exact ⟨Ext.refl _ _, rfl⟩
              simp only [Act.put, List.setIfInBounds_toArray, List.set_cons_zero, List.set_cons_succ]
              apply grow_fixed
              case hw => simp [Region.wanted, yielded]
              case ho =>
                intro w' hb hf
                clear hf
                refine ⟨?_⟩
                go_simp
                exact ⟨Ext.refl _ _, rfl⟩
              simp only [Act.put, List.setIfInBounds_toArray, List.set_cons_zero, List.set_cons_succ]
              apply grow_fixed
              case hw => simp [Region.wanted, yielded]
              case ho =>
                intro w' hb hf
                clear hf
                have q1 := (HS.out.box.keep (KeepS.of_grows hb)).c1
                refine ⟨?_⟩
                go_simp
                exact ⟨Ext.refl _ _, rfl⟩
              simp only [Act.put, List.setIfInBounds_toArray, List.set_cons_zero, List.set_cons_succ]
              apply grow_free (G := Told q)
              case hw => simp [Region.wanted, yielded]
              case hm => exact Told.mono _
              case ho =>
                intro w' hb hf
                clear hf
                refine ⟨?_⟩
                go_simp
                refine (pl_of (HS.out.pl.grows hb) hd HBD.out).mono ?_
                rintro e w2 ⟨v', rfl, hg, ht⟩
                exact ⟨_, rfl, Ext.of_below hb.size hg, by rw [HQQ.out] at ht; exact ht⟩
              intro v122
              simp only [Act.put, List.setIfInBounds_toArray, List.set_cons_zero, List.set_cons_succ]
              apply grow_fixed
              case hw => simp [Region.wanted, yielded]
              case ho =>
                intro w' hb hf
                clear hf
                refine ⟨?_⟩
                go_simp
                exact ⟨Ext.refl _ _, rfl⟩
              simp only [Act.put, List.setIfInBounds_toArray, List.set_cons_zero, List.set_cons_succ]
              apply grow_fixed
              case hw => simp [Region.wanted, yielded]
              case ho =>
                intro w' hb hf
                clear hf
                refine ⟨?_⟩
                go_simp
                exact ⟨Ext.refl _ _, rfl⟩
              simp only [Act.put, List.setIfInBounds_toArray, List.set_cons_zero, List.set_cons_succ]
              apply grow_fixed
              case hw => simp [Region.wanted, yielded]
              case ho =>
                intro w' hb hf
                clear hf
                have q1 := (HS.out.box.keep (KeepS.of_grows hb)).c1
                refine ⟨?_⟩
                go_simp
                exact ⟨Ext.refl _ _, rfl⟩
              simp only [Act.put, List.setIfInBounds_toArray, List.set_cons_zero, List.set_cons_succ]
              apply grow_free (G := Told q)
              case hw => simp [Region.wanted, yielded]
              case hm => exact Told.mono _
              case ho =>
                intro w' hb hf
                clear hf
                refine ⟨?_⟩
                go_simp
                refine (pl_rof (HS.out.pl.grows hb) HS.out.pl.hok hd HBD.out (by omega)).mono ?_
                rintro e w2 ⟨v', rfl, hg, ht⟩
                exact ⟨_, rfl, Ext.of_below hb.size hg, by rw [HQQ.out] at ht; exact ht⟩
              intro v126
              simp only [Act.put, List.setIfInBounds_toArray, List.set_cons_zero, List.set_cons_succ]
              apply grow_fixed (c := .bool true)
              case hw => simp [Region.wanted, yielded]
              case ho =>
                intro w' hb hf
                obtain ⟨A1, k1, e1, hk1, hr1⟩ : Told q v122 w' := hf _ (List.Mem.tail _ (List.Mem.head _)) (by kernel_rfl)
                obtain ⟨A2, k2, e2, hk2, hr2⟩ : Told q v126 w' := hf _ (List.Mem.head _) (by kernel_rfl)
                clear hf
                subst e1 e2
                have HSM := Aside0.mk (same_calls hr1 hr2 hk1 hk2 HQL.out)
                clear hr1 hr2 hk1 hk2
                refine ⟨?_⟩
                go_simp
                refine HSM.out.mono fun e w2 h => ?_
                obtain ⟨rfl, z, rfl⟩ := h
                exact ⟨_, rfl, Ext.of_below hb.size ⟨rfl, rfl, rfl, Nat.le_refl _, fun _ _ => rfl⟩, by simp⟩
              simp only [Act.put, List.setIfInBounds_toArray, List.set_cons_zero, List.set_cons_succ]
              apply grow_fixed (c := .bool false)
              case hw => simp [Region.wanted, yielded]
              case ho =>
                intro w' hb hf
                clear hf
                refine ⟨?_⟩
                go_simp
                exact ⟨Ext.refl _ _, rfl⟩
              simp only [Act.put, List.setIfInBounds_toArray, List.set_cons_zero, List.set_cons_succ]
              apply grow_fixed (c := .bool false)
              case hw => simp [Region.wanted, yielded]
              case ho =>
                intro w' hb hf
                clear hf
                refine ⟨?_⟩
                go_simp
                exact ⟨Ext.refl _ _, rfl⟩
              simp only [Act.put, List.setIfInBounds_toArray, List.set_cons_zero, List.set_cons_succ]
              apply grow_fixed (c := .bool false)
              case hw => simp [Region.wanted, yielded]
              case ho =>
                intro w' hb hf
                clear hf
                refine ⟨?_⟩
                go_simp
                exact ⟨Ext.refl _ _, rfl⟩
              simp only [Act.put, List.setIfInBounds_toArray, List.set_cons_zero, List.set_cons_succ]
              apply grow_fixed
              case hw => simp [Region.wanted, yielded]
              case ho =>
                intro w' hb hf
                clear hf
                refine ⟨?_⟩
                go_simp
                exact ⟨Ext.refl _ _, rfl⟩
              simp only [Act.put, List.setIfInBounds_toArray, List.set_cons_zero, List.set_cons_succ]
              apply grow_fixed
              case hw => simp [Region.wanted, yielded]
              case ho =>
                intro w' hb hf
                clear hf
                refine ⟨?_⟩
                go_simp
                exact ⟨Ext.refl _ _, rfl⟩
              simp only [Act.put, List.setIfInBounds_toArray, List.set_cons_zero, List.set_cons_succ]
              apply grow_fixed
              case hw => simp [Region.wanted, yielded]
              case ho =>
                intro w' hb hf
                clear hf
                have q2 := (HS.out.box.keep (KeepS.of_grows hb)).c2
                refine ⟨?_⟩
                go_simp
                exact ⟨Ext.refl _ _, rfl⟩
              simp only [Act.put, List.setIfInBounds_toArray, List.set_cons_zero, List.set_cons_succ]
              apply grow_fixed (c := .bool b2)
              case hw => simp [Region.wanted, yielded]
              case ho =>
                intro w' hb hf
                clear hf
                refine ⟨?_⟩
                go_simp
                exact (pl_pinned (HS.out.pl.grows hb) sg).mono fun e w2 h => ⟨_, h.1, by rw [h.2]; exact Ext.refl _ _, by first | rfl | rw [H2.out]⟩
              simp only [Act.put, List.setIfInBounds_toArray, List.set_cons_zero, List.set_cons_succ]
              apply grow_fixed
              case hw => simp [Region.wanted, yielded]
              case ho =>
                intro w' hb hf
                clear hf
                refine ⟨?_⟩
                go_simp
                exact ⟨Ext.refl _ _, rfl⟩
              simp only [Act.put, List.setIfInBounds_toArray, List.set_cons_zero, List.set_cons_succ]
              apply grow_fixed
              case hw => simp [Region.wanted, yielded]
              case ho =>
                intro w' hb hf
                clear hf
                refine ⟨?_⟩
                go_simp
                exact ⟨Ext.refl _ _, rfl⟩
              simp only [Act.put, List.setIfInBounds_toArray, List.set_cons_zero, List.set_cons_succ]
              apply grow_fixed
              case hw => simp [Region.wanted, yielded]
              case ho =>
                intro w' hb hf
                clear hf
                have q2 := (HS.out.box.keep (KeepS.of_grows hb)).c2
                refine ⟨?_⟩
                go_simp
                exact ⟨Ext.refl _ _, rfl⟩
              simp only [Act.put, List.setIfInBounds_toArray, List.set_cons_zero, List.set_cons_succ]
              apply grow_fixed (c := .bool b2)
              case hw => simp [Region.wanted, yielded]
              case ho =>
                intro w' hb hf
                clear hf
                refine ⟨?_⟩
                go_simp
                exact (pl_rpinned (HS.out.pl.grows hb) HBD.out (by omega) sg).mono fun e w2 h => ⟨_, h.1, by rw [h.2]; exact Ext.refl _ _, by first | rfl | rw [H2.out]⟩
              simp only [Act.put, List.setIfInBounds_toArray, List.set_cons_zero, List.set_cons_succ]
              apply grow_fixed (c := .bool false)
              case hw => simp [Region.wanted, yielded]
              case ho =>
                intro w' hb hf
                clear hf
                refine ⟨?_⟩
                go_simp
                exact ⟨Ext.refl _ _, by simp⟩
              simp only [Act.put, List.setIfInBounds_toArray, List.set_cons_zero, List.set_cons_succ]
              apply grow_fixed (c := .bool false)
              case hw => simp [Region.wanted, yielded]
              case ho =>
                intro w' hb hf
                clear hf
                refine ⟨?_⟩
                go_simp
                exact ⟨Ext.refl _ _, rfl⟩
              simp only [Act.put, List.setIfInBounds_toArray, List.set_cons_zero, List.set_cons_succ]
              refine grow_nil fun w' hb hf => ?_
              have HP6 := Aside0.mk (HS.out.pl.grows hb)
              clear hf
              go_wp2
              go_roundg (l.length - (i + 1))
              case measure => have := HF.out; omega
              case rel => exact ⟨i + 1, hl2, next2, ⟨by omega⟩, by omega, by go_num, g1, by omega, g3, ⟨⟨HP6.out.less (fun k h => h.elim), HS.out.bound⟩⟩⟩
            case hsp => exact ⟨Told.mono _, Told.mono _, trivial⟩
        · go_wp2
          go_ret
          exact ⟨rfl, HS.out.pl.below⟩
  · have HMO := Aside0.mk hmo
    clear hmo
    go_wp2_with (first
      | (go_at_call 10; refine (new_none _ most HMO.out).mono ?_; rintro e w2 ⟨rfl, rfl⟩)
      | (go_at_call 11; refine (rnew_none _ most HMO.out).mono ?_; rintro e w3 ⟨rfl, rfl⟩))
    go_ret
    exact ⟨rfl, HB.out⟩
end Go.Proofs.Ytdfjacpfmjgfiaa
