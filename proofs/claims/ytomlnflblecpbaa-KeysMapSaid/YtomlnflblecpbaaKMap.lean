/-
  The law KeysMap.
-/
import Derived.Test.YtomlnflblecpbaaTwice
import Derived.Deep.CutBlock
import Derived.Deep.DeepCutAuto
namespace Go.Proofs.Ytomlnflblecpbaa
set_option linter.unusedVariables false
set_option linter.unusedSimpArgs false
open Go.RowKit Go.Proofs.YtomlnflblecpbaaW.PrintWords Go.Proofs.YtomlnflblecpbaaW.PrintMore PKeysPlays
attribute [local go_sem] max2_int min2_int
attribute [local go_sem high] eql32 neq32 guard32
def wantOf (m : List Pl) (key : ByteArray) : Pl := (getM m key).getD zeroPl
theorem ans_of {m : List Pl} {k : ByteArray} {p : Pl} {b : Bool} (h1 : wantOf m k = p) (h2 : (getM m k).isSome = b) : ans m k = .tuple #[.agg #[.int .i64 p.seg, .int .i64 p.kind, .string p.key, .int .i64 p.at_, .int .i64 p.size], .bool b] := by subst h1 h2; rfl
structure MapSt (w W : World) (d q : Nat) (m : List Pl) (want : Pl) : Prop where
  ex : ∃ M, P2 (dirB d m) noB M w W ∧ BoxM M W q want
theorem MapSt.below {w W : World} {d q : Nat} {m : List Pl} {want : Pl} (h : MapSt w W d q m want) : Below w.heap.size w W := h.ex.elim fun M h => h.1.below
set_option maxRecDepth 100000 in
set_option maxHeartbeats 8000000 in
theorem map_calls (w : World) {A1 : Option Addr} {c1 : Nat} (l : List S34) (key : ByteArray) (hr : Kd.C k34 w A1 l.length l) (hc1 : l.length ≤ c1) (hl : l.length ≤ 4611686018427387904) :
    Calls Try.prog 4 #[.slice A1 l.length c1, .string key] w fun e w' => e = .returned (.bool true) ∧ Below w.heap.size w w' := by
  obtain ⟨kg, rg, hgr, hgf⟩ := great_tells l hl
  have HR := Aside0.mk hr
  have HGR := Aside0.mk hgr
  have HGF := Aside0.mk hgf
  clear hr hgr hgf
  go_enter Try.func4, Try.ntmps4
  go_upto_region 3 with (first
    | (go_at_call 9; refine (head_calls _).mono ?_; rintro e w1 ⟨rfl, hb⟩; have HB := Aside0.mk hb; clear hb)
    | (go_at_call 10; refine (p_new (p_start HB.out)).mono ?_; rintro e w2 ⟨d, rfl, hP⟩; have HP := Aside0.mk hP; clear hP HB))
  cases rg with
  | true =>
    go_wp2_with (go_at_call 12; refine (souterrainlaw13_great.calls kg A1 c1 l true _ (Kd.C_below HR.out HP.out.below) hc1 HGR.out).mono ?_; rintro e w3 ⟨rfl, hb2⟩; have HP2 := Aside0.mk (HP.out.grows hb2); clear hb2)
    go_ret
    exact ⟨rfl, HP2.out.below⟩
  | false =>
    have HKS := Aside0.mk (HGF.out rfl).1
    have hl3 := (HGF.out rfl).2
    clear HGF
    by_cases hk : 900 < (key.size : Int)
    · have hkd : decide (900 < (key.size : Int)) = true := decide_eq_true hk
      clear hk
      go_wp2_with (go_at_call 12; refine (souterrainlaw13_great.calls kg A1 c1 l false _ (Kd.C_below HR.out HP.out.below) hc1 HGR.out).mono ?_; rintro e w3 ⟨rfl, hb2⟩; have HP2 := Aside0.mk (HP.out.grows hb2); clear hb2)
      go_ret
      exact ⟨rfl, HP2.out.below⟩
    · have hkd : decide (900 < (key.size : Int)) = false := decide_eq_false hk
      have hks : key.size ≤ 900 := by omega
      clear hk
      go_upto_region 6 with (go_at_call 12; refine (souterrainlaw13_great.calls kg A1 c1 l false _ (Kd.C_below HR.out HP.out.below) hc1 HGR.out).mono ?_; rintro e w3 ⟨rfl, hb2⟩; have HP2 := Aside0.mk (HP.out.grows hb2); clear hb2 HP)
      change Code.wp _ _ _ _ (w3.alloc (.cells zeroPl.cells 32))
      obtain ⟨M0, hP, hB, hM⟩ := HP2.out.boxed zeroPl
      have HS := Aside0.mk (show MapSt w (w3.alloc (.cells zeroPl.cells 32)) d w3.heap.size [] (wantOf [] key) from ⟨M0, hP, hB⟩)
      clear hP hB hM HP2
      generalize w3.alloc (.cells zeroPl.cells 32) = w4 at *
      generalize w3.heap.size = q7 at *
      go_wp2
      go_loopg [8, 9] l.length (fun f v8 v9 wr => ∃ (i : Nat) (m : List Pl) (b : Bool), Aside0 (f + i = l.length) ∧ i ≤ l.length ∧ v9 = .int .i64 i ∧ v8 = .bool b ∧ m.length ≤ i ∧ Aside0 ((getM m key).isSome = b) ∧ Aside0 (MapSt w wr d q7 m (wantOf m key)))
      case atStart => exact ⟨0, [], false, ⟨by omega⟩, by omega, rfl, rfl, by simp, ⟨rfl⟩, HS⟩
      case round =>
        clear HS
        obtain ⟨i, m, b, HF, hi, rfl, rfl, hml, HBB, HS⟩ := hrel
        by_cases hlt : i < l.length
        · obtain ⟨ad, rfl, ho⟩ := op_at HR.out HS.out.below hlt
          have HKL := Aside0.mk (HKS.out _ (List.getElem_mem hlt))
          obtain ⟨h0, h1, h2, h3, h4, h5, h6⟩ := ho
          generalize l[i] = x at h0 h1 h2 h3 h4 h5 h6 HKL
          generalize x.f0 = what at *
          generalize x.f2 = on at *
          generalize hpo : opPl x = po at *
          clear hpo
          obtain ⟨ps, pk, py, pa, pz⟩ := po
          dsimp only at h1 h2 h3 h4 h5 HKL
          go_upto_region 11 with fail
          change Code.wp _ _ _ _ (wr.alloc (.cells (opCells what ⟨ps, pk, py, pa, pz⟩ on) 34))
          have g1 : Grows wr (wr.alloc (.cells (opCells what ⟨ps, pk, py, pa, pz⟩ on) 34)) := (Below.refl wr.heap.size wr).alloc (Nat.le_refl _) _
          obtain ⟨M, hP, hB⟩ := HS.out.ex
          obtain ⟨M1, hP1, hO1, hM1⟩ := hP.oped what ⟨ps, pk, py, pa, pz⟩ on
          have HP := Aside0.mk hP1
          have HO := Aside0.mk hO1
          have HB := Aside0.mk (hB.grows g1 hM1)
          clear hP hP1 hO1 hB hM1 HS g1 h0 h1 h2 h3 h4 h5 h6
          generalize wr.alloc (.cells (opCells what ⟨ps, pk, py, pa, pz⟩ on) 34) = w5 at *
          generalize wr.heap.size = q10 at *
          have c3 := HO.out.box.c3
          dsimp only at c3
          obtain ⟨bo, hown⟩ : ∃ bo, (py.toList == key.toList) = bo := ⟨_, rfl⟩
          have HOWN := Aside0.mk hown
          obtain ⟨p1, hp1⟩ : ∃ p1, wantOf m py = p1 := ⟨_, rfl⟩
          obtain ⟨b1, hb1⟩ : ∃ b1, (getM m py).isSome = b1 := ⟨_, rfl⟩
          have HA := Aside0.mk (ans_of hp1 hb1)
          obtain ⟨a1, a2, a3, a4, a5⟩ := p1
          dsimp only at HA
          have HC := Aside0.mk (by have := p_get HP.out py (by have := HKL.out; omega) (by omega); rw [HA.out] at this; exact this)
          have HW1 := Aside0.mk hp1
          have HB1 := Aside0.mk hb1
          clear hp1 hb1
          go_upto_region 13 with (go_at_call 15; refine HC.out.mono ?_; clear HC; rintro e w6 ⟨rfl, hP, hg⟩; have HP6 := Aside0.mk hP; have HO6 := Aside0.mk (HO.out.grows hg fun _ h => h); have HB6 := Aside0.mk (HB.out.grows hg fun _ h => h); clear hP hg HP HO HB)
          change Code.wp _ _ _ _ (w6.alloc (.cells (Pl.cells ⟨a1, a2, a3, a4, a5⟩) 32))
          have g6 : Grows w6 (w6.alloc (.cells (Pl.cells ⟨a1, a2, a3, a4, a5⟩) 32)) := (Below.refl w6.heap.size w6).alloc (Nat.le_refl _) _
          obtain ⟨M2, hP, hX, hM⟩ := HP6.out.boxed ⟨a1, a2, a3, a4, a5⟩
          have HP := Aside0.mk hP
          have HX := Aside0.mk hX
          have HO := Aside0.mk (HO6.out.grows g6 hM)
          have HB := Aside0.mk (HB6.out.grows g6 hM)
          have HNE := Aside0.mk (show q7 ≠ w6.heap.size from fun e => by have := lt_heap HB6.out.box.blk; omega)
          clear hP hX hM g6 HP6 HO6 HB6 c3 hown
          generalize w6.alloc (.cells (Pl.cells ⟨a1, a2, a3, a4, a5⟩) 32) = w7 at *
          generalize w6.heap.size = q12 at *
          have c0 := HO.out.box.c0
          have HMP := Aside0.mk (get_put HP.out.sorted (⟨ps, pk, py, pa, pz⟩ : Pl) key)
          have HMD := Aside0.mk (get_del HP.out.sorted py key)
          have HLP := Aside0.mk (put_length_le m (⟨ps, pk, py, pa, pz⟩ : Pl))
          have HLD := Aside0.mk (del_length_le m py)
          go_upto_if 65 with fail
          go_cut [8] (fun v8 wc => ∃ (m2 : List Pl) (b2 : Bool), v8 = .bool b2 ∧ m2.length ≤ i + 1 ∧ Aside0 ((getM m2 key).isSome = b2) ∧ Aside0 (MapSt w wc d q7 m2 (wantOf m2 key)))
          case first =>
            have c3 := HO.out.box.c3
            dsimp only at c3
            cases hw3 : (what == 3) with
            | true =>
              have HD := Aside0.mk (by have := p_del HP.out py (by have := HKL.out; omega) (by omega); rw [HA.out] at this; exact this)
              go_upto_region 15 with (go_at_call 13; refine HD.out.mono ?_; clear HD; rintro e w8 ⟨rfl, hP, hK⟩; have HP8 := Aside0.mk hP; have HX8 := Aside0.mk (HX.out.kept hK); have HO8 := Aside0.mk (HO.out.kept hK); have HB8 := Aside0.mk (HB.out.kept hK); clear hP hK HP HX HO HB)
              change Code.wp _ _ _ _ (w8.alloc (.cells (Pl.cells ⟨a1, a2, a3, a4, a5⟩) 32))
              have g8 : Grows w8 (w8.alloc (.cells (Pl.cells ⟨a1, a2, a3, a4, a5⟩) 32)) := (Below.refl w8.heap.size w8).alloc (Nat.le_refl _) _
              obtain ⟨M3, hP, hY, hM⟩ := HP8.out.boxed ⟨a1, a2, a3, a4, a5⟩
              have HP := Aside0.mk hP
              have HY := Aside0.mk hY
              have HX := Aside0.mk (HX8.out.grows g8 hM)
              have HO := Aside0.mk (HO8.out.grows g8 hM)
              have HB := Aside0.mk (HB8.out.grows g8 hM)
              clear hP hY hM g8 HP8 HX8 HO8 HB8 c3
              generalize w8.alloc (.cells (Pl.cells ⟨a1, a2, a3, a4, a5⟩) 32) = w9 at *
              generalize w8.heap.size = q14 at *
              have c0 := HO.out.box.c0
              have x0 := HX.out.box.c0; have x1 := HX.out.box.c1; have x2 := HX.out.box.c2; have x3 := HX.out.box.c3; have x4 := HX.out.box.c4
              dsimp only at x0 x1 x2 x3 x4
              have y0 := HY.out.box.c0; have y1 := HY.out.box.c1; have y2 := HY.out.box.c2; have y3 := HY.out.box.c3; have y4 := HY.out.box.c4
              dsimp only at y0 y1 y2 y3 y4
              cases bo with
              | true =>
                have HE := Aside0.mk (key_eqb HOWN.out)
                have HGN := Aside0.mk (show getM (delM m py) key = none from by rw [HMD.out, if_pos HE.out])
                have HFIN := Aside0.mk (show MapSt w (World.setCells w9 q7 0 (Pl.vals zeroPl)) d q7 (delM m py) (wantOf (delM m py) key) from ⟨M3, HP.out.set HB.out.mine _, by rw [show wantOf (delM m py) key = zeroPl by unfold wantOf; rw [HGN.out]; rfl]; exact HB.out.set zeroPl⟩)
                have HBL := Aside0.mk (show (getM (delM m py) key).isSome = false by rw [HGN.out]; rfl)
                have b0 := HB.out.box.c0; have b1' := HB.out.box.c1; have b2' := HB.out.box.c2; have b3 := HB.out.box.c3; have b4 := HB.out.box.c4
                have f0 := HB.out.box.fr 0; have f1 := HB.out.box.fr 1; have f2 := HB.out.box.fr 2; have f3 := HB.out.box.fr 3; have f4 := HB.out.box.fr 4
                go_wp2
                go_meet
                case rel => exact ⟨delM m py, false, rfl, by have := HLD.out; omega, HBL, HFIN⟩
              | false =>
                have HE := Aside0.mk (key_neb HOWN.out)
                have HGN := Aside0.mk (show getM (delM m py) key = getM m key from by rw [HMD.out, if_neg HE.out])
                have HFIN := Aside0.mk (show MapSt w w9 d q7 (delM m py) (wantOf (delM m py) key) from ⟨M3, HP.out, by rw [show wantOf (delM m py) key = wantOf m key by unfold wantOf; rw [HGN.out]]; exact HB.out⟩)
                have HBL := Aside0.mk (show (getM (delM m py) key).isSome = b by rw [HGN.out]; exact HBB.out)
                go_wp2
                go_meet
                case rel => exact ⟨delM m py, b, rfl, by have := HLD.out; omega, HBL, HFIN⟩
            | false =>
              cases hl3b : decide (what < 3) with
              | true =>
                have o1 := HO.out.box.c1; have o2 := HO.out.box.c2; have o4 := HO.out.box.c4; have o5 := HO.out.box.c5
                dsimp only at o1 o2 o4 o5
                have HD := Aside0.mk (by have := p_put HP.out (⟨ps, pk, py, pa, pz⟩ : Pl) (by have := HKL.out; show py.size ≤ _; omega) (by omega); rw [HA.out] at this; exact this)
                go_upto_region 22 with (go_at_call 20; refine HD.out.mono ?_; clear HD; rintro e w8 ⟨rfl, hP, hK⟩; have HP8 := Aside0.mk hP; have HX8 := Aside0.mk (HX.out.kept hK); have HO8 := Aside0.mk (HO.out.kept hK); have HB8 := Aside0.mk (HB.out.kept hK); clear hP hK HP HX HO HB)
                change Code.wp _ _ _ _ (w8.alloc (.cells (Pl.cells ⟨a1, a2, a3, a4, a5⟩) 32))
                have g8 : Grows w8 (w8.alloc (.cells (Pl.cells ⟨a1, a2, a3, a4, a5⟩) 32)) := (Below.refl w8.heap.size w8).alloc (Nat.le_refl _) _
                obtain ⟨M3, hP, hY, hM⟩ := HP8.out.boxed ⟨a1, a2, a3, a4, a5⟩
                have HP := Aside0.mk hP
                have HY := Aside0.mk hY
                have HX := Aside0.mk (HX8.out.grows g8 hM)
                have HO := Aside0.mk (HO8.out.grows g8 hM)
                have HB := Aside0.mk (HB8.out.grows g8 hM)
                clear hP hY hM g8 HP8 HX8 HO8 HB8 c3 o1 o2 o4 o5
                generalize w8.alloc (.cells (Pl.cells ⟨a1, a2, a3, a4, a5⟩) 32) = w9 at *
                generalize w8.heap.size = q14 at *
                have c0 := HO.out.box.c0
                have o1 := HO.out.box.c1; have o2 := HO.out.box.c2; have o3 := HO.out.box.c3; have o4 := HO.out.box.c4; have o5 := HO.out.box.c5
                dsimp only at o1 o2 o3 o4 o5
                have x0 := HX.out.box.c0; have x1 := HX.out.box.c1; have x2 := HX.out.box.c2; have x3 := HX.out.box.c3; have x4 := HX.out.box.c4
                dsimp only at x0 x1 x2 x3 x4
                have y0 := HY.out.box.c0; have y1 := HY.out.box.c1; have y2 := HY.out.box.c2; have y3 := HY.out.box.c3; have y4 := HY.out.box.c4
                dsimp only at y0 y1 y2 y3 y4
                cases bo with
                | true =>
                  have HE := Aside0.mk (key_eqb HOWN.out)
                  have HGN := Aside0.mk (show getM (putM m (⟨ps, pk, py, pa, pz⟩ : Pl)) key = some ⟨ps, pk, py, pa, pz⟩ from by rw [HMP.out, if_pos HE.out])
                  have HFIN := Aside0.mk (show MapSt w (World.setCells w9 q7 0 (Pl.vals (⟨ps, pk, py, pa, pz⟩ : Pl))) d q7 (putM m (⟨ps, pk, py, pa, pz⟩ : Pl)) (wantOf (putM m (⟨ps, pk, py, pa, pz⟩ : Pl)) key) from ⟨M3, HP.out.set HB.out.mine _, by rw [show wantOf (putM m (⟨ps, pk, py, pa, pz⟩ : Pl)) key = (⟨ps, pk, py, pa, pz⟩ : Pl) by unfold wantOf; rw [HGN.out]; rfl]; exact HB.out.set (⟨ps, pk, py, pa, pz⟩ : Pl)⟩)
                  have HBL := Aside0.mk (show (getM (putM m (⟨ps, pk, py, pa, pz⟩ : Pl)) key).isSome = true by rw [HGN.out]; rfl)
                  have b0 := HB.out.box.c0; have b1' := HB.out.box.c1; have b2' := HB.out.box.c2; have b3 := HB.out.box.c3; have b4 := HB.out.box.c4
                  have f0 := HB.out.box.fr 0; have f1 := HB.out.box.fr 1; have f2 := HB.out.box.fr 2; have f3 := HB.out.box.fr 3; have f4 := HB.out.box.fr 4
                  go_wp2
                  go_meet
                  case rel => exact ⟨putM m (⟨ps, pk, py, pa, pz⟩ : Pl), true, rfl, by have := HLP.out; omega, HBL, HFIN⟩
                | false =>
                  have HE := Aside0.mk (key_neb HOWN.out)
                  have HGN := Aside0.mk (show getM (putM m (⟨ps, pk, py, pa, pz⟩ : Pl)) key = getM m key from by rw [HMP.out, if_neg HE.out])
                  have HFIN := Aside0.mk (show MapSt w w9 d q7 (putM m (⟨ps, pk, py, pa, pz⟩ : Pl)) (wantOf (putM m (⟨ps, pk, py, pa, pz⟩ : Pl)) key) from ⟨M3, HP.out, by rw [show wantOf (putM m (⟨ps, pk, py, pa, pz⟩ : Pl)) key = wantOf m key by unfold wantOf; rw [HGN.out]]; exact HB.out⟩)
                  have HBL := Aside0.mk (show (getM (putM m (⟨ps, pk, py, pa, pz⟩ : Pl)) key).isSome = b by rw [HGN.out]; exact HBB.out)
                  go_wp2
                  go_meet
                  case rel => exact ⟨putM m (⟨ps, pk, py, pa, pz⟩ : Pl), b, rfl, by have := HLP.out; omega, HBL, HFIN⟩
              | false =>
                have HFIN := Aside0.mk (show MapSt w w7 d q7 m (wantOf m key) from ⟨M2, HP.out, HB.out⟩)
                go_wp2
                go_meet
                case rel => exact ⟨m, b, rfl, by omega, HBB, HFIN⟩
          case rest =>
            obtain ⟨m2, b2, rfl, hm2, HB2, HS⟩ := hcut
            clear HP HX HO HB HNE HMP HMD HLP HLD HA HW1 HB1 HBB c0
            obtain ⟨M3, hP, hB⟩ := HS.out.ex
            have HP := Aside0.mk hP
            have HB := Aside0.mk hB
            clear hP hB HS
            obtain ⟨p2, hp2⟩ : ∃ p2, wantOf m2 key = p2 := ⟨_, rfl⟩
            have HW2 := Aside0.mk hp2
            have HA := Aside0.mk (ans_of hp2 HB2.out)
            rw [hp2] at HB
            clear hp2
            obtain ⟨e1, e2, e3, e4, e5⟩ := p2
            dsimp only at HA
            have HC := Aside0.mk (by have := p_get HP.out key (by omega) (by omega); rw [HA.out] at this; exact this)
            go_upto_region 28 with (go_at_call 15; refine HC.out.mono ?_; clear HC; rintro e w8 ⟨rfl, hP, hg⟩; have HP8 := Aside0.mk hP; have HB8 := Aside0.mk (HB.out.grows hg fun _ h => h); clear hP hg HP HB)
            change Code.wp _ _ _ _ (w8.alloc (.cells (Pl.cells ⟨e1, e2, e3, e4, e5⟩) 32))
            have g8 : Grows w8 (w8.alloc (.cells (Pl.cells ⟨e1, e2, e3, e4, e5⟩) 32)) := (Below.refl w8.heap.size w8).alloc (Nat.le_refl _) _
            have HX := Aside0.mk (PBox.new w8 ⟨e1, e2, e3, e4, e5⟩)
            have HB := Aside0.mk (HB8.out.grows g8 fun _ h => h)
            have HFIN := Aside0.mk (show MapSt w (w8.alloc (.cells (Pl.cells ⟨e1, e2, e3, e4, e5⟩) 32)) d q7 m2 (wantOf m2 key) from ⟨M3, HP8.out.grows g8, by rw [HW2.out]; exact HB.out⟩)
            clear g8 HP8 HB8
            generalize w8.alloc (.cells (Pl.cells ⟨e1, e2, e3, e4, e5⟩) 32) = w9 at *
            generalize w8.heap.size = q18 at *
            have x0 := HX.out.c0; have x1 := HX.out.c1; have x2 := HX.out.c2; have x3 := HX.out.c3; have x4 := HX.out.c4
            dsimp only at x0 x1 x2 x3 x4
            have y0 := HB.out.box.c0; have y1 := HB.out.box.c1; have y2 := HB.out.box.c2; have y3 := HB.out.box.c3; have y4 := HB.out.box.c4
            dsimp only at y0 y1 y2 y3 y4
            go_wp2
            go_roundg (l.length - (i + 1))
            case measure => have := HF.out; omega
            case rel => exact ⟨i + 1, m2, b2, ⟨by omega⟩, by omega, by go_num, rfl, hm2, HB2, HFIN⟩
        · go_wp2
          go_ret
          exact ⟨rfl, HS.out.below⟩
end Go.Proofs.Ytomlnflblecpbaa
