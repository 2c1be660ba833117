/-
  The law KeysPlays.
-/
import Derived.Test.YtomlnflblecpbaaOrder
import Derived.Deep.CutBlock
import Derived.Deep.DeepCutAuto
namespace Go.Proofs.Ytomlnflblecpbaa
set_option linter.unusedVariables false
set_option linter.unusedSimpArgs false
open Go.RowKit Go.Proofs.YtomlnflblecpbaaW.PrintWords Go.Proofs.YtomlnflblecpbaaW.PrintMore PKeysPlays
attribute [local go_sem] max2_int min2_int
attribute [local go_sem high] eql32 neq32 guard32
/-- The state of KeysPlays's law behind a call on each. -/
structure PlSt (w W : World) (d g q8 q9 : Nat) (m : List Pl) (p : Pl) : Prop where
  ex : ∃ M, P2 (dirB d m) (rdB g m) M w W ∧ BoxM M W q8 p ∧ BoxM M W q9 p
theorem PlSt.below {w W : World} {d g q8 q9 : Nat} {m : List Pl} {p : Pl} (h : PlSt w W d g q8 q9 m p) : Below w.heap.size w W := h.ex.elim fun M h => h.1.below
theorem PlSt.grows {w W W' : World} {d g q8 q9 : Nat} {m : List Pl} {p : Pl} (h : PlSt w W d g q8 q9 m p) (hg : Grows W W') : PlSt w W' d g q8 q9 m p := by
  obtain ⟨M, h1, h2, h3⟩ := h.ex
  exact ⟨M, h1.grows hg, h2.grows hg fun _ h => h, h3.grows hg fun _ h => h⟩
theorem PlSt.p {w W : World} {d g q8 q9 : Nat} {m : List Pl} {p : Pl} (h : PlSt w W d g q8 q9 m p) : P2 (dirB d m) (rdB g m) (fun _ => False) w W := h.ex.elim fun M h => h.1.less fun k h => h.elim
theorem PlSt.b8 {w W : World} {d g q8 q9 : Nat} {m : List Pl} {p : Pl} (h : PlSt w W d g q8 q9 m p) : PBox W q8 p := h.ex.elim fun M h => h.2.1.box
theorem PlSt.b9 {w W : World} {d g q8 q9 : Nat} {m : List Pl} {p : Pl} (h : PlSt w W d g q8 q9 m p) : PBox W q9 p := h.ex.elim fun M h => h.2.2.box
theorem BoxM.put {M : Nat → Prop} {W : World} {q q2 : Nat} {p p2 : Pl} (h : BoxM M W q p) (h2 : BoxM M W q2 p2) (hne : q ≠ q2) (p' : Pl) : BoxM M (W.setCells q2 0 p'.vals) q p ∧ BoxM M (W.setCells q2 0 p'.vals) q2 p' := ⟨h.far hne _, h2.set p'⟩
set_option maxRecDepth 100000 in
set_option maxHeartbeats 8000000 in
theorem plays_calls (w : World) {A1 : Option Addr} {c1 : Nat} (l : List S34) (hr : Kd.C k34 w A1 l.length l) (hc1 : l.length ≤ c1) (hl : l.length ≤ 4611686018427387904) :
    Calls Try.prog 3 #[.slice A1 l.length c1] w fun e w' => e = .returned (.bool true) ∧ Below w.heap.size w w' := by
  obtain ⟨kg, rg, hgr, hgf⟩ := great_tells l hl
  have HR := Aside0.mk hr
  have HGR := Aside0.mk hgr
  have HGF := Aside0.mk hgf
  clear hr hgr hgf
  go_enter Try.func3, Try.ntmps3
  go_upto_region 3 with (first
    | (go_at_call 9; refine (head_calls _).mono ?_; rintro e w1 ⟨rfl, hb⟩; have HB := Aside0.mk hb; clear hb)
    | (go_at_call 10; refine (p_new (p_start HB.out)).mono ?_; rintro e w2 ⟨d, rfl, hP⟩; have HP0 := Aside0.mk hP; clear hP HB))
  go_upto_region 4 with (go_at_call 11; refine (r_new HP0.out).mono ?_; rintro e w2' ⟨g, rfl, hP⟩; have HP := Aside0.mk hP; clear hP HP0)
  cases rg with
  | true =>
    go_wp2_with (go_at_call 12; refine (souterrainlaw13_great.calls kg A1 c1 l true _ (Kd.C_below HR.out HP.out.below) hc1 HGR.out).mono ?_; rintro e w3 ⟨rfl, hb2⟩; have HP2 := Aside0.mk (HP.out.grows hb2); clear hb2 HP)
    go_ret
    exact ⟨rfl, HP2.out.below⟩
  | false =>
    have HKS := Aside0.mk (HGF.out rfl).1
    have hl3 := (HGF.out rfl).2
    clear HGF
    go_upto_region 6 with (go_at_call 12; refine (souterrainlaw13_great.calls kg A1 c1 l false _ (Kd.C_below HR.out HP.out.below) hc1 HGR.out).mono ?_; rintro e w3 ⟨rfl, hb2⟩; have HP2 := Aside0.mk (HP.out.grows hb2); clear hb2 HP)
    go_wp2
    go_loopg [6, 7] l.length (fun f v6 v7 wr => ∃ (i : Nat) (m : List Pl), Aside0 (f + i = l.length) ∧ i ≤ l.length ∧ v6 = .int .i64 i ∧ m.length ≤ i ∧ Aside0 (P2 (dirB d m) (rdB g m) (fun _ => False) w wr))
    case atStart => exact ⟨0, [], ⟨by omega⟩, by omega, rfl, by simp, HP2⟩
    case round =>
      clear HP2
      obtain ⟨i, m, HF, hi, rfl, hml, HS⟩ := hrel
      by_cases hlt : i < l.length
      · obtain ⟨ad, rfl, ho⟩ := op_at HR.out HS.out.below hlt
        have HKL := Aside0.mk (HKS.out _ (List.getElem_mem hlt))
        obtain ⟨h0, h1, h2, h3, h4, h5, h6⟩ := ho
        generalize l[i] = x at h0 h1 h2 h3 h4 h5 h6 HKL
        generalize x.f0 = what at *
        generalize x.f2 = on at *
        generalize hpo : opPl x = po at *
        clear hpo
        obtain ⟨ps, pk, py, pa, pz⟩ := po
        dsimp only at h1 h2 h3 h4 h5 HKL
        go_upto_region 10 with fail
        change Code.wp _ _ _ _ (wr.alloc (.cells (opCells what ⟨ps, pk, py, pa, pz⟩ on) 34))
        obtain ⟨M1, hP1, hO1, hM1⟩ := HS.out.oped what ⟨ps, pk, py, pa, pz⟩ on
        have HP1 := Aside0.mk hP1
        have HO1 := Aside0.mk hO1
        clear hP1 hO1 hM1 HS h0 h1 h2 h3 h4 h5 h6
        generalize wr.alloc (.cells (opCells what ⟨ps, pk, py, pa, pz⟩ on) 34) = w5 at *
        generalize wr.heap.size = q7 at *
        go_upto_region 11 with fail
        change Code.wp _ _ _ _ ((w5.alloc (.cells zeroPl.cells 32)).alloc (.cells zeroPl.cells 32))
        have ga : Grows w5 (w5.alloc (.cells zeroPl.cells 32)) := (Below.refl w5.heap.size w5).alloc (Nat.le_refl _) _
        have gb : Grows (w5.alloc (.cells zeroPl.cells 32)) ((w5.alloc (.cells zeroPl.cells 32)).alloc (.cells zeroPl.cells 32)) := (Below.refl _ _).alloc (Nat.le_refl _) _
        obtain ⟨M2, hP2, hB8, hM2⟩ := HP1.out.boxed zeroPl
        obtain ⟨M3, hP3, hB9, hM3⟩ := hP2.boxed zeroPl
        have HP := Aside0.mk hP3
        have HB9 := Aside0.mk hB9
        have HB8 := Aside0.mk (hB8.grows gb hM3)
        have HO := Aside0.mk ((HO1.out.grows ga hM2).grows gb hM3)
        have hE : (w5.alloc (.cells zeroPl.cells 32)).heap.size = w5.heap.size + 1 := Array.size_push _
        rw [hE] at HB9
        clear hP2 hP3 hB8 hB9 hM2 hM3 ga gb HP1 HO1 hE
        generalize (w5.alloc (.cells zeroPl.cells 32)).alloc (.cells zeroPl.cells 32) = w6 at *
        generalize w5.heap.size = q8 at *
        have c0 := HO.out.box.c0
        obtain ⟨p1, hp1⟩ : ∃ p1, wantOf' m py = p1 := ⟨_, rfl⟩
        obtain ⟨b1, hb1⟩ : ∃ b1, (getM m py).isSome = b1 := ⟨_, rfl⟩
        have HA := Aside0.mk (ans_of' hp1 hb1)
        clear hp1 hb1
        obtain ⟨a1, a2, a3, a4, a5⟩ := p1
        dsimp only at HA
        go_upto_block 2 with fail
        go_cut [10, 11] (fun v10 v11 wc => ∃ (m2 : List Pl) (p : Pl) (b : Bool), v10 = .bool b ∧ v11 = .bool b ∧ m2.length ≤ i + 1 ∧ Aside0 (PlSt w wc d g q8 (q8 + 1) m2 p))
        case first =>
          cases hw3 : (what == 3) with
          | true =>
            have HLE := Aside0.mk (del_length_le m py)
            have HD0 := p_del HP.out py (by have := HKL.out; omega) (by omega)
            rw [HA.out] at HD0
            have HD := Aside0.mk HD0
            clear HD0
            have c3 := HO.out.box.c3
            dsimp only at c3
            go_upto_region 22 with (go_at_call 13; refine HD.out.mono ?_; clear HD; rintro e w8 ⟨rfl, hP, hK⟩; have HP8 := Aside0.mk hP; have HO8 := Aside0.mk (HO.out.kept hK); have HC8 := Aside0.mk (HB8.out.kept hK); have HC9 := Aside0.mk (HB9.out.kept hK); clear hP hK HP HO HB8 HB9 c0 c3)
            change Code.wp _ _ _ _ (w8.alloc (.cells (Pl.cells ⟨a1, a2, a3, a4, a5⟩) 32))
            have g8 : Grows w8 (w8.alloc (.cells (Pl.cells ⟨a1, a2, a3, a4, a5⟩) 32)) := (Below.refl w8.heap.size w8).alloc (Nat.le_refl _) _
            obtain ⟨M4, hP, hX, hM⟩ := HP8.out.boxed ⟨a1, a2, a3, a4, a5⟩
            have HP9 := Aside0.mk hP
            have HX9 := Aside0.mk hX
            have HO9 := Aside0.mk (HO8.out.grows g8 hM)
            have HD8 := Aside0.mk (HC8.out.grows g8 hM)
            have HD9 := Aside0.mk (HC9.out.grows g8 hM)
            have HNA := Aside0.mk (show q8 + 1 < w8.heap.size from lt_heap HC9.out.box.blk)
            clear hP hX hM g8 HP8 HO8 HC8 HC9
            generalize w8.alloc (.cells (Pl.cells ⟨a1, a2, a3, a4, a5⟩) 32) = w9 at *
            generalize w8.heap.size = q12 at *
            have HE0 := r_del HP9.out py (by omega)
            rw [HA.out] at HE0
            have HE := Aside0.mk HE0
            clear HE0
            have c3 := HO9.out.box.c3
            dsimp only at c3
            go_upto_region 23 with (go_at_call 14; refine HE.out.mono ?_; clear HE; rintro e w10 ⟨rfl, hP, hK⟩; have HP10 := Aside0.mk hP; have HX10 := Aside0.mk (HX9.out.kept hK); have HC8 := Aside0.mk (HD8.out.kept hK); have HC9 := Aside0.mk (HD9.out.kept hK); clear hP hK HP9 HO9 HD8 HD9 HX9 c3)
            change Code.wp _ _ _ _ (w10.alloc (.cells (Pl.cells ⟨a1, a2, a3, a4, a5⟩) 32))
            have g10 : Grows w10 (w10.alloc (.cells (Pl.cells ⟨a1, a2, a3, a4, a5⟩) 32)) := (Below.refl w10.heap.size w10).alloc (Nat.le_refl _) _
            obtain ⟨M5, hP, hY, hM⟩ := HP10.out.boxed ⟨a1, a2, a3, a4, a5⟩
            have HP11 := Aside0.mk hP
            have HY := Aside0.mk hY
            have HX := Aside0.mk (HX10.out.grows g10 hM)
            have HB8 := Aside0.mk (HC8.out.grows g10 hM)
            have HB9 := Aside0.mk (HC9.out.grows g10 hM)
            have HNB := Aside0.mk (show q8 + 1 < w10.heap.size from lt_heap HC9.out.box.blk)
            clear hP hY hM g10 HP10 HX10 HC8 HC9
            generalize w10.alloc (.cells (Pl.cells ⟨a1, a2, a3, a4, a5⟩) 32) = w11 at *
            generalize w10.heap.size = q14 at *
            have x0 := HX.out.box.c0; have x1 := HX.out.box.c1; have x2 := HX.out.box.c2; have x3 := HX.out.box.c3; have x4 := HX.out.box.c4
            dsimp only at x0 x1 x2 x3 x4
            have z0 := HB8.out.box.c0; have z1 := HB8.out.box.c1; have z2 := HB8.out.box.c2; have z3 := HB8.out.box.c3; have z4 := HB8.out.box.c4
            try dsimp only at z0 z1 z2 z3 z4
            have f0 := HB8.out.box.fr 0; have f1 := HB8.out.box.fr 1; have f2 := HB8.out.box.fr 2; have f3 := HB8.out.box.fr 3; have f4 := HB8.out.box.fr 4
            go_upto_region 24 with fail
            change Code.wp _ _ _ _ (World.setCells w11 q8 0 (Pl.vals ⟨a1, a2, a3, a4, a5⟩))
            have HP12 := Aside0.mk (HP11.out.set HB8.out.mine (Pl.vals ⟨a1, a2, a3, a4, a5⟩))
            have HS8 := Aside0.mk (HB8.out.set ⟨a1, a2, a3, a4, a5⟩)
            have HY2 := Aside0.mk (HY.out.far (q2 := q8) (by have := HNB.out; omega) (Pl.vals ⟨a1, a2, a3, a4, a5⟩))
            have HS9 := Aside0.mk (HB9.out.far (q2 := q8) (by omega) (Pl.vals ⟨a1, a2, a3, a4, a5⟩))
            clear HP11 HX HY HB8 HB9 x0 x1 x2 x3 x4 z0 z1 z2 z3 z4 f0 f1 f2 f3 f4
            generalize World.setCells w11 q8 0 (Pl.vals ⟨a1, a2, a3, a4, a5⟩) = w12 at *
            have x0 := HY2.out.box.c0; have x1 := HY2.out.box.c1; have x2 := HY2.out.box.c2; have x3 := HY2.out.box.c3; have x4 := HY2.out.box.c4
            dsimp only at x0 x1 x2 x3 x4
            have z0 := HS9.out.box.c0; have z1 := HS9.out.box.c1; have z2 := HS9.out.box.c2; have z3 := HS9.out.box.c3; have z4 := HS9.out.box.c4
            try dsimp only at z0 z1 z2 z3 z4
            have f0 := HS9.out.box.fr 0; have f1 := HS9.out.box.fr 1; have f2 := HS9.out.box.fr 2; have f3 := HS9.out.box.fr 3; have f4 := HS9.out.box.fr 4
            have HFIN := Aside0.mk (show PlSt w (World.setCells w12 (q8 + 1) 0 (Pl.vals ⟨a1, a2, a3, a4, a5⟩)) d g q8 (q8 + 1) (delM m py) ⟨a1, a2, a3, a4, a5⟩ from ⟨M5, HP12.out.set HS9.out.mine _, HS8.out.far (by omega) _, HS9.out.set ⟨a1, a2, a3, a4, a5⟩⟩)
            go_wp2
            go_meet
            case rel => exact ⟨delM m py, ⟨a1, a2, a3, a4, a5⟩, b1, rfl, rfl, by have := HLE.out; omega, HFIN⟩
          | false =>
            cases hw4 : (what == 4) with
            | true =>
              have HLE := Aside0.mk (Nat.le_refl m.length)
              have HD0 := p_get HP.out py (by have := HKL.out; omega) (by omega)
              rw [HA.out] at HD0
              have HD := Aside0.mk HD0
              clear HD0
              have c3 := HO.out.box.c3
              dsimp only at c3
              go_upto_region 29 with (go_at_call 15; refine HD.out.mono ?_; clear HD; rintro e w8 ⟨rfl, hP, hg⟩; have HP8 := Aside0.mk hP; have HO8 := Aside0.mk (HO.out.grows hg fun _ h => h); have HC8 := Aside0.mk (HB8.out.grows hg fun _ h => h); have HC9 := Aside0.mk (HB9.out.grows hg fun _ h => h); clear hP hg HP HO HB8 HB9 c0 c3)
              change Code.wp _ _ _ _ (w8.alloc (.cells (Pl.cells ⟨a1, a2, a3, a4, a5⟩) 32))
              have g8 : Grows w8 (w8.alloc (.cells (Pl.cells ⟨a1, a2, a3, a4, a5⟩) 32)) := (Below.refl w8.heap.size w8).alloc (Nat.le_refl _) _
              obtain ⟨M4, hP, hX, hM⟩ := HP8.out.boxed ⟨a1, a2, a3, a4, a5⟩
              have HP9 := Aside0.mk hP
              have HX9 := Aside0.mk hX
              have HO9 := Aside0.mk (HO8.out.grows g8 hM)
              have HD8 := Aside0.mk (HC8.out.grows g8 hM)
              have HD9 := Aside0.mk (HC9.out.grows g8 hM)
              have HNA := Aside0.mk (show q8 + 1 < w8.heap.size from lt_heap HC9.out.box.blk)
              clear hP hX hM g8 HP8 HO8 HC8 HC9
              generalize w8.alloc (.cells (Pl.cells ⟨a1, a2, a3, a4, a5⟩) 32) = w9 at *
              generalize w8.heap.size = q12 at *
              have HE0 := r_get HP9.out py (by omega)
              rw [HA.out] at HE0
              have HE := Aside0.mk HE0
              clear HE0
              have c3 := HO9.out.box.c3
              dsimp only at c3
              go_upto_region 30 with (go_at_call 16; refine HE.out.mono ?_; clear HE; rintro e w10 ⟨rfl, hP, hg⟩; have HP10 := Aside0.mk hP; have HX10 := Aside0.mk (HX9.out.grows hg fun _ h => h); have HC8 := Aside0.mk (HD8.out.grows hg fun _ h => h); have HC9 := Aside0.mk (HD9.out.grows hg fun _ h => h); clear hP hg HP9 HO9 HD8 HD9 HX9 c3)
              change Code.wp _ _ _ _ (w10.alloc (.cells (Pl.cells ⟨a1, a2, a3, a4, a5⟩) 32))
              have g10 : Grows w10 (w10.alloc (.cells (Pl.cells ⟨a1, a2, a3, a4, a5⟩) 32)) := (Below.refl w10.heap.size w10).alloc (Nat.le_refl _) _
              obtain ⟨M5, hP, hY, hM⟩ := HP10.out.boxed ⟨a1, a2, a3, a4, a5⟩
              have HP11 := Aside0.mk hP
              have HY := Aside0.mk hY
              have HX := Aside0.mk (HX10.out.grows g10 hM)
              have HB8 := Aside0.mk (HC8.out.grows g10 hM)
              have HB9 := Aside0.mk (HC9.out.grows g10 hM)
              have HNB := Aside0.mk (show q8 + 1 < w10.heap.size from lt_heap HC9.out.box.blk)
              clear hP hY hM g10 HP10 HX10 HC8 HC9
              generalize w10.alloc (.cells (Pl.cells ⟨a1, a2, a3, a4, a5⟩) 32) = w11 at *
              generalize w10.heap.size = q14 at *
              have x0 := HX.out.box.c0; have x1 := HX.out.box.c1; have x2 := HX.out.box.c2; have x3 := HX.out.box.c3; have x4 := HX.out.box.c4
              dsimp only at x0 x1 x2 x3 x4
              have z0 := HB8.out.box.c0; have z1 := HB8.out.box.c1; have z2 := HB8.out.box.c2; have z3 := HB8.out.box.c3; have z4 := HB8.out.box.c4
              try dsimp only at z0 z1 z2 z3 z4
              have f0 := HB8.out.box.fr 0; have f1 := HB8.out.box.fr 1; have f2 := HB8.out.box.fr 2; have f3 := HB8.out.box.fr 3; have f4 := HB8.out.box.fr 4
              go_upto_region 31 with fail
              change Code.wp _ _ _ _ (World.setCells w11 q8 0 (Pl.vals ⟨a1, a2, a3, a4, a5⟩))
              have HP12 := Aside0.mk (HP11.out.set HB8.out.mine (Pl.vals ⟨a1, a2, a3, a4, a5⟩))
              have HS8 := Aside0.mk (HB8.out.set ⟨a1, a2, a3, a4, a5⟩)
              have HY2 := Aside0.mk (HY.out.far (q2 := q8) (by have := HNB.out; omega) (Pl.vals ⟨a1, a2, a3, a4, a5⟩))
              have HS9 := Aside0.mk (HB9.out.far (q2 := q8) (by omega) (Pl.vals ⟨a1, a2, a3, a4, a5⟩))
              clear HP11 HX HY HB8 HB9 x0 x1 x2 x3 x4 z0 z1 z2 z3 z4 f0 f1 f2 f3 f4
              generalize World.setCells w11 q8 0 (Pl.vals ⟨a1, a2, a3, a4, a5⟩) = w12 at *
              have x0 := HY2.out.box.c0; have x1 := HY2.out.box.c1; have x2 := HY2.out.box.c2; have x3 := HY2.out.box.c3; have x4 := HY2.out.box.c4
              dsimp only at x0 x1 x2 x3 x4
              have z0 := HS9.out.box.c0; have z1 := HS9.out.box.c1; have z2 := HS9.out.box.c2; have z3 := HS9.out.box.c3; have z4 := HS9.out.box.c4
              try dsimp only at z0 z1 z2 z3 z4
              have f0 := HS9.out.box.fr 0; have f1 := HS9.out.box.fr 1; have f2 := HS9.out.box.fr 2; have f3 := HS9.out.box.fr 3; have f4 := HS9.out.box.fr 4
              have HFIN := Aside0.mk (show PlSt w (World.setCells w12 (q8 + 1) 0 (Pl.vals ⟨a1, a2, a3, a4, a5⟩)) d g q8 (q8 + 1) (m) ⟨a1, a2, a3, a4, a5⟩ from ⟨M5, HP12.out.set HS9.out.mine _, HS8.out.far (by omega) _, HS9.out.set ⟨a1, a2, a3, a4, a5⟩⟩)
              go_wp2
              go_meet
              case rel => exact ⟨m, ⟨a1, a2, a3, a4, a5⟩, b1, rfl, rfl, by have := HLE.out; omega, HFIN⟩
            | false =>
              cases hw5 : (what == 5) with
              | true =>
                have HML := Aside0.mk (show (keysM m).length ≤ 300 by unfold keysM; rw [List.length_map]; omega)
                obtain ⟨X, hX⟩ : ∃ X, (fromK (keysM m) py).take on.toNat = X := ⟨_, rfl⟩
                have HX := Aside0.mk hX
                have hxl : X.length ≤ 300 := by rw [← hX, List.length_take]; have := from_le (keysM m) py; have := HML.out; omega
                clear hX
                go_upto_region 35 with fail
                apply wp_region_grow (hm := by kernel_rfl) (hB := by kernel_rfl)
                case h =>
                  apply grow_fixed
                  case hw => simp [Region.wanted, yielded]
                  case ho =>
                    intro w' hb hf
                    clear hf
                    refine ⟨?_⟩
                    go_simp
                    exact ⟨Ext.refl _ _, rfl⟩
                  simp only [Act.put, List.setIfInBounds_toArray, List.set_cons_zero, List.set_cons_succ]
                  apply grow_fixed
                  case hw => simp [Region.wanted, yielded]
                  case ho =>
                    intro w' hb hf
                    clear hf
                    refine ⟨?_⟩
                    go_simp
                    exact ⟨Ext.refl _ _, rfl⟩
                  simp only [Act.put, List.setIfInBounds_toArray, List.set_cons_zero, List.set_cons_succ]
                  apply grow_fixed
                  case hw => simp [Region.wanted, yielded]
                  case ho =>
                    intro w' hb hf
                    clear hf
                    refine ⟨?_⟩
                    go_simp
                    exact ⟨Ext.refl _ _, rfl⟩
                  simp only [Act.put, List.setIfInBounds_toArray, List.set_cons_zero, List.set_cons_succ]
                  apply grow_fixed
                  case hw => simp [Region.wanted, yielded]
                  case ho =>
                    intro w' hb hf
                    clear hf
                    refine ⟨?_⟩
                    go_simp
                    exact ⟨Ext.refl _ _, rfl⟩
                  simp only [Act.put, List.setIfInBounds_toArray, List.set_cons_zero, List.set_cons_succ]
                  apply grow_fixed (c := .string py)
                  case hw => simp [Region.wanted, yielded]
                  case ho =>
                    intro w' hb hf
                    clear hf
                    have c3 := (HO.out.grows hb fun _ h => h).box.c3
                    dsimp only at c3
                    refine ⟨?_⟩
                    go_simp
                    exact ⟨Ext.refl _ _, by first | rfl | simp⟩
                  simp only [Act.put, List.setIfInBounds_toArray, List.set_cons_zero, List.set_cons_succ]
                  apply grow_fixed
                  case hw => simp [Region.wanted, yielded]
                  case ho =>
                    intro w' hb hf
                    clear hf
                    refine ⟨?_⟩
                    go_simp
                    exact ⟨Ext.refl _ _, rfl⟩
                  simp only [Act.put, List.setIfInBounds_toArray, List.set_cons_zero, List.set_cons_succ]
                  apply grow_fixed (c := .int .i64 on)
                  case hw => simp [Region.wanted, yielded]
                  case ho =>
                    intro w' hb hf
                    clear hf
                    have c6 := (HO.out.grows hb fun _ h => h).box.c6
                    refine ⟨?_⟩
                    go_simp
                    exact ⟨Ext.refl _ _, by first | rfl | simp⟩
                  simp only [Act.put, List.setIfInBounds_toArray, List.set_cons_zero, List.set_cons_succ]
                  apply grow_free (G := ToldS X)
                  case hw => simp [Region.wanted, yielded]
                  case hm => exact ToldS.mono _
                  case ho =>
                    intro w' hb hf
                    clear hf
                    have HFR := Aside0.mk (p_from (HP.out.grows hb) (by omega) py on)
                    rw [HX.out] at HFR
                    refine ⟨?_⟩
                    go_simp
                    refine HFR.out.mono ?_
                    rintro e w2 ⟨v', rfl, hT, hQ, hg⟩
                    exact ⟨_, rfl, Ext.of_below hb.size hg, hT⟩
                  intro v125
                  simp only [Act.put, List.setIfInBounds_toArray, List.set_cons_zero, List.set_cons_succ]
                  apply grow_fixed
                  case hw => simp [Region.wanted, yielded]
                  case ho =>
                    intro w' hb hf
                    clear hf
                    refine ⟨?_⟩
                    go_simp
                    exact ⟨Ext.refl _ _, rfl⟩
                  simp only [Act.put, List.setIfInBounds_toArray, List.set_cons_zero, List.set_cons_succ]
                  apply grow_fixed
                  case hw => simp [Region.wanted, yielded]
                  case ho =>
                    intro w' hb hf
                    clear hf
                    refine ⟨?_⟩
                    go_simp
                    exact ⟨Ext.refl _ _, rfl⟩
                  simp only [Act.put, List.setIfInBounds_toArray, List.set_cons_zero, List.set_cons_succ]
                  apply grow_fixed
                  case hw => simp [Region.wanted, yielded]
                  case ho =>
                    intro w' hb hf
                    clear hf
                    refine ⟨?_⟩
                    go_simp
                    exact ⟨Ext.refl _ _, rfl⟩
                  simp only [Act.put, List.setIfInBounds_toArray, List.set_cons_zero, List.set_cons_succ]
                  apply grow_fixed
                  case hw => simp [Region.wanted, yielded]
                  case ho =>
                    intro w' hb hf
                    clear hf
                    refine ⟨?_⟩
                    go_simp
                    exact ⟨Ext.refl _ _, rfl⟩
                  simp only [Act.put, List.setIfInBounds_toArray, List.set_cons_zero, List.set_cons_succ]
                  apply grow_fixed (c := .string py)
                  case hw => simp [Region.wanted, yielded]
                  case ho =>
                    intro w' hb hf
                    clear hf
                    have c3 := (HO.out.grows hb fun _ h => h).box.c3
                    dsimp only at c3
                    refine ⟨?_⟩
                    go_simp
                    exact ⟨Ext.refl _ _, by first | rfl | simp⟩
                  simp only [Act.put, List.setIfInBounds_toArray, List.set_cons_zero, List.set_cons_succ]
                  apply grow_fixed
                  case hw => simp [Region.wanted, yielded]
                  case ho =>
                    intro w' hb hf
                    clear hf
                    refine ⟨?_⟩
                    go_simp
                    exact ⟨Ext.refl _ _, rfl⟩
                  simp only [Act.put, List.setIfInBounds_toArray, List.set_cons_zero, List.set_cons_succ]
                  apply grow_fixed (c := .int .i64 on)
                  case hw => simp [Region.wanted, yielded]
                  case ho =>
                    intro w' hb hf
                    clear hf
                    have c6 := (HO.out.grows hb fun _ h => h).box.c6
                    refine ⟨?_⟩
                    go_simp
                    exact ⟨Ext.refl _ _, by first | rfl | simp⟩
                  simp only [Act.put, List.setIfInBounds_toArray, List.set_cons_zero, List.set_cons_succ]
                  apply grow_free (G := ToldS X)
                  case hw => simp [Region.wanted, yielded]
                  case hm => exact ToldS.mono _
                  case ho =>
                    intro w' hb hf
                    clear hf
                    have HFR := Aside0.mk (r_from (HP.out.grows hb) (by omega) py on)
                    rw [HX.out] at HFR
                    refine ⟨?_⟩
                    go_simp
                    refine HFR.out.mono ?_
                    rintro e w2 ⟨v', rfl, hT, hQ, hg⟩
                    exact ⟨_, rfl, Ext.of_below hb.size hg, hT⟩
                  intro v133
                  simp only [Act.put, List.setIfInBounds_toArray, List.set_cons_zero, List.set_cons_succ]
                  apply grow_fixed (c := .bool true)
                  case hw => simp [Region.wanted, yielded]
                  case ho =>
                    intro w' hb hf
                    have h1 : ToldS X v125 w' := hf _ (List.Mem.tail _ (List.Mem.head _)) (by kernel_rfl)
                    have h2 : ToldS X v133 w' := hf _ (List.Mem.head _) (by kernel_rfl)
                    clear hf
                    have HSM := Aside0.mk (same_calls h1 h2 (by omega))
                    clear h1 h2
                    refine ⟨?_⟩
                    go_simp
                    refine HSM.out.mono fun e w2 h => ?_
                    obtain ⟨rfl, z, rfl⟩ := h
                    exact ⟨_, rfl, Ext.of_below hb.size (drew_grows w' z), by simp⟩
                  simp only [Act.put, List.setIfInBounds_toArray, List.set_cons_zero, List.set_cons_succ]
                  apply grow_fixed (c := .bool false)
                  case hw => simp [Region.wanted, yielded]
                  case ho =>
                    intro w' hb hf
                    clear hf
                    refine ⟨?_⟩
                    go_simp
                    exact ⟨Ext.refl _ _, by first | rfl | simp⟩
                  simp only [Act.put, List.setIfInBounds_toArray, List.set_cons_zero, List.set_cons_succ]
                  refine grow_nil fun w' hb hf => ?_
                  have HFIN := Aside0.mk (show PlSt w w' d g q8 (q8 + 1) m zeroPl from PlSt.grows ⟨M3, HP.out, HB8.out, HB9.out⟩ hb)
                  clear hf
                  go_wp2
                  go_meet
                  case rel => exact ⟨m, zeroPl, false, rfl, rfl, by omega, HFIN⟩
                case hsp => exact ⟨ToldS.mono _, ToldS.mono _, trivial⟩
              | false =>
                have HLE := Aside0.mk (put_length_le m (⟨ps, pk, py, pa, pz⟩ : Pl))
                have HD0 := p_put HP.out (⟨ps, pk, py, pa, pz⟩ : Pl) (by have := HKL.out; show py.size ≤ _; omega) (by omega)
                rw [HA.out] at HD0
                have HD := Aside0.mk HD0
                clear HD0
                have c1 := HO.out.box.c1; have c2 := HO.out.box.c2; have c3 := HO.out.box.c3; have c4 := HO.out.box.c4; have c5 := HO.out.box.c5
                dsimp only at c1 c2 c3 c4 c5
                go_upto_region 15 with (go_at_call 20; refine HD.out.mono ?_; clear HD; rintro e w8 ⟨rfl, hP, hK⟩; have HP8 := Aside0.mk hP; have HO8 := Aside0.mk (HO.out.kept hK); have HC8 := Aside0.mk (HB8.out.kept hK); have HC9 := Aside0.mk (HB9.out.kept hK); clear hP hK HP HO HB8 HB9 c0 c1 c2 c3 c4 c5)
                change Code.wp _ _ _ _ (w8.alloc (.cells (Pl.cells ⟨a1, a2, a3, a4, a5⟩) 32))
                have g8 : Grows w8 (w8.alloc (.cells (Pl.cells ⟨a1, a2, a3, a4, a5⟩) 32)) := (Below.refl w8.heap.size w8).alloc (Nat.le_refl _) _
                obtain ⟨M4, hP, hX, hM⟩ := HP8.out.boxed ⟨a1, a2, a3, a4, a5⟩
                have HP9 := Aside0.mk hP
                have HX9 := Aside0.mk hX
                have HO9 := Aside0.mk (HO8.out.grows g8 hM)
                have HD8 := Aside0.mk (HC8.out.grows g8 hM)
                have HD9 := Aside0.mk (HC9.out.grows g8 hM)
                have HNA := Aside0.mk (show q8 + 1 < w8.heap.size from lt_heap HC9.out.box.blk)
                clear hP hX hM g8 HP8 HO8 HC8 HC9
                generalize w8.alloc (.cells (Pl.cells ⟨a1, a2, a3, a4, a5⟩) 32) = w9 at *
                generalize w8.heap.size = q12 at *
                have HE0 := r_put HP9.out (⟨ps, pk, py, pa, pz⟩ : Pl) (by omega)
                rw [HA.out] at HE0
                have HE := Aside0.mk HE0
                clear HE0
                have c1 := HO9.out.box.c1; have c2 := HO9.out.box.c2; have c3 := HO9.out.box.c3; have c4 := HO9.out.box.c4; have c5 := HO9.out.box.c5
                dsimp only at c1 c2 c3 c4 c5
                go_upto_region 16 with (go_at_call 21; refine HE.out.mono ?_; clear HE; rintro e w10 ⟨rfl, hP, hK⟩; have HP10 := Aside0.mk hP; have HX10 := Aside0.mk (HX9.out.kept hK); have HC8 := Aside0.mk (HD8.out.kept hK); have HC9 := Aside0.mk (HD9.out.kept hK); clear hP hK HP9 HO9 HD8 HD9 HX9 c1 c2 c3 c4 c5)
                change Code.wp _ _ _ _ (w10.alloc (.cells (Pl.cells ⟨a1, a2, a3, a4, a5⟩) 32))
                have g10 : Grows w10 (w10.alloc (.cells (Pl.cells ⟨a1, a2, a3, a4, a5⟩) 32)) := (Below.refl w10.heap.size w10).alloc (Nat.le_refl _) _
                obtain ⟨M5, hP, hY, hM⟩ := HP10.out.boxed ⟨a1, a2, a3, a4, a5⟩
                have HP11 := Aside0.mk hP
                have HY := Aside0.mk hY
                have HX := Aside0.mk (HX10.out.grows g10 hM)
                have HB8 := Aside0.mk (HC8.out.grows g10 hM)
                have HB9 := Aside0.mk (HC9.out.grows g10 hM)
                have HNB := Aside0.mk (show q8 + 1 < w10.heap.size from lt_heap HC9.out.box.blk)
                clear hP hY hM g10 HP10 HX10 HC8 HC9
                generalize w10.alloc (.cells (Pl.cells ⟨a1, a2, a3, a4, a5⟩) 32) = w11 at *
                generalize w10.heap.size = q14 at *
                have x0 := HX.out.box.c0; have x1 := HX.out.box.c1; have x2 := HX.out.box.c2; have x3 := HX.out.box.c3; have x4 := HX.out.box.c4
                dsimp only at x0 x1 x2 x3 x4
                have z0 := HB8.out.box.c0; have z1 := HB8.out.box.c1; have z2 := HB8.out.box.c2; have z3 := HB8.out.box.c3; have z4 := HB8.out.box.c4
                try dsimp only at z0 z1 z2 z3 z4
                have f0 := HB8.out.box.fr 0; have f1 := HB8.out.box.fr 1; have f2 := HB8.out.box.fr 2; have f3 := HB8.out.box.fr 3; have f4 := HB8.out.box.fr 4
                go_upto_region 17 with fail
                change Code.wp _ _ _ _ (World.setCells w11 q8 0 (Pl.vals ⟨a1, a2, a3, a4, a5⟩))
                have HP12 := Aside0.mk (HP11.out.set HB8.out.mine (Pl.vals ⟨a1, a2, a3, a4, a5⟩))
                have HS8 := Aside0.mk (HB8.out.set ⟨a1, a2, a3, a4, a5⟩)
                have HY2 := Aside0.mk (HY.out.far (q2 := q8) (by have := HNB.out; omega) (Pl.vals ⟨a1, a2, a3, a4, a5⟩))
                have HS9 := Aside0.mk (HB9.out.far (q2 := q8) (by omega) (Pl.vals ⟨a1, a2, a3, a4, a5⟩))
                clear HP11 HX HY HB8 HB9 x0 x1 x2 x3 x4 z0 z1 z2 z3 z4 f0 f1 f2 f3 f4
                generalize World.setCells w11 q8 0 (Pl.vals ⟨a1, a2, a3, a4, a5⟩) = w12 at *
                have x0 := HY2.out.box.c0; have x1 := HY2.out.box.c1; have x2 := HY2.out.box.c2; have x3 := HY2.out.box.c3; have x4 := HY2.out.box.c4
                dsimp only at x0 x1 x2 x3 x4
                have z0 := HS9.out.box.c0; have z1 := HS9.out.box.c1; have z2 := HS9.out.box.c2; have z3 := HS9.out.box.c3; have z4 := HS9.out.box.c4
                try dsimp only at z0 z1 z2 z3 z4
                have f0 := HS9.out.box.fr 0; have f1 := HS9.out.box.fr 1; have f2 := HS9.out.box.fr 2; have f3 := HS9.out.box.fr 3; have f4 := HS9.out.box.fr 4
                have HFIN := Aside0.mk (show PlSt w (World.setCells w12 (q8 + 1) 0 (Pl.vals ⟨a1, a2, a3, a4, a5⟩)) d g q8 (q8 + 1) (putM m (⟨ps, pk, py, pa, pz⟩ : Pl)) ⟨a1, a2, a3, a4, a5⟩ from ⟨M5, HP12.out.set HS9.out.mine _, HS8.out.far (by omega) _, HS9.out.set ⟨a1, a2, a3, a4, a5⟩⟩)
                go_wp2
                go_meet
                case rel => exact ⟨putM m (⟨ps, pk, py, pa, pz⟩ : Pl), ⟨a1, a2, a3, a4, a5⟩, b1, rfl, rfl, by have := HLE.out; omega, HFIN⟩
        case rest =>
          obtain ⟨m2, p, b, rfl, rfl, hm2, HS⟩ := hcut
          clear HP HO HB8 HB9 HA c0
          obtain ⟨e1, e2, e3, e4, e5⟩ := p
          have x0 := HS.out.b8.c0; have x1 := HS.out.b8.c1; have x2 := HS.out.b8.c2; have x3 := HS.out.b8.c3; have x4 := HS.out.b8.c4
          have y0 := HS.out.b9.c0; have y1 := HS.out.b9.c1; have y2 := HS.out.b9.c2; have y3 := HS.out.b9.c3; have y4 := HS.out.b9.c4
          dsimp only at x0 x1 x2 x3 x4 y0 y1 y2 y3 y4
          have HMA := Aside0.mk (p_many HS.out.p)
          have HMB := Aside0.mk (r_many HS.out.p)
          have HLA := Aside0.mk (p_list HS.out.p (by omega))
          have hkl : (keysM m2).length ≤ 301 := by unfold keysM; rw [List.length_map]; omega
          obtain ⟨K, hK⟩ : ∃ K, keysM m2 = K := ⟨_, rfl⟩
          have HKE := Aside0.mk hK
          rw [hK] at HLA hkl
          clear hK
          go_wp2_with (first
            | (go_at_call 22; refine HMA.out.mono ?_; clear HMA; rintro e w7 ⟨rfl, rfl⟩)
            | (go_at_call 23; refine HMB.out.mono ?_; clear HMB; rintro e w7 ⟨rfl, rfl⟩)
            | (go_at_call 24; refine HLA.out.mono ?_; clear HLA; rintro e w8 ⟨v8, rfl, hT, hP, hg⟩; have HT8 := Aside0.mk hT; have HLB0 := r_list hP (by omega); rw [HKE.out] at HLB0; have HLB := Aside0.mk HLB0; clear HLB0; obtain ⟨A8, c8, rfl, _⟩ := id hT; clear hT hP hg)
            | (go_at_call 25; refine HLB.out.mono ?_; clear HLB; rintro e w9 ⟨v9, rfl, hT, hP, hg⟩; have HSM0 := same_calls (HT8.out.grows hg) hT (by omega); rw [decide_eq_true rfl] at HSM0; have HSM := Aside0.mk HSM0; clear HSM0; have HP9 := Aside0.mk hP; obtain ⟨A9, c9, rfl, _⟩ := id hT; clear hT hP hg)
            | (go_at_call 17; refine HSM.out.mono ?_; clear HSM; rintro e w10 ⟨rfl, z, rfl⟩; have HPZ := Aside0.mk (HP9.out.grows (drew_grows _ z))))
          go_roundg (l.length - (i + 1))
          case measure => have := HF.out; omega
          case rel => exact ⟨i + 1, m2, ⟨by omega⟩, by omega, by go_num, hm2, HPZ⟩
      · go_wp2
        go_ret
        exact ⟨rfl, HS.out.below⟩
end Go.Proofs.Ytomlnflblecpbaa
