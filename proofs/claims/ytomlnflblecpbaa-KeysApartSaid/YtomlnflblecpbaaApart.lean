/-
  The law KeysApart.
-/
import Derived.Test.YtomlnflblecpbaaOrder
import Derived.Deep.CutBlock
import Derived.Deep.DeepCutAuto
namespace Go.Proofs.Ytomlnflblecpbaa
set_option linter.unusedVariables false
set_option linter.unusedSimpArgs false
open Go.RowKit Go.Proofs.YtomlnflblecpbaaW.PrintWords Go.Proofs.YtomlnflblecpbaaW.PrintMore PKeysPlays
attribute [local go_sem] max2_int min2_int
attribute [local go_sem high] eql32 neq32 guard32
theorem p_new2 {B1 : World → (Nat → Prop) → Prop} {M : Nat → Prop} {w W : World} (h : P2 B1 noB M w W) : Calls Try.prog 10 #[] W fun e w' => ∃ d, e = .returned (.pointer (some ⟨d, 0, none⟩)) ∧ P2 B1 (dirB d []) M w w' :=
  (p_new h.swap).mono fun e w' ⟨d, he, hp⟩ => ⟨d, he, hp.swap⟩
section
variable {B1 : World → (Nat → Prop) → Prop} {M : Nat → Prop} {w W : World} {d : Nat} {m : List Pl}
theorem p_put2 (h : P2 B1 (dirB d m) M w W) (p : Pl) (hn : p.key.size ≤ 1000000) (hm : m.length ≤ 100000) :
    Calls Try.prog 20 #[.pointer (some ⟨d, 0, none⟩), .agg p.cells] W fun e w' => e = .returned (ans m p.key) ∧ P2 B1 (dirB d (putM m p)) M w w' ∧ KeepS (fun k => ¬ M k) W w' :=
  (p_put h.swap p hn hm).mono fun e w' hh => ⟨hh.1, hh.2.1.swap, hh.2.2⟩
theorem p_del2 (h : P2 B1 (dirB d m) M w W) (key : ByteArray) (hn : key.size ≤ 1000000) (hm : m.length ≤ 100000) :
    Calls Try.prog 13 #[.pointer (some ⟨d, 0, none⟩), .string key] W fun e w' => e = .returned (ans m key) ∧ P2 B1 (dirB d (delM m key)) M w w' ∧ KeepS (fun k => ¬ M k) W w' :=
  (p_del h.swap key hn hm).mono fun e w' hh => ⟨hh.1, hh.2.1.swap, hh.2.2⟩
end
/-- One directory is the other, and a key more. -/
structure ApSt (w W : World) (d1 d2 : Nat) (key : ByteArray) (m1 m2 : List Pl) : Prop where
  p : P2 (dirB d1 m1) (dirB d2 m2) (fun _ => False) w W
  one : getM m1 key = some (placeOf key 7)
  other : m2 = delM m1 key
theorem ApSt.grows {w W W' : World} {d1 d2 : Nat} {key : ByteArray} {m1 m2 : List Pl} (h : ApSt w W d1 d2 key m1 m2) (hg : Grows W W') : ApSt w W' d1 d2 key m1 m2 := ⟨h.p.grows hg, h.one, h.other⟩
theorem put_nil (key : ByteArray) (n : Int) : putM [] (placeOf key n) = [placeOf key n] := rfl
theorem del_one (key : ByteArray) (n : Int) : delM [placeOf key n] key = [] := by unfold delM; simp [placeOf]
theorem filter_take {K : List ByteArray} {key : ByteArray} {i : Nat} (hi : i < K.length) : ((K.take (i + 1)).filter fun x => decide (x ≠ key)) = ((K.take i).filter fun x => decide (x ≠ key)) ++ (if K[i] = key then [] else [K[i]]) := by
  rw [List.take_succ_eq_append_getElem hi, List.filter_append, List.filter_cons, List.filter_nil]
  by_cases h : K[i] = key <;> simp [h]
set_option maxRecDepth 100000 in
set_option maxHeartbeats 8000000 in
theorem apart_calls (w : World) {A1 : Option Addr} {c1 : Nat} (l : List S34) (key : ByteArray) (hr : Kd.C k34 w A1 l.length l) (hc1 : l.length ≤ c1) (hl : l.length ≤ 4611686018427387904) :
    Calls Try.prog 7 #[.slice A1 l.length c1, .string key] w fun e w' => e = .returned (.bool true) ∧ Below w.heap.size w w' := by
  obtain ⟨kg, rg, hgr, hgf⟩ := great_tells l hl
  have HR := Aside0.mk hr
  have HGR := Aside0.mk hgr
  have HGF := Aside0.mk hgf
  clear hr hgr hgf
  go_enter Try.func7, Try.ntmps7
  go_upto_region 3 with (first
    | (go_at_call 9; refine (head_calls _).mono ?_; rintro e w1 ⟨rfl, hb⟩; have HB := Aside0.mk hb; clear hb)
    | (go_at_call 10; refine (p_new (p_start HB.out)).mono ?_; rintro e w2 ⟨d1, rfl, hP⟩; have HP0 := Aside0.mk hP; clear hP HB))
  go_upto_region 4 with (go_at_call 10; refine (p_new2 HP0.out).mono ?_; rintro e w2' ⟨d2, rfl, hP⟩; have HP := Aside0.mk hP; clear hP HP0)
  cases rg with
  | true =>
    go_wp2_with (go_at_call 12; refine (souterrainlaw13_great.calls kg A1 c1 l true _ (Kd.C_below HR.out HP.out.below) hc1 HGR.out).mono ?_; rintro e w3 ⟨rfl, hb2⟩; have HP2 := Aside0.mk (HP.out.grows hb2); clear hb2 HP)
    go_ret
    exact ⟨rfl, HP2.out.below⟩
  | false =>
    have HKS := Aside0.mk (HGF.out rfl).1
    have hl3 := (HGF.out rfl).2
    clear HGF
    by_cases hk : 900 < (key.size : Int)
    · have hkd : decide (900 < (key.size : Int)) = true := decide_eq_true hk
      clear hk
      go_wp2_with (go_at_call 12; refine (souterrainlaw13_great.calls kg A1 c1 l false _ (Kd.C_below HR.out HP.out.below) hc1 HGR.out).mono ?_; rintro e w3 ⟨rfl, hb2⟩; have HP2 := Aside0.mk (HP.out.grows hb2); clear hb2 HP)
      go_ret
      exact ⟨rfl, HP2.out.below⟩
    · have hkd : decide (900 < (key.size : Int)) = false := decide_eq_false hk
      have hks : key.size ≤ 900 := by omega
      clear hk
      go_upto_region 6 with (go_at_call 12; refine (souterrainlaw13_great.calls kg A1 c1 l false _ (Kd.C_below HR.out HP.out.below) hc1 HGR.out).mono ?_; rintro e w3 ⟨rfl, hb2⟩; have HP2 := Aside0.mk (HP.out.grows hb2); clear hb2 HP)
      have HPP := Aside0.mk (fun (W : World) (h : P2 (dirB d1 []) (dirB d2 []) (fun _ => False) w W) => p_put h (placeOf key 7) (by show key.size ≤ _; omega) (by decide))
      go_upto_region 7 with (first
        | (go_at_call 26; refine (place_calls _ key 7).mono ?_; rintro e w4 ⟨rfl, hg⟩; have HP4 := Aside0.mk (HP2.out.grows hg); clear hg HP2)
        | (go_at_call 20; refine (HPP.out _ HP4.out).mono ?_; clear HPP; rintro e w5 ⟨rfl, hP, hK⟩; have HS := Aside0.mk (show ApSt w w5 d1 d2 key [placeOf key 7] [] from ⟨hP, by rw [getM_cons, if_pos (show (placeOf key 7).key = key from rfl)], (del_one key 7).symm⟩); clear hP hK HP4))
      go_upto_block 0 with fail
      go_cut [8] (fun v8 wc => ∃ (m1 m2 : List Pl), m1.length ≤ 301 ∧ m2.length ≤ 300 ∧ Aside0 (∀ q ∈ m1, q.key.size ≤ 9000) ∧ Aside0 (ApSt w wc d1 d2 key m1 m2))
      case first =>
        go_wp2
        go_loopg [8, 9] l.length (fun f v8 v9 wr => ∃ (i : Nat) (m1 m2 : List Pl), Aside0 (f + i = l.length) ∧ i ≤ l.length ∧ v8 = .int .i64 i ∧ m1.length ≤ i + 1 ∧ m2.length ≤ i ∧ Aside0 (∀ q ∈ m1, q.key.size ≤ 9000) ∧ Aside0 (ApSt w wr d1 d2 key m1 m2))
        case atStart => exact ⟨0, _, _, ⟨by omega⟩, by omega, rfl, by simp, by simp, ⟨fun q hq => by rw [List.mem_singleton.1 hq]; show key.size ≤ _; omega⟩, HS⟩
        case round =>
          clear HS
          obtain ⟨i, m1, m2, HF, hi, rfl, hml1, hml2, HQS, HS⟩ := hrel
          by_cases hlt : i < l.length
          · obtain ⟨ad, rfl, ho⟩ := op_at HR.out HS.out.p.below hlt
            have HKL := Aside0.mk (HKS.out _ (List.getElem_mem hlt))
            obtain ⟨h0, h1, h2, h3, h4, h5, h6⟩ := ho
            generalize l[i] = x at h0 h1 h2 h3 h4 h5 h6 HKL
            generalize x.f0 = what at *
            generalize x.f2 = on at *
            generalize hpo : opPl x = po at *
            clear hpo
            obtain ⟨ps, pk, py, pa, pz⟩ := po
            dsimp only at h1 h2 h3 h4 h5 HKL
            go_upto_region 11 with fail
            change Code.wp _ _ _ _ (wr.alloc (.cells (opCells what ⟨ps, pk, py, pa, pz⟩ on) 34))
            have g1 : Grows wr (wr.alloc (.cells (opCells what ⟨ps, pk, py, pa, pz⟩ on) 34)) := (Below.refl wr.heap.size wr).alloc (Nat.le_refl _) _
            obtain ⟨M1, hP1, hO1, hM1⟩ := HS.out.p.oped what ⟨ps, pk, py, pa, pz⟩ on
            have HP := Aside0.mk hP1
            have HO := Aside0.mk hO1
            have HONE := Aside0.mk HS.out.one
            have HOTH := Aside0.mk HS.out.other
            have HSG := Aside0.mk (HS.out.grows g1)
            clear hP1 hO1 hM1 HS g1 h0 h1 h2 h3 h4 h5 h6
            generalize wr.alloc (.cells (opCells what ⟨ps, pk, py, pa, pz⟩ on) 34) = w5 at *
            generalize wr.heap.size = q10 at *
            have c0 := HO.out.box.c0
            have c1 := HO.out.box.c1
            have c2 := HO.out.box.c2
            have c3 := HO.out.box.c3
            have c4 := HO.out.box.c4
            have c5 := HO.out.box.c5
            dsimp only at c1 c2 c3 c4 c5
            cases hown : (py.toList == key.toList) with
            | true =>
              go_wp2
              go_roundg (l.length - (i + 1))
              case measure => have := HF.out; omega
              case rel => exact ⟨i + 1, m1, m2, ⟨by omega⟩, by omega, by go_num, by omega, by omega, HQS, HSG⟩
            | false =>
              have HNE := Aside0.mk (key_neb hown)
              have HSO := Aside0.mk HP.out.sorted
              clear HSG
              cases hw3 : (what == 3) with
              | true =>
                have HL1 := Aside0.mk (del_length_le m1 py)
                have HL2 := Aside0.mk (del_length_le m2 py)
                have HD := Aside0.mk (p_del HP.out py (by have := HKL.out; omega) (by omega))
                clear c0 c1 c2 c3 c4 c5
                have c0 := HO.out.box.c0
                have c3 := HO.out.box.c3
                dsimp only at c3
                go_upto_region 14 with (go_at_call 13; refine HD.out.mono ?_; clear HD; rintro e w8 ⟨rfl, hP, hK⟩; have HP8 := Aside0.mk hP; have HO8 := Aside0.mk (HO.out.kept hK); have HD2 := Aside0.mk (p_del2 hP py (by have := HKL.out; omega) (by omega)); clear hP hK HP HO c0 c3)
                have c3 := HO8.out.box.c3
                dsimp only at c3
                go_wp2_with (go_at_call 13; refine HD2.out.mono ?_; clear HD2; rintro e w9 ⟨rfl, hP, hK⟩; have HP9 := Aside0.mk hP; clear hP hK HP8)
                go_roundg (l.length - (i + 1))
                case measure => have := HF.out; omega
                case rel => exact ⟨i + 1, delM m1 py, delM m2 py, ⟨by omega⟩, by omega, by go_num, by have := HL1.out; omega, by have := HL2.out; omega, ⟨fun q hq => HQS.out q (mem_delM.1 hq).1⟩, ⟨⟨HP9.out.less fun k hk => hk.elim, by rw [get_del HSO.out, if_neg HNE.out]; exact HONE.out, by rw [HOTH.out, del_comm]⟩⟩⟩
              | false =>
                have HL1 := Aside0.mk (put_length_le m1 (⟨ps, pk, py, pa, pz⟩ : Pl))
                have HL2 := Aside0.mk (put_length_le m2 (⟨ps, pk, py, pa, pz⟩ : Pl))
                have HD := Aside0.mk (p_put HP.out (⟨ps, pk, py, pa, pz⟩ : Pl) (by have := HKL.out; show py.size ≤ _; omega) (by omega))
                go_upto_region 16 with (go_at_call 20; refine HD.out.mono ?_; clear HD; rintro e w8 ⟨rfl, hP, hK⟩; have HP8 := Aside0.mk hP; have HO8 := Aside0.mk (HO.out.kept hK); have HD2 := Aside0.mk (p_put2 hP (⟨ps, pk, py, pa, pz⟩ : Pl) (by have := HKL.out; show py.size ≤ _; omega) (by omega)); clear hP hK HP HO c0 c1 c2 c3 c4 c5)
                have c1 := HO8.out.box.c1
                have c2 := HO8.out.box.c2
                have c3 := HO8.out.box.c3
                have c4 := HO8.out.box.c4
                have c5 := HO8.out.box.c5
                dsimp only at c1 c2 c3 c4 c5
                go_wp2_with (go_at_call 20; refine HD2.out.mono ?_; clear HD2; rintro e w9 ⟨rfl, hP, hK⟩; have HP9 := Aside0.mk hP; clear hP hK HP8)
                go_roundg (l.length - (i + 1))
                case measure => have := HF.out; omega
                case rel => exact ⟨i + 1, putM m1 (⟨ps, pk, py, pa, pz⟩ : Pl), putM m2 (⟨ps, pk, py, pa, pz⟩ : Pl), ⟨by omega⟩, by omega, by go_num, by have := HL1.out; omega, by have := HL2.out; omega, ⟨fun q hq => by
                  rcases mem_putM.1 hq with rfl | hq
                  · exact HKL.out
                  · exact HQS.out q hq.1⟩, ⟨⟨HP9.out.less fun k hk => hk.elim, by rw [get_put HSO.out, if_neg HNE.out]; exact HONE.out, by rw [HOTH.out, del_put_ne HSO.out _ _ HNE.out]⟩⟩⟩
          · go_wp2
            go_meet
            case rel => exact ⟨m1, m2, by omega, by omega, HQS, HS⟩
      case rest =>
        obtain ⟨m1, m2, hm1, hm2, HQS, HS⟩ := hcut
        have HSO := Aside0.mk HS.out.p.sorted
        have HG2 := Aside0.mk (show getM m2 key = none by rw [HS.out.other, get_del HSO.out, if_pos rfl])
        have HLEN := Aside0.mk (show m1.length = m2.length + 1 by rw [HS.out.other]; exact (del_len_some HSO.out HS.out.one).symm)
        have HKK := Aside0.mk (show keysM m2 = (keysM m1).filter fun x => decide (x ≠ key) by rw [HS.out.other, keys_del])
        have HC1 := Aside0.mk (by have := p_get HS.out.p key (by omega) (by omega); rw [ans_at HS.out.one] at this; exact this)
        have HP := Aside0.mk HS.out.p
        clear HS HQS
        dsimp only [placeOf] at HC1
        go_upto_region 18 with (go_at_call 15; refine HC1.out.mono ?_; clear HC1; rintro e w6 ⟨rfl, hP, hg⟩; have HP6 := Aside0.mk hP; clear hP hg HP)
        change Code.wp _ _ _ _ (w6.alloc (.cells (Pl.cells (placeOf key 7)) 32))
        have g6 : Grows w6 (w6.alloc (.cells (Pl.cells (placeOf key 7)) 32)) := (Below.refl w6.heap.size w6).alloc (Nat.le_refl _) _
        have HX := Aside0.mk (PBox.new w6 (placeOf key 7))
        have HP7 := Aside0.mk (HP6.out.grows g6)
        clear g6 HP6
        generalize w6.alloc (.cells (Pl.cells (placeOf key 7)) 32) = w7 at *
        generalize w6.heap.size = q10 at *
        have HC2 := Aside0.mk (by have := p_get HP7.out.swap key (by omega) (by omega); rw [ans_zero HG2.out] at this; exact this)
        go_upto_region 19 with (go_at_call 15; refine HC2.out.mono ?_; clear HC2; rintro e w8 ⟨rfl, hP, hg⟩; have HP8 := Aside0.mk hP.swap; have HX8 := Aside0.mk (HX.out.grows hg); clear hP hg HP7 HX)
        change Code.wp _ _ _ _ (w8.alloc (.cells (Pl.cells zeroPl) 32))
        have g8 : Grows w8 (w8.alloc (.cells (Pl.cells zeroPl) 32)) := (Below.refl w8.heap.size w8).alloc (Nat.le_refl _) _
        have HX9 := Aside0.mk (HX8.out.grows g8)
        have HP9 := Aside0.mk (HP8.out.grows g8)
        clear g8 HP8 HX8
        generalize w8.alloc (.cells (Pl.cells zeroPl) 32) = w9 at *
        generalize w8.heap.size = q12 at *
        have HPL := Aside0.mk (p_list HP9.out (by omega))
        have hkl : (keysM m1).length ≤ 301 := by unfold keysM; rw [List.length_map]; exact hm1
        obtain ⟨K, hK⟩ : ∃ K, keysM m1 = K := ⟨_, rfl⟩
        rw [hK] at hkl HKK HPL
        clear hK
        go_upto_region 21 with (go_at_call 24; refine HPL.out.mono ?_; clear HPL; rintro e w4 ⟨v15, rfl, hT, hP, hg⟩; obtain ⟨A15, c15, rfl, hc15, _⟩ := id hT; have HT := Aside0.mk hT; have HP4 := Aside0.mk hP; have HX4 := Aside0.mk (HX9.out.grows hg); clear hT hP hg HP9 HX9)
        go_wp2
        go_loopg [14, 16] K.length (fun f v14 v16 wr => ∃ (i : Nat), Aside0 (f + i = K.length) ∧ i ≤ K.length ∧ v16 = .int .i64 i ∧ Aside0 (LSt w4 wr v14 ((K.take i).filter fun x => decide (x ≠ key))))
        case atStart => exact ⟨0, ⟨by omega⟩, by omega, rfl, ⟨Grows.refl _, own_nil _ _ _ _⟩⟩
        case round =>
          obtain ⟨i, HF, hi, rfl, HL⟩ := hrel
          by_cases hlt : i < K.length
          · obtain ⟨ad, ea, hcell⟩ := told_at (HT.out.grows HL.out.g) hlt
            have HFT := Aside0.mk (filter_take (key := key) hlt)
            obtain ⟨y, hy⟩ : ∃ y, K[i] = y := ⟨_, rfl⟩
            rw [hy] at hcell HFT
            clear hy
            subst ea
            have hlen := List.length_filter_le (fun x => decide (x ≠ key)) (K.take i)
            rw [List.length_take] at hlen
            cases hkb : (y.toList == key.toList) with
            | true =>
              have HKB := Aside0.mk (key_eqb hkb)
              clear hlen
              go_wp2
              go_roundg (K.length - (i + 1))
              case measure => have := HF.out; omega
              case rel => exact ⟨i + 1, ⟨by omega⟩, by omega, by go_num, ⟨by rw [HFT.out, if_pos HKB.out, List.append_nil]; exact HL.out⟩⟩
            | false =>
              have HKB := Aside0.mk (key_neb hkb)
              obtain ⟨v4, w5, hr, hL5⟩ := HL.out.app y (by omega)
              have HL5 := Aside0.mk hL5
              clear hL5 hlen
              go_wp2_with (at_builtin; refine wpList_appendE (.tmp 113) (.tmp 118) 38 rfl rfl rfl rfl ⟨_, _, hr, ?_⟩; clear hr)
              go_roundg (K.length - (i + 1))
              case measure => have := HF.out; omega
              case rel => exact ⟨i + 1, ⟨by omega⟩, by omega, by go_num, ⟨by rw [HFT.out, if_neg HKB.out]; exact HL5.out⟩⟩
          · obtain rfl : i = K.length := by omega
            have HT14 := Aside0.mk (show ToldS (keysM m2) u14 wr by have := own_told HL.out.own; rw [List.take_length, ← HKK.out] at this; exact this)
            have HPW := Aside0.mk (HP4.out.grows HL.out.g)
            have HXW := Aside0.mk (HX4.out.grows HL.out.g)
            have hk2 : (keysM m2).length ≤ 300 := by unfold keysM; rw [List.length_map]; exact hm2
            have hw1 : IntKind.i64.wrap ((m2.length : Int) + 1) = (m1.length : Int) := by rw [IntWalk.i64_in _ ⟨by omega, by omega⟩, HLEN.out]; omega
            have HW1 := Aside0.mk hw1
            clear hw1 HL HP4 HX4
            obtain ⟨K2, hK2⟩ : ∃ K2, keysM m2 = K2 := ⟨_, rfl⟩
            have HK2 := Aside0.mk hK2
            rw [hK2] at HT14 hk2
            clear hK2
            go_upto_region 26 with fail
            apply wp_region_grow (hm := by kernel_rfl) (hB := by kernel_rfl)
            case h =>
              apply grow_fixed (c := .bool true)
              case hw => simp [Region.wanted, yielded]
              case ho =>
                intro w' hb hf
                clear hf
                refine ⟨?_⟩
                go_simp
                exact ⟨Ext.refl _ _, by first | rfl | simp⟩
              simp only [Act.put, List.setIfInBounds_toArray, List.set_cons_zero, List.set_cons_succ]
              apply grow_fixed (c := .bool true)
              case hw => simp [Region.wanted, yielded]
              case ho =>
                intro w' hb hf
                clear hf
                refine ⟨?_⟩
                go_simp
                exact ⟨Ext.refl _ _, by first | rfl | simp⟩
              simp only [Act.put, List.setIfInBounds_toArray, List.set_cons_zero, List.set_cons_succ]
              apply grow_fixed (c := .bool true)
              case hw => simp [Region.wanted, yielded]
              case ho =>
                intro w' hb hf
                clear hf
                refine ⟨?_⟩
                go_simp
                exact ⟨Ext.refl _ _, by first | rfl | simp⟩
              simp only [Act.put, List.setIfInBounds_toArray, List.set_cons_zero, List.set_cons_succ]
              apply grow_fixed (c := .bool true)
              case hw => simp [Region.wanted, yielded]
              case ho =>
                intro w' hb hf
                clear hf
                refine ⟨?_⟩
                go_simp
                exact ⟨Ext.refl _ _, by first | rfl | simp⟩
              simp only [Act.put, List.setIfInBounds_toArray, List.set_cons_zero, List.set_cons_succ]
              apply grow_fixed (c := .bool true)
              case hw => simp [Region.wanted, yielded]
              case ho =>
                intro w' hb hf
                clear hf
                refine ⟨?_⟩
                go_simp
                exact ⟨Ext.refl _ _, by first | rfl | simp⟩
              simp only [Act.put, List.setIfInBounds_toArray, List.set_cons_zero, List.set_cons_succ]
              apply grow_fixed (c := .bool false)
              case hw => simp [Region.wanted, yielded]
              case ho =>
                intro w' hb hf
                clear hf
                refine ⟨?_⟩
                go_simp
                exact ⟨Ext.refl _ _, by first | rfl | simp⟩
              simp only [Act.put, List.setIfInBounds_toArray, List.set_cons_zero, List.set_cons_succ]
              apply grow_fixed (c := .bool true)
              case hw => simp [Region.wanted, yielded]
              case ho =>
                intro w' hb hf
                clear hf
                refine ⟨?_⟩
                go_simp
                exact ⟨Ext.refl _ _, by first | rfl | simp⟩
              simp only [Act.put, List.setIfInBounds_toArray, List.set_cons_zero, List.set_cons_succ]
              apply grow_fixed (c := .bool true)
              case hw => simp [Region.wanted, yielded]
              case ho =>
                intro w' hb hf
                clear hf
                refine ⟨?_⟩
                go_simp
                exact ⟨Ext.refl _ _, by first | rfl | simp⟩
              simp only [Act.put, List.setIfInBounds_toArray, List.set_cons_zero, List.set_cons_succ]
              apply grow_fixed (c := .bool true)
              case hw => simp [Region.wanted, yielded]
              case ho =>
                intro w' hb hf
                clear hf
                refine ⟨?_⟩
                go_simp
                exact ⟨Ext.refl _ _, by first | rfl | simp⟩
              simp only [Act.put, List.setIfInBounds_toArray, List.set_cons_zero, List.set_cons_succ]
              apply grow_fixed (c := .agg #[.int .i64 7, .int .i64 3, .string key, .int .i64 13, .int .i64 20])
              case hw => simp [Region.wanted, yielded]
              case ho =>
                intro w' hb hf
                clear hf
                have d0 := (HXW.out.grows hb).c0; have d1 := (HXW.out.grows hb).c1; have d2 := (HXW.out.grows hb).c2; have d3 := (HXW.out.grows hb).c3; have d4 := (HXW.out.grows hb).c4
                dsimp only [placeOf] at d0 d1 d2 d3 d4
                refine ⟨?_⟩
                go_simp
                exact ⟨Ext.refl _ _, by first | rfl | simp⟩
              simp only [Act.put, List.setIfInBounds_toArray, List.set_cons_zero, List.set_cons_succ]
              apply grow_fixed
              case hw => simp [Region.wanted, yielded]
              case ho =>
                intro w' hb hf
                clear hf
                refine ⟨?_⟩
                go_simp
                exact ⟨Ext.refl _ _, rfl⟩
              simp only [Act.put, List.setIfInBounds_toArray, List.set_cons_zero, List.set_cons_succ]
              apply grow_fixed (c := .agg #[.int .i64 7, .int .i64 3, .string key, .int .i64 13, .int .i64 20])
              case hw => simp [Region.wanted, yielded]
              case ho =>
                intro w' hb hf
                clear hf
                have HPL := Aside0.mk (place_calls w' key 7)
                refine ⟨?_⟩
                go_simp
                exact HPL.out.mono fun e w2 h => ⟨_, h.1, Ext.of_below hb.size h.2, rfl⟩
              simp only [Act.put, List.setIfInBounds_toArray, List.set_cons_zero, List.set_cons_succ]
              apply grow_fixed (c := .bool true)
              case hw => simp [Region.wanted, yielded]
              case ho =>
                intro w' hb hf
                clear hf
                refine ⟨?_⟩
                go_simp
                exact ⟨Ext.refl _ _, by first | rfl | simp⟩
              simp only [Act.put, List.setIfInBounds_toArray, List.set_cons_zero, List.set_cons_succ]
              apply grow_fixed (c := .bool true)
              case hw => simp [Region.wanted, yielded]
              case ho =>
                intro w' hb hf
                clear hf
                refine ⟨?_⟩
                go_simp
                exact ⟨Ext.refl _ _, by first | rfl | simp⟩
              simp only [Act.put, List.setIfInBounds_toArray, List.set_cons_zero, List.set_cons_succ]
              apply grow_fixed (c := .bool true)
              case hw => simp [Region.wanted, yielded]
              case ho =>
                intro w' hb hf
                clear hf
                refine ⟨?_⟩
                go_simp
                exact ⟨Ext.refl _ _, by first | rfl | simp⟩
              simp only [Act.put, List.setIfInBounds_toArray, List.set_cons_zero, List.set_cons_succ]
              apply grow_fixed
              case hw => simp [Region.wanted, yielded]
              case ho =>
                intro w' hb hf
                clear hf
                refine ⟨?_⟩
                go_simp
                exact ⟨Ext.refl _ _, rfl⟩
              simp only [Act.put, List.setIfInBounds_toArray, List.set_cons_zero, List.set_cons_succ]
              apply grow_fixed
              case hw => simp [Region.wanted, yielded]
              case ho =>
                intro w' hb hf
                clear hf
                refine ⟨?_⟩
                go_simp
                exact ⟨Ext.refl _ _, rfl⟩
              simp only [Act.put, List.setIfInBounds_toArray, List.set_cons_zero, List.set_cons_succ]
              apply grow_free (G := ToldS K2)
              case hw => simp [Region.wanted, yielded]
              case hm => exact ToldS.mono _
              case ho =>
                intro w' hb hf
                clear hf
                have HFR := Aside0.mk (p_list (HPW.out.grows hb).swap (by omega))
                rw [HK2.out] at HFR
                refine ⟨?_⟩
                go_simp
                refine HFR.out.mono ?_
                rintro e w2 ⟨v', rfl, hT, hQ, hg⟩
                exact ⟨_, rfl, Ext.of_below hb.size hg, hT⟩
              intro v137
              simp only [Act.put, List.setIfInBounds_toArray, List.set_cons_zero, List.set_cons_succ]
              apply grow_fixed (c := .bool true)
              case hw => simp [Region.wanted, yielded]
              case ho =>
                intro w' hb hf
                have h2 : ToldS K2 v137 w' := hf _ (List.Mem.head _) (by kernel_rfl)
                clear hf
                have HSM := Aside0.mk (same_calls (HT14.out.grows hb) h2 (by omega))
                clear h2
                refine ⟨?_⟩
                go_simp
                refine HSM.out.mono fun e w2 h => ?_
                obtain ⟨rfl, z, rfl⟩ := h
                exact ⟨_, rfl, Ext.of_below hb.size (drew_grows w' z), by simp⟩
              simp only [Act.put, List.setIfInBounds_toArray, List.set_cons_zero, List.set_cons_succ]
              apply grow_fixed (c := .bool true)
              case hw => simp [Region.wanted, yielded]
              case ho =>
                intro w' hb hf
                clear hf
                refine ⟨?_⟩
                go_simp
                exact ⟨Ext.refl _ _, by first | rfl | simp⟩
              simp only [Act.put, List.setIfInBounds_toArray, List.set_cons_zero, List.set_cons_succ]
              apply grow_fixed (c := .bool true)
              case hw => simp [Region.wanted, yielded]
              case ho =>
                intro w' hb hf
                clear hf
                refine ⟨?_⟩
                go_simp
                exact ⟨Ext.refl _ _, by first | rfl | simp⟩
              simp only [Act.put, List.setIfInBounds_toArray, List.set_cons_zero, List.set_cons_succ]
              apply grow_fixed
              case hw => simp [Region.wanted, yielded]
              case ho =>
                intro w' hb hf
                clear hf
                refine ⟨?_⟩
                go_simp
                exact ⟨Ext.refl _ _, rfl⟩
              simp only [Act.put, List.setIfInBounds_toArray, List.set_cons_zero, List.set_cons_succ]
              apply grow_fixed (c := .int .i64 m1.length)
              case hw => simp [Region.wanted, yielded]
              case ho =>
                intro w' hb hf
                clear hf
                have HMN := Aside0.mk (p_many (HPW.out.grows hb))
                refine ⟨?_⟩
                go_simp
                exact HMN.out.mono fun e w2 h => ⟨_, h.1, by rw [h.2]; exact Ext.refl _ _, rfl⟩
              simp only [Act.put, List.setIfInBounds_toArray, List.set_cons_zero, List.set_cons_succ]
              apply grow_fixed
              case hw => simp [Region.wanted, yielded]
              case ho =>
                intro w' hb hf
                clear hf
                refine ⟨?_⟩
                go_simp
                exact ⟨Ext.refl _ _, rfl⟩
              simp only [Act.put, List.setIfInBounds_toArray, List.set_cons_zero, List.set_cons_succ]
              apply grow_fixed (c := .int .i64 m2.length)
              case hw => simp [Region.wanted, yielded]
              case ho =>
                intro w' hb hf
                clear hf
                have HMN := Aside0.mk (p_many (HPW.out.grows hb).swap)
                refine ⟨?_⟩
                go_simp
                exact HMN.out.mono fun e w2 h => ⟨_, h.1, by rw [h.2]; exact Ext.refl _ _, rfl⟩
              simp only [Act.put, List.setIfInBounds_toArray, List.set_cons_zero, List.set_cons_succ]
              apply grow_fixed (c := .int .i64 m1.length)
              case hw => simp [Region.wanted, yielded]
              case ho =>
                intro w' hb hf
                clear hf
                have hw1 := HW1.out
                refine ⟨?_⟩
                go_simp
                exact ⟨Ext.refl _ _, by first | rfl | simp⟩
              simp only [Act.put, List.setIfInBounds_toArray, List.set_cons_zero, List.set_cons_succ]
              apply grow_fixed (c := .bool true)
              case hw => simp [Region.wanted, yielded]
              case ho =>
                intro w' hb hf
                clear hf
                refine ⟨?_⟩
                go_simp
                exact ⟨Ext.refl _ _, by first | rfl | simp⟩
              simp only [Act.put, List.setIfInBounds_toArray, List.set_cons_zero, List.set_cons_succ]
              apply grow_fixed (c := .bool true)
              case hw => simp [Region.wanted, yielded]
              case ho =>
                intro w' hb hf
                clear hf
                refine ⟨?_⟩
                go_simp
                exact ⟨Ext.refl _ _, by first | rfl | simp⟩
              simp only [Act.put, List.setIfInBounds_toArray, List.set_cons_zero, List.set_cons_succ]
              apply grow_fixed (c := .bool true)
              case hw => simp [Region.wanted, yielded]
              case ho =>
                intro w' hb hf
                clear hf
                refine ⟨?_⟩
                go_simp
                exact ⟨Ext.refl _ _, by first | rfl | simp⟩
              simp only [Act.put, List.setIfInBounds_toArray, List.set_cons_zero, List.set_cons_succ]
              refine grow_nil fun w' hb hf => ?_
              have HE := Aside0.mk (HPW.out.grows hb).below
              clear hf
              go_wp2
              go_ret
              exact ⟨rfl, HE.out⟩
            case hsp => exact ⟨ToldS.mono _, trivial⟩
end Go.Proofs.Ytomlnflblecpbaa
