/-
  The law KeysFrom.
-/
import Derived.Test.YtomlnflblecpbaaOrder
import Derived.Deep.CutBlock
import Derived.Deep.DeepCutAuto
namespace Go.Proofs.Ytomlnflblecpbaa
set_option linter.unusedVariables false
set_option linter.unusedSimpArgs false
open Go.RowKit Go.Proofs.YtomlnflblecpbaaW.PrintWords Go.Proofs.YtomlnflblecpbaaW.PrintMore PKeysPlays
attribute [local go_sem] max2_int min2_int
attribute [local go_sem high] eql32 neq32 guard32
theorem LSt.apps {W0 W : World} {v : Value} {xs ys : List ByteArray} {R : Nat → Prop} {A : Option Addr} {n c : Nat} (h : LSt W0 W v xs) (hT : ToldF R ys (.slice A n c) W) (hR : ∀ k, v.ownBlock = some k → ¬ R k) (hl : xs.length + ys.length ≤ 1000000) :
    ∃ v1 w1, (Builtin.append_ #[38, 38] 38 #[v, .slice A n c]).run Try.prog W = .ok v1 w1 ∧ LSt W0 w1 v1 (xs ++ ys) ∧ ToldF R ys (.slice A n c) w1 := by
  have hT0 := hT
  obtain ⟨A', c', e, hc, h1, h2⟩ := hT
  injection e with e1 e2 e3
  subst e1 e2 e3
  obtain ⟨i0, hi, hz0, hz1, hz2⟩ := parts3 info9
  rcases Nat.eq_zero_or_pos ys.length with h0 | h0
  · obtain rfl : ys = [] := List.eq_nil_of_length_eq_zero h0
    refine ⟨v, W, ?_, by rw [List.append_nil]; exact h, hT0⟩
    rcases h.own.2 with ⟨rfl, hn⟩ | ⟨g, cap, cur, rfl, _, _, hnc, _⟩
    · cases A <;> simp [Builtin.append_, run_underlying Try.underlying38, sizeOf, typeInfo, hi, Builtin.lenOf, Builtin.firstCells, storeCells, loadCells, loadCellsFrom]
    · cases A <;> simp [Builtin.append_, run_underlying Try.underlying38, sizeOf, typeInfo, hi, Builtin.lenOf, Builtin.firstCells, hnc, storeCells, loadCells, loadCellsFrom]
  · obtain ⟨ad, rfl, hcell⟩ := h1.2.2 h0
    obtain ⟨v1, w1, hr, h3, h4, _, h5⟩ := run_append_own_at (P := Try.prog) W W0.heap.size 38 38 9 i0 (.string ⟨#[]⟩) 1 16 Try.underlying38 hi hz0 hz1 hz2 rfl (by omega) v xs.length (strV xs) h.own ad ys.length c (strV ys) (by simp [strV])
      (fun j u hu => by
        unfold strV at hu
        rw [List.getElem?_map] at hu
        cases hy : ys[j]? with
        | none => rw [hy] at hu; cases hu
        | some y =>
          rw [hy] at hu
          obtain rfl := Option.some.inj hu
          obtain ⟨cs, q1, q2, q3⟩ := hcell j y hy
          have := q3 0 (.string y) (by rw [show cs = [Value.string y] from q2]; rfl)
          rw [show j * Kd.string.sz + 0 = j by show j * 1 + 0 = j; omega] at this
          exact this)
      (fun u hu => by unfold strV at hu; obtain ⟨y, _, rfl⟩ := List.mem_map.1 hu; rfl) (by simp only [maxLen]; omega) (by omega) h.g.size
    refine ⟨v1, w1, hr, ⟨pw_below_grown h.g v.ownBlock h.g.size h4 fun j e => own_ge h.own j e, ?_⟩, hT0.keep fun k hk hlt => h4.block k hlt fun e => hR k e.symm hk⟩
    rw [show (xs ++ ys).length = xs.length + ys.length by simp, show strV (xs ++ ys) = strV xs ++ strV ys by simp [strV]]
    exact h3
theorem fromK_take {K : List ByteArray} {key : ByteArray} {i : Nat} (hi : i < K.length) : fromK (K.take (i + 1)) key = fromK (K.take i) key ++ (if klt K[i] key = true then [] else [K[i]]) := by
  unfold fromK
  rw [List.take_succ_eq_append_getElem hi, List.filter_append, List.filter_cons, List.filter_nil]
  cases h : klt K[i] key <;> simp
theorem next_eq (x : ByteArray) : x ++ (⟨#[0]⟩ : ByteArray) = next0 x := by
  unfold next0
  apply ByteArray.ext
  simp
/-- Page by page. -/
theorem page {K : List ByteArray} (h : K.Pairwise fun a b => klt a b = true) {F : List ByteArray} {fr : ByteArray} {t step : Nat} (hs : 0 < step) (hf : fromK K fr = F.drop t) (hx : t + step ≤ F.length) :
    ∃ hlt : step - 1 < ((fromK K fr).take step).length, fromK K (next0 ((fromK K fr).take step)[step - 1]) = F.drop (t + step) := by
  have hl : step - 1 < (fromK K fr).length := by rw [hf, List.length_drop]; omega
  have hlt : step - 1 < ((fromK K fr).take step).length := by rw [List.length_take]; omega
  refine ⟨hlt, ?_⟩
  have hn := from_next h hl
  have e : ((fromK K fr).take step)[step - 1] = (fromK K fr)[step - 1] := List.getElem_take
  rw [e]
  have h2 : (fromK K fr).drop step = fromK K (next0 (fromK K fr)[step - 1]) := by
    conv => lhs; rw [hn]
    rw [show step - 1 + 1 = step by omega]
    rw [List.drop_append_of_le_length (by rw [List.length_take]; omega), List.drop_eq_nil_of_le (by rw [List.length_take]; omega), List.nil_append]
  rw [← h2, hf, List.drop_drop]
set_option maxRecDepth 100000 in
set_option maxHeartbeats 8000000 in
theorem from_law_calls (w : World) {A1 : Option Addr} {c1 : Nat} (l : List S34) (key : ByteArray) (n : Nat) (hn : n < 256) (hr : Kd.C k34 w A1 l.length l) (hc1 : l.length ≤ c1) (hl : l.length ≤ 4611686018427387904) :
    Calls Try.prog 6 #[.slice A1 l.length c1, .string key, .int .u8 n] w fun e w' => e = .returned (.bool true) ∧ Below w.heap.size w w' := by
  obtain ⟨kg, rg, hgr, hgf⟩ := great_tells l hl
  have HR := Aside0.mk hr
  have HGR := Aside0.mk hgr
  have HGF := Aside0.mk hgf
  clear hr hgr hgf
  go_enter Try.func6, Try.ntmps6
  have hu : IntKind.i64.wrap (n : Int) = n := IntWalk.i64_in _ ⟨by omega, by omega⟩
  have hu1 : IntKind.i64.wrap (1 + (n : Int)) = ((n + 1 : Nat) : Int) := by rw [IntWalk.i64_in _ ⟨by omega, by omega⟩]; omega
  go_upto_region 3 with (first
    | (go_at_call 9; refine (head_calls _).mono ?_; rintro e w1 ⟨rfl, hb⟩; have HB := Aside0.mk hb; clear hb)
    | (go_at_call 10; refine (p_new (p_start HB.out)).mono ?_; rintro e w2 ⟨d, rfl, hP⟩; have HP := Aside0.mk hP; clear hP HB))
  cases rg with
  | true =>
    go_wp2_with (go_at_call 12; refine (souterrainlaw13_great.calls kg A1 c1 l true _ (Kd.C_below HR.out HP.out.below) hc1 HGR.out).mono ?_; rintro e w3 ⟨rfl, hb2⟩; have HP2 := Aside0.mk (HP.out.grows hb2); clear hb2 HP)
    go_ret
    exact ⟨rfl, HP2.out.below⟩
  | false =>
    have HKS := Aside0.mk (HGF.out rfl).1
    have hl3 := (HGF.out rfl).2
    clear HGF
    by_cases hk : 900 < (key.size : Int)
    · have hkd : decide (900 < (key.size : Int)) = true := decide_eq_true hk
      clear hk
      go_wp2_with (go_at_call 12; refine (souterrainlaw13_great.calls kg A1 c1 l false _ (Kd.C_below HR.out HP.out.below) hc1 HGR.out).mono ?_; rintro e w3 ⟨rfl, hb2⟩; have HP2 := Aside0.mk (HP.out.grows hb2); clear hb2 HP)
      go_ret
      exact ⟨rfl, HP2.out.below⟩
    · have hkd : decide (900 < (key.size : Int)) = false := decide_eq_false hk
      clear hk
      go_upto_region 5 with (go_at_call 12; refine (souterrainlaw13_great.calls kg A1 c1 l false _ (Kd.C_below HR.out HP.out.below) hc1 HGR.out).mono ?_; rintro e w3 ⟨rfl, hb2⟩; have HP2 := Aside0.mk (HP.out.grows hb2); clear hb2 HP)
      go_upto_block 0 with fail
      go_cut [9] (fun v9 wc => ∃ (m : List Pl), m.length ≤ 300 ∧ Aside0 (∀ q ∈ m, q.key.size ≤ 9000) ∧ Aside0 (P2 (dirB d m) noB (fun _ => False) w wc))
      case first =>
        go_wp2
        go_loopg [9] l.length (fun f v9 wr => ∃ (i : Nat) (m : List Pl), Aside0 (f + i = l.length) ∧ i ≤ l.length ∧ v9 = .int .i64 i ∧ m.length ≤ i ∧ Aside0 (∀ q ∈ m, q.key.size ≤ 9000) ∧ Aside0 (P2 (dirB d m) noB (fun _ => False) w wr))
        case atStart => exact ⟨0, [], ⟨by omega⟩, by omega, rfl, by simp, ⟨fun q hq => by cases hq⟩, HP2⟩
        case round =>
          clear HP2
          obtain ⟨i, m, HF, hi, rfl, hml, HQS, HS⟩ := hrel
          by_cases hlt : i < l.length
          · obtain ⟨ad, rfl, ho⟩ := op_at HR.out HS.out.below hlt
            have HKL := Aside0.mk (HKS.out _ (List.getElem_mem hlt))
            obtain ⟨h0, h1, h2, h3, h4, h5, h6⟩ := ho
            generalize l[i] = x at h0 h1 h2 h3 h4 h5 h6 HKL
            clear h6 h0
            generalize hpo : opPl x = po at *
            clear hpo
            obtain ⟨ps, pk, py, pa, pz⟩ := po
            dsimp only at h1 h2 h3 h4 h5 HKL
            have HLP := Aside0.mk (put_length_le m (⟨ps, pk, py, pa, pz⟩ : Pl))
            have HD := Aside0.mk (p_put HS.out (⟨ps, pk, py, pa, pz⟩ : Pl) (by have := HKL.out; show py.size ≤ _; omega) (by omega))
            go_wp2_with (go_at_call 20; refine HD.out.mono ?_; clear HD; rintro e w8 ⟨rfl, hP, hK⟩; have HS8 := Aside0.mk hP; clear hP hK)
            go_roundg (l.length - (i + 1))
            case measure => have := HF.out; omega
            case rel => exact ⟨i + 1, putM m (⟨ps, pk, py, pa, pz⟩ : Pl), ⟨by omega⟩, by omega, by go_num, by have := HLP.out; omega, ⟨fun q hq => by
              rcases mem_putM.1 hq with rfl | hq
              · exact HKL.out
              · exact HQS.out q hq.1⟩, HS8⟩
          · go_wp2
            go_meet
            case rel => exact ⟨m, by omega, HQS, HS⟩
      case rest =>
        obtain ⟨m, hm, HQS, HS⟩ := hcut
        clear HP2
        have HYS := Aside0.mk (show ∀ k ∈ keysM m, k.size ≤ 9000 from fun k hk => by
          unfold keysM at hk
          obtain ⟨p, hp, rfl⟩ := List.mem_map.1 hk
          exact HQS.out p hp)
        have hkl : (keysM m).length ≤ 300 := by unfold keysM; rw [List.length_map]; exact hm
        have HML := Aside0.mk (show (keysM m).length = m.length by unfold keysM; rw [List.length_map])
        have HKO := Aside0.mk (keysM_sorted HS.out.sorted)
        obtain ⟨K, hK⟩ : ∃ K, keysM m = K := ⟨_, rfl⟩
        have HKE := Aside0.mk hK
        rw [hK] at HYS hkl HML HKO
        clear hK HQS
        obtain ⟨F, hF⟩ : ∃ F, fromK K key = F := ⟨_, rfl⟩
        have HFE := Aside0.mk hF
        have hfl : F.length ≤ K.length := by rw [← hF]; exact from_le K key
        have HYF := Aside0.mk (show ∀ k ∈ F, k.size ≤ 9000 from fun k hk => HYS.out k (by rw [← hF] at hk; exact (List.mem_filter.1 hk).1))
        clear hF
        go_upto_region 12 with fail
        clear hu hu1
        go_upto_block 2 with fail
        go_cut [10, 11, 13] (fun v10 v11 v13 wc2 => Aside0 (LSt wc wc2 v10 F))
        case first =>
          go_wp2
          go_loopg [10, 11, 13, 14] (K.length + 1) (fun f v10 v11 v13 v14 wr => ∃ (i t : Nat) (fr : ByteArray), Aside0 (f + i = K.length + 1) ∧ i ≤ K.length ∧ v13 = .int .i64 i ∧ v11 = .string fr ∧ Aside0 (i ≤ t ∧ t ≤ F.length ∧ fromK K fr = F.drop t) ∧ Aside0 (LSt wc wr v10 (F.take t)))
          case atStart => exact ⟨0, 0, key, ⟨by omega⟩, by omega, rfl, rfl, ⟨Nat.le_refl _, Nat.zero_le _, by rw [HFE.out]; rfl⟩, ⟨Grows.refl _, own_nil _ _ _ _⟩⟩
          case round =>
            obtain ⟨i, t, fr, HF, hi, rfl, rfl, HPG, HL⟩ := hrel
            have HS2 := Aside0.mk (HS.out.grows HL.out.g)
            have HM := Aside0.mk (p_many HS2.out)
            rw [← HML.out] at HM
            have hle : decide ((i : Int) ≤ (K.length : Int)) = true := decide_eq_true (by omega)
            have HFR := Aside0.mk (HS2.out.see1 fun O1 h1 => from_calls h1 (by omega) fr ((n + 1 : Nat) : Int))
            rw [HKE.out, HPG.out.2.2, Int.toNat_natCast] at HFR
            obtain ⟨X, hX⟩ : ∃ X, (F.drop t).take (n + 1) = X := ⟨_, rfl⟩
            rw [hX] at HFR
            have hxl : X.length = min (n + 1) (F.length - t) := by rw [← hX, List.length_take, List.length_drop]
            have HXE := Aside0.mk hX
            have HXL := Aside0.mk hxl
            clear hX hxl
            have HBL := Aside0.mk (fun k (hk : u10.ownBlock = some k) => own_lt HL.out.own k hk)
            go_upto_region 16 with (first
              | (go_at_call 22; refine HM.out.mono ?_; clear HM; rintro e w5 ⟨rfl, rfl⟩)
              | (go_at_call 18; refine HFR.out.mono ?_; clear HFR; rintro e w5 ⟨v14, rfl, hT, hg⟩; obtain ⟨A14, c14, rfl, _⟩ := id hT; have HT := Aside0.mk hT; have HL5 := Aside0.mk (LSt.grows HL.out hg); clear hT hg))
            have hgt : decide ((n : Int) + 1 < (X.length : Int)) = false := decide_eq_false (by have := HXL.out; omega)
            obtain ⟨v4, w4, hr, hL4, hT4⟩ := HL5.out.apps HT.out (fun k hk hR => by have := HBL.out k hk; omega) (by have := HXL.out; rw [List.length_take]; omega)
            have HL4 := Aside0.mk hL4
            have HT4 := Aside0.mk hT4
            clear hL4 hT4
            go_upto_region 19 with (at_builtin; refine wpList_appendE (.tmp 67) (.tmp 68) 38 rfl rfl rfl rfl ⟨_, _, hr, ?_⟩; clear hr)
            clear hgt
            by_cases hfull : X.length = n + 1
            · have hlt2 : decide ((X.length : Int) < (n : Int) + 1) = false := decide_eq_false (by omega)
              have htl : t + (n + 1) ≤ F.length := by have := HXL.out; omega
              obtain ⟨hp1, hp2⟩ := page HKO.out (Nat.succ_pos n) HPG.out.2.2 htl
              have e1 : (fromK K fr).take (n + 1) = X := by rw [HPG.out.2.2, HXE.out]
              obtain ⟨ad, ea, hcell⟩ := told_at HT4.out.told (show n < X.length by omega)
              obtain ⟨y, hy⟩ : ∃ y, X[n]'(by omega) = y := ⟨_, rfl⟩
              rw [hy] at hcell
              have hny : ((fromK K fr).take (n + 1))[n + 1 - 1]'hp1 = y := by
                rw [← hy]
                simp only [e1]
                rfl
              rw [hny] at hp2
              have hys : y.size ≤ 9000 := by
                refine HYF.out y ?_
                have : y ∈ X := by rw [← hy]; exact List.getElem_mem _
                rw [← HXE.out] at this
                exact List.mem_of_mem_drop (List.mem_of_mem_take this)
              have HP2' := Aside0.mk hp2
              have hw1 : IntKind.i64.wrap ((X.length : Int) - 1) = (n : Int) := by rw [IntWalk.i64_in _ ⟨by omega, by omega⟩]; omega
              have hsz : (y.size : Int) + 1 ≤ 9223372036854775807 := by omega
              clear hp2 hny hp1 e1 hy
              subst ea
              go_wp2
              go_roundg (K.length + 1 - (i + 1))
              case measure => have := HF.out; omega
              case rel =>
                refine ⟨i + 1, t + (n + 1), next0 y, ⟨by have := HPG.out.1; omega⟩, by have := HPG.out.1; omega, by go_num, by rw [← next_eq], ⟨by have := HPG.out.1; omega, htl, HP2'.out⟩, ⟨?_⟩⟩
                rw [List.take_add, HXE.out]; exact HL4.out
            · have hlt2 : decide ((X.length : Int) < (n : Int) + 1) = true := decide_eq_true (by have := HXL.out; omega)
              have HFIN := Aside0.mk (show LSt wc w4 v4 F by
                have h := HL4.out
                rw [← HXE.out, List.take_of_length_le (show (F.drop t).length ≤ n + 1 by have := HXL.out; rw [List.length_drop]; omega), List.take_append_drop] at h
                exact h)
              go_wp2
              go_meet
              case rel => exact HFIN
        case rest =>
          have HL2 := hcut
          clear hcut
          have HS2 := Aside0.mk (HS.out.grows HL2.out.g)
          have HT10 := Aside0.mk (own_told HL2.out.own)
          have HPL := Aside0.mk (by have := p_list HS2.out (by omega); rw [HKE.out] at this; exact this)
          clear HS
          go_upto_region 23 with (go_at_call 24; refine HPL.out.mono ?_; clear HPL; rintro e w4 ⟨v16, rfl, hT, hP, hg⟩; obtain ⟨A16, c16, rfl, hc16, _⟩ := id hT; have HT16 := Aside0.mk hT; have HS4 := Aside0.mk hP; have HT104 := Aside0.mk (HT10.out.grows hg); clear hT hP hg HS2 HT10)
          go_wp2
          go_loopg [15, 17] K.length (fun f v15 v17 wr => ∃ (i : Nat), Aside0 (f + i = K.length) ∧ i ≤ K.length ∧ v17 = .int .i64 i ∧ Aside0 (LSt w4 wr v15 (fromK (K.take i) key)))
          case atStart => exact ⟨0, ⟨by omega⟩, by omega, rfl, ⟨Grows.refl _, own_nil _ _ _ _⟩⟩
          case round =>
            obtain ⟨i, HF, hi, rfl, HL⟩ := hrel
            by_cases hlt : i < K.length
            · obtain ⟨ad, ea, hcell⟩ := told_at (HT16.out.grows HL.out.g) hlt
              have HFT := Aside0.mk (fromK_take (key := key) hlt)
              obtain ⟨y, hy⟩ : ∃ y, K[i] = y := ⟨_, rfl⟩
              rw [hy] at hcell HFT
              clear hy
              subst ea
              have hlen := from_le (K.take i) key
              rw [List.length_take] at hlen
              cases hkb : Op.bytesLess y.toList key.toList with
              | true =>
                have HKB := Aside0.mk (show klt y key = true from hkb)
                go_wp2
                go_roundg (K.length - (i + 1))
                case measure => have := HF.out; omega
                case rel => exact ⟨i + 1, ⟨by omega⟩, by omega, by go_num, ⟨by rw [HFT.out, if_pos HKB.out, List.append_nil]; exact HL.out⟩⟩
              | false =>
                have HKB := Aside0.mk (show ¬ klt y key = true by unfold klt; rw [hkb]; decide)
                obtain ⟨v4, w5, hr, hL5⟩ := HL.out.app y (by omega)
                have HL5 := Aside0.mk hL5
                clear hL5
                go_wp2_with (at_builtin; refine wpList_appendE (.tmp 95) (.tmp 100) 38 rfl rfl rfl rfl ⟨_, _, hr, ?_⟩; clear hr)
                go_roundg (K.length - (i + 1))
                case measure => have := HF.out; omega
                case rel => exact ⟨i + 1, ⟨by omega⟩, by omega, by go_num, ⟨by rw [HFT.out, if_neg HKB.out]; exact HL5.out⟩⟩
            · obtain rfl : i = K.length := by omega
              have HTW := Aside0.mk (show ToldS F u15 wr by have := own_told HL.out.own; rw [List.take_length, HFE.out] at this; exact this)
              have HTG := Aside0.mk (HT104.out.grows HL.out.g)
              have HSW := Aside0.mk (HS4.out.grows HL.out.g)
              have HN1 := Aside0.mk (by have := same_calls HTG.out HTW.out (by omega); rw [decide_eq_true rfl] at this; exact this)
              obtain ⟨A15, c15, rfl, _⟩ := id HTW.out
              go_wp2_with (first
                | (go_at_call 17; (first | (with_reducible refine HN1.out.mono ?_; clear HN1; rintro e w6 ⟨rfl, q6, rfl⟩; have HFR := Aside0.mk (by have := p_from (HSW.out.grows (drew_grows _ q6)) (by omega) key 1099511627776; rw [HKE.out, HFE.out, List.take_of_length_le (by omega)] at this; exact this)) | (with_reducible refine HN2.out.mono ?_; clear HN2; rintro e w9 ⟨rfl, q9, rfl⟩)))
                | (go_at_call 18; refine HFR.out.mono ?_; clear HFR; rintro e w7 ⟨v7, rfl, hT, hP, hg⟩; have HN2 := Aside0.mk (by have := same_calls hT ((HTW.out.grows (drew_grows _ q6)).grows hg) (by omega); rw [decide_eq_true rfl] at this; exact this); have HE := Aside0.mk hP.below; obtain ⟨A7, c7, rfl, _⟩ := id hT; clear hT hP hg))
              go_ret
              exact ⟨rfl, pw_below_drewN HE.out q9⟩
end Go.Proofs.Ytomlnflblecpbaa
