/-
  Layer 6: CutPlays' function.
-/
import Derived.Test.YtoaokmlpeijepaaRefWrite
import Derived.Test.YtoaokmlpeijepaaGreat
namespace Go.Proofs.Ytoaokmlpeijepaa
set_option linter.unusedVariables false
set_option linter.unusedSimpArgs false
open Go.RowKit Go.Proofs.YtoaokmlpeijepaaW.PrintWords Go.Proofs.YtoaokmlpeijepaaW.PrintMore
open PCutPlays (S31 k31 souterrainlaw06_great.f souterrainlaw06_great.l0 rd_T31 z31 at_T31)

def tot (l : List S31) : Nat := (l.map fun x => x.f1.length).sum
theorem great_l (l : List S31) (hl : l.length ≤ 4611686018427387904) : ∀ (d : Nat) (i : Nat) (n : Nat) (k : Nat), i + d = l.length → d < k → n ≤ 4611686018427387904 → ∃ r, souterrainlaw06_great.l0 k l (n : Int) (i : Int) = some r ∧ (r = false → n + tot (l.drop i) < 20000)
  | 0, i, n, k, hd, hk, hn => by
    obtain ⟨k, rfl⟩ : ∃ m, k = m + 1 := ⟨k - 1, by omega⟩
    refine ⟨decide ((n : Int) ≥ 20000), ?_, fun h => ?_⟩
    · simp only [souterrainlaw06_great.l0]
      rw [if_neg (by omega)]
    · rw [List.drop_eq_nil_of_le (by omega)]
      simp [tot] at h ⊢
      omega
  | d + 1, i, n, k, hd, hk, hn => by
    obtain ⟨k, rfl⟩ : ∃ m, k = m + 1 := ⟨k - 1, by omega⟩
    have hi : i < l.length := by omega
    by_cases hlt : n < 20000
    · have hrd : rd_T31 l (i : Int) = l[i] := by simp [rd_T31, List.getD_eq_getElem?_getD, List.getElem?_eq_getElem hi]
      have hmn : n + min l[i].f1.length 20000 ≤ 40000 := by omega
      obtain ⟨r, hr, hf⟩ := great_l l hl d (i + 1) (n + min l[i].f1.length 20000) k (by omega) (by omega) (by omega)
      refine ⟨r, ?_, fun h => ?_⟩
      · simp only [souterrainlaw06_great.l0]
        rw [if_pos (by omega), if_pos (by omega), if_pos (by omega), hrd]
        have e1 : wrap64 ((n : Int) + mn (l[i].f1.length : Int) 20000) = ((n + min l[i].f1.length 20000 : Nat) : Int) := by
          have : mn (l[i].f1.length : Int) 20000 = ((min l[i].f1.length 20000 : Nat) : Int) := by unfold mn; omega
          rw [this, IntWalk.wrap64_in _ ⟨by omega, by omega⟩]; omega
        have e2 : wrap64 ((i : Int) + 1) = ((i + 1 : Nat) : Int) := by rw [IntWalk.wrap64_in _ ⟨by omega, by omega⟩]; omega
        rw [e1, e2]; exact hr
      · have h1 := hf h
        have h2 : tot (l.drop i) = l[i].f1.length + tot (l.drop (i + 1)) := by
          unfold tot
          rw [List.drop_eq_getElem_cons hi, List.map_cons, List.sum_cons]
        rw [h2]
        omega
    · refine ⟨decide ((n : Int) ≥ 20000), ?_, fun h => ?_⟩
      · simp only [souterrainlaw06_great.l0]
        rw [if_pos (by omega), if_neg (by omega)]
      · simp at h; omega
theorem great_tells (l : List S31) (hl : l.length ≤ 4611686018427387904) : ∃ k r, souterrainlaw06_great.f k l = some r ∧ (r = false → tot l < 20000) := by
  obtain ⟨r, hr, hf⟩ := great_l l hl l.length 0 l.length (l.length + 1) (by omega) (by omega) hl
  exact ⟨l.length + 1, r, hr, fun h => by have := hf h; simp at this; omega⟩
theorem RCut.far {W W' : World} {g g' : Nat} {e' all' : Int} {L' : List Int} (h : RCut W g' e' all' L') (hg : W.grownBy W' (some g)) (hne : g ≠ g') : RCut W' g' e' all' L' :=
  (hg.block g' h.lt (fun e => by injection e with e; omega)).trans h
theorem Stays.rcut {n0 : Nat} {W W' : World} {g : Nat} {e all : Int} {M : List Int} (hc : RCut W g e all M) (hg : W.grownBy W' (some g)) : Stays n0 W W' := fun k cs t _ hk ht => (hg.block k (lt_heap hk) fun e => by
  injection e with e
  subst e
  unfold RCut at hc
  rw [hc] at hk
  injection hk with hk
  injection hk with _ h2
  subst h2
  rcases ht with h | h <;> cases h).trans hk
theorem CutAt.rfar {W W' : World} {g g' : Nat} {e e' all all' : Int} {A' : Option Addr} {c' : Nat} {L L' : List Int} (h : CutAt W g' e' all' A' c' L') (hx : RCut W g e all L) (hg : W.grownBy W' (some g)) (hne : g ≠ g') : CutAt W' g' e' all' A' c' L' :=
  h.step (hg.block g' h.lt (fun e => by injection e with e; omega)) (fun k cs hk => (Stays.rcut (n0 := 0) hx hg) k cs 5 (Nat.zero_le _) hk (.inl rfl))
theorem Left.stays {W W' : World} {A : Option Addr} {L : List Int} (h : Left W A L) (hs : Stays 0 W W') : Left W' A L := h.step fun b cs hb => hs b cs 5 (Nat.zero_le _) hb (.inl rfl)

set_option maxRecDepth 100000 in
set_option maxHeartbeats 4000000 in
theorem plays_calls (size : Int) (A1 : Option Addr) (c1 : Nat) (l : List S31) (w : World) (hr : Kd.C k31 w A1 l.length l) (hc1 : l.length ≤ c1) (hl : l.length ≤ 4611686018427387904) (hu : ∀ x ∈ l, u8s x.f1) :
    Calls Try.prog 3 #[.int .i64 size, .slice A1 l.length c1] w fun e w' => e = .returned (.bool true) ∧ Below w.heap.size w w' := by
  obtain ⟨kg, rg, hgr, hgf⟩ := great_tells l hl
  have HR := Aside0.mk hr
  have HU := Aside0.mk hu
  have HGR := Aside0.mk hgr
  have HGF := Aside0.mk hgf
  clear hr hu hgr hgf
  go_enter Try.func3, Try.ntmps3
  go_upto_region 2 with (go_at_call 8; refine (head_calls _).mono ?_; rintro e w1 ⟨rfl, hb1⟩; have HB1 := Aside0.mk hb1; clear hb1)
  cases rg with
  | true =>
    go_wp2_with (go_at_call 9; refine (PCutPlays.souterrainlaw06_great.calls kg A1 c1 l true _ (Kd.C_below HR.out HB1.out) hc1 HGR.out).mono ?_; rintro e w2 ⟨rfl, hb2⟩; have HB2 := Aside0.mk (below_then HB1.out HB1.out.size hb2); clear hb2)
    go_ret
    exact ⟨rfl, HB2.out⟩
  | false =>
    have HTOT := Aside0.mk (HGF.out rfl)
    by_cases hsz : 1 ≤ size ∧ size ≤ 4096
    · obtain ⟨each, rfl⟩ : ∃ each : Nat, size = (each : Int) := ⟨size.toNat, by omega⟩
      have hx1 : 1 ≤ each := by omega
      have hx2 : each ≤ 4096 := by omega
      clear hsz
      go_upto_region 4 with (go_at_call 9; refine (PCutPlays.souterrainlaw06_great.calls kg A1 c1 l false _ (Kd.C_below HR.out HB1.out) hc1 HGR.out).mono ?_; rintro e w2 ⟨rfl, hb2⟩; have HB2 := Aside0.mk (below_then HB1.out HB1.out.size hb2); clear hb2)
      go_upto_region 5 with (go_at_call 10; refine (new_calls each _ (by omega) (by omega)).mono ?_; rintro e w3 ⟨g, rfl, hg0, hc3, hb3⟩; have HG0 := Aside0.mk (show w.heap.size ≤ g from hg0 ▸ HB2.out.size); have HC3 := Aside0.mk hc3; have HB3 := Aside0.mk (below_then HB2.out HB2.out.size hb3); clear hg0 hc3 hb3)
      go_upto_region 6 with (go_at_call 11; refine (rnew_calls each _ (by omega) (by omega)).mono ?_; rintro e w4 ⟨g', rfl, hg0, hc4, hb4⟩; have HNE := Aside0.mk (show g < g' from by have := HC3.out.lt; omega); have HG0' := Aside0.mk (show w.heap.size ≤ g' from hg0 ▸ HB3.out.size); have HR4 := Aside0.mk hc4; have HC4 := Aside0.mk (HC3.out.below hb4); have HB4 := Aside0.mk (below_then HB3.out HB3.out.size hb4); clear hg0 hc4 hb4 HC3)
      go_upto_block 1 with fail
      have HT0 := Aside0.mk (show 0 + tot (l.drop 0) < 20000 by have := HTOT.out; simpa using this)
      go_loopg [8, 9, 10, 11, 12] l.length (fun f v8 v9 v10 v11 v12 wz => ∃ (i T : Nat) (L : List Int) (A : Option Addr) (c : Nat), Aside0 (f + i = l.length) ∧ i ≤ l.length ∧ v8 = .int .i64 i ∧ T ≤ 20000 ∧ Aside0 (T + tot (l.drop i) < 20000) ∧ Aside0 (L.length ≤ T) ∧ Aside0 (u8s L) ∧ Aside0 (CutAt wz g each T A c L) ∧ Aside0 (RCut wz g' each T L) ∧ Aside0 (Below w.heap.size w wz))
      case atStart => exact ⟨0, 0, [], none, 0, ⟨rfl⟩, by omega, rfl, by omega, HT0, ⟨by simp⟩, ⟨fun x hx => by simp at hx⟩, HC4, HR4, HB4⟩
      case round =>
        obtain ⟨i, T, L, A, c, HF, hi, rfl, hT, HTT, HLT, HUL, HC, HRC, HB⟩ := hrel
        by_cases hlt : i < l.length
        · obtain ⟨ad, B1, b1, rfl, h0, h1, _, hC⟩ := at_T31 HR.out (i : Int) (by omega) (by omega)
          rw [Int.toNat_natCast] at h0 h1
          have HX := Aside0.mk (show rd_T31 l (i : Int) = l[i] by simp [rd_T31, List.getD_eq_getElem?_getD, List.getElem?_eq_getElem hlt])
          have HUX := Aside0.mk (show u8s (rd_T31 l (i : Int)).f1 by rw [HX.out]; exact HU.out _ (List.getElem_mem hlt))
          have HTX := Aside0.mk (show T + (rd_T31 l (i : Int)).f1.length + tot (l.drop (i + 1)) < 20000 by
            have h := HTT.out
            rw [List.drop_eq_getElem_cons hlt] at h
            rw [HX.out]
            unfold tot at h ⊢
            rw [List.map_cons, List.sum_cons] at h
            omega)
          clear HX
          generalize rd_T31 l (i : Int) = x at h0 h1 hC HUX HTX
          obtain ⟨what, b⟩ := x
          simp only at h0 h1 hC HUX HTX
          have HRD := Aside0.mk (readsU8 hC)
          obtain ⟨bl, hbl⟩ : ∃ bl, bl = b.length := ⟨_, rfl⟩
          have HBL := Aside0.mk hbl
          rw [← hbl] at h1 HRD
          have hbl2 : T + bl < 20000 := by have := HTX.out; omega
          have H0 := Aside0.mk h0
          have H1 := Aside0.mk h1
          clear h0 h1 hC hbl
          have k0 := pw_cell_below HB.out H0.out
          have k1 := pw_cell_below HB.out H1.out
          by_cases h3 : what = 3
          · subst h3
            go_upto_region 12 with fail
            go_upto_region 13 with (go_at_call 12; refine (rest_calls g each T A c L wr HC.out).mono ?_; rintro e w5 ⟨rfl, hc5, hg5, hl5⟩; have HC5 := Aside0.mk hc5; have HG5 := Aside0.mk hg5; have HL5 := Aside0.mk hl5; clear hc5 hg5 hl5)
            have HR5 := Aside0.mk (HRC.out.far HG5.out (by have := HNE.out; omega))
            have HB5 := Aside0.mk (below_far HB.out HG5.out HG0.out)
            go_upto_region 14 with (go_at_call 13; refine (rrest_calls g' each T L w5 HR5.out HUL.out).mono ?_; rintro e w6 ⟨b6, c6, rfl, hrow6, hr6, hg6⟩; have HW6 := Aside0.mk hrow6; have HR6 := Aside0.mk hr6; have HG6 := Aside0.mk hg6; clear hrow6 hr6 hg6)
            have HC6 := Aside0.mk (HC5.out.rfar HR5.out HG6.out (by have := HNE.out; omega))
            have HL6 := Aside0.mk (HL5.out.stays (Stays.rcut HR5.out HG6.out))
            have HB6 := Aside0.mk (below_far HB5.out HG6.out HG0'.out)
            have hL9 : L.length ≤ 9223372036854775807 := by have := HLT.out; omega
            have hca := conv_str (HL6.out.reads hL9) c
            have hcb := conv_str (HW6.out.reads hL9) c6
            clear k0 k1
            go_wp2_with (first
              | (go_at_call 17; refine (size_calls g each T none 0 [] _ HC6.out).mono ?_; rintro e w' ⟨rfl, hww⟩; replace hww := hww.symm; subst hww)
              | (go_at_call 18; refine (rsize_calls g' each T [] _ HR6.out).mono ?_; rintro e w' ⟨rfl, hww⟩; replace hww := hww.symm; subst hww)
              | (go_at_call 19; refine (left_calls g each T none 0 [] _ HC6.out).mono ?_; rintro e w' ⟨rfl, hww⟩; replace hww := hww.symm; subst hww)
              | (go_at_call 20; refine (rleft_calls g' each T [] _ HR6.out).mono ?_; rintro e w' ⟨rfl, hww⟩; replace hww := hww.symm; subst hww))
            go_roundg (l.length - (i + 1))
            case measure => have := HF.out; omega
            case rel => exact ⟨i + 1, T, [], none, 0, ⟨by have := HF.out; omega⟩, by omega, by go_num, by omega, ⟨by have := HTX.out; omega⟩, ⟨by simp⟩, ⟨fun x hx => by simp at hx⟩, HC6, HR6, HB6⟩
          · have hd3 : (what == 3) = false := by simpa using h3
            have hLb : L.length + bl ≤ 100000 := by have := HLT.out; omega
            have hLb2 : (L.length + bl) * 24 ≤ 140737488355328 := by omega
            have HLB := Aside0.mk hLb
            have HLB2 := Aside0.mk hLb2
            clear hLb hLb2
            go_upto_region 16 with fail
            go_upto_region 17 with (go_at_call 14; refine (write_calls g each T A c L B1 bl b1 b wr HC.out (HRD.out.below HB.out) hx1 hx2 HLB2.out (by omega) (by omega)).mono ?_; rintro e w5 ⟨v5, xs, rfl, hrow, hout, hlt5, hg5⟩; have HROW := Aside0.mk hrow; have HOUT := Aside0.mk hout; have HLT5 := Aside0.mk hlt5; have HG5 := Aside0.mk hg5; clear hrow hout hlt5 hg5)
            have HR5 := Aside0.mk (HRC.out.far HG5.out (by have := HNE.out; omega))
            have HB5 := Aside0.mk (below_far HB.out HG5.out HG0.out)
            have j1 := pw_cell_below HB5.out H1.out
            go_upto_region 18 with (go_at_call 15; refine (rwrite_calls g' each T L B1 bl b1 b w5 HR5.out (HRD.out.below HB5.out) (u8s_append HUL.out HUX.out) hx1 hx2 HLB.out (by omega) (by omega)).mono ?_; rintro e w6 ⟨v6, ys, rfl, hrow6, hr6, hle6, hlt6, hg6⟩; have HW6 := Aside0.mk hrow6; have HR6 := Aside0.mk hr6; have HLE6 := Aside0.mk hle6; have HLT6 := Aside0.mk hlt6; have HG6 := Aside0.mk hg6; clear hrow6 hr6 hle6 hlt6 hg6)
            clear k0 k1 j1 hd3
            obtain ⟨A5, c5, hc5, -, -⟩ := HOUT.out.cut
            have HC6 := Aside0.mk (hc5.rfar HR5.out HG6.out (by have := HNE.out; omega))
            have HB6 := Aside0.mk (below_far HB5.out HG6.out HG0'.out)
            have hML : (L ++ b).length ≤ 100000 := by rw [List.length_append, ← HBL.out]; exact HLB.out
            have HXY := Aside0.mk (show ys.length = xs.length from by
              have h1 := HOUT.out.le
              have h2 := HLT5.out
              have h3 := HLE6.out
              have h4 := HLT6.out
              have e1 : each * xs.length < each * (ys.length + 1) := by omega
              have e2 : each * ys.length < each * (xs.length + 1) := by omega
              have e3 := Nat.lt_of_mul_lt_mul_left e1
              have e4 := Nat.lt_of_mul_lt_mul_left e2
              omega)
            have hxl : xs.length ≤ 100000 := by
              have h1 := HOUT.out.le
              have h3 : xs.length ≤ each * xs.length := Nat.le_mul_of_pos_left _ (by omega)
              omega
            obtain ⟨chs, hchs⟩ : ∃ chs, chs = (List.range xs.length).map (chunk (L ++ b) each) := ⟨_, rfl⟩
            have hcl : chs.length ≤ 140737488355328 := by rw [hchs, List.length_map, List.length_range]; omega
            have HW5 := Aside0.mk (show RowsAt w6 w.heap.size v5 each xs chs from hchs ▸ (((RowsAt.of HROW.out HOUT.out).step (Stays.rcut HR5.out HG6.out)).mono HB.out.size))
            have HW6' := Aside0.mk (show RowsR w6 w5.heap.size v6 each ys chs from by have h := HW6.out; rw [HXY.out] at h; rw [hchs]; exact h)
            have HTL := Aside0.mk (show ((L ++ b).drop (each * xs.length)).length ≤ T + bl from by rw [List.length_drop, List.length_append, ← HBL.out]; have := HLT.out; omega)
            have HUL2 := Aside0.mk (u8s_drop (u8s_append HUL.out HUX.out) (each * xs.length))
            rw [HXY.out] at HR6
            clear hchs hc5 HROW HOUT HLT5 HW6 HLE6 HLT6
            obtain ⟨t1, ht1⟩ : ∃ t1, t1 = T + bl := ⟨_, rfl⟩
            have hti : (T : Int) + (bl : Int) = (t1 : Int) := by omega
            rw [hti] at HC6 HR6
            rw [← ht1] at HTL
            have HTX1 := Aside0.mk (show t1 + tot (l.drop (i + 1)) < 20000 by rw [ht1, HBL.out]; exact HTX.out)
            have ht1' : t1 ≤ 20000 := by omega
            clear hti ht1
            generalize (L ++ b).drop (each * xs.length) = L1 at HC6 HR6 HTL HUL2
            obtain ⟨P5, d5, rfl, _, hr5⟩ := HW5.out.reads hcl (by omega)
            obtain ⟨P6, d6, rfl, _, hr6⟩ := HW6'.out.reads hcl (by omega)
            have HP5 := Aside0.mk hr5
            have HP6 := Aside0.mk hr6
            clear hr5 hr6 HW5 HW6'
            go_wp2_with (first
              | (go_at_call 16; refine (same_calls chs P5 d5 P6 d6 w6 HP5.out HP6.out).mono ?_; rintro e w7 ⟨rfl, hb7⟩; have HC7 := Aside0.mk (HC6.out.below hb7); have HR7 := Aside0.mk (HR6.out.grows hb7); have HB7 := Aside0.mk (below_then HB6.out HB6.out.size hb7); clear hb7)
              | (go_at_call 17; refine (size_calls g each t1 A5 c5 L1 _ HC7.out).mono ?_; rintro e w' ⟨rfl, hww⟩; replace hww := hww.symm; subst hww)
              | (go_at_call 18; refine (rsize_calls g' each t1 L1 _ HR7.out).mono ?_; rintro e w' ⟨rfl, hww⟩; replace hww := hww.symm; subst hww)
              | (go_at_call 19; refine (left_calls g each t1 A5 c5 L1 _ HC7.out).mono ?_; rintro e w' ⟨rfl, hww⟩; replace hww := hww.symm; subst hww)
              | (go_at_call 20; refine (rleft_calls g' each t1 L1 _ HR7.out).mono ?_; rintro e w' ⟨rfl, hww⟩; replace hww := hww.symm; subst hww))
            go_roundg (l.length - (i + 1))
            case measure => have := HF.out; omega
            case rel => exact ⟨i + 1, t1, L1, A5, c5, ⟨by have := HF.out; omega⟩, by omega, by go_num, ht1', HTX1, HTL, HUL2, HC7, HR7, HB7⟩
        · obtain rfl : i = l.length := by omega
          go_wp2
          go_ret
          exact ⟨rfl, HB.out⟩
    · have hs2 : size < 1 ∨ 4096 < size := by omega
      have HS2 := Aside0.mk hs2
      clear hs2
      go_wp2_with (first
        | (go_at_call 9; refine (PCutPlays.souterrainlaw06_great.calls kg A1 c1 l false _ (Kd.C_below HR.out HB1.out) hc1 HGR.out).mono ?_; rintro e w2 ⟨rfl, hb2⟩; have HB2 := Aside0.mk (below_then HB1.out HB1.out.size hb2); clear hb2)
        | (go_at_call 10; refine (new_none _ _ HS2.out).mono ?_; rintro e w' ⟨rfl, hww⟩; replace hww := hww.symm; subst hww)
        | (go_at_call 11; refine (rnew_none _ _ HS2.out).mono ?_; rintro e w' ⟨rfl, hww⟩; replace hww := hww.symm; subst hww))
      go_ret
      exact ⟨rfl, HB2.out⟩
end Go.Proofs.Ytoaokmlpeijepaa
