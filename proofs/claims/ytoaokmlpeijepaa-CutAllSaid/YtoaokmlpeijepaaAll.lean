/-
  Layer 6: CutAll's function.
-/
import Derived.Test.YtoaokmlpeijepaaAllHeld
namespace Go.Proofs.Ytoaokmlpeijepaa
set_option linter.unusedVariables false
set_option linter.unusedSimpArgs false
open Go.RowKit Go.Proofs.YtoaokmlpeijepaaW.PrintWords PCutMany

set_option maxRecDepth 100000 in
set_option maxHeartbeats 4000000 in
theorem all_calls (s : Int) (hs0 : 0 ≤ s) (hs1 : s < 65536) (Al : Option Addr) (cl : Nat) (P : List (List Int)) (w : World) (hr : Kd.C (Kd.slice 5 (Kd.int .u8)) w Al P.length P) (hb : ∀ x ∈ P, x.length ≤ 140737488351232) :
    Calls Try.prog 4 #[.int .u16 s, .slice Al P.length cl] w fun e w' => e = .returned (.bool true) ∧ Below w.heap.size w w' := by
  have HR := Aside0.mk hr
  have HBD := Aside0.mk hb
  have hm1 := hr.2.1
  clear hr hb
  go_enter Try.func4, Try.ntmps4
  go_upto_region 3 with (go_at_call 8; refine (head_calls _).mono ?_; rintro e w1 ⟨rfl, hb1⟩; have HB1 := Aside0.mk hb1; clear hb1)
  obtain ⟨each, heach⟩ : ∃ each : Nat, 1 + s % 4096 = (each : Int) := ⟨(1 + s % 4096).toNat, by omega⟩
  have hx1 : 1 ≤ each := by omega
  have hx2 : each ≤ 4096 := by omega
  rw [heach]
  generalize s % 4096 = s'
  clear heach
  go_upto_region 4 with (go_at_call 10; refine (new_calls each _ (by omega) (by omega)).mono ?_; rintro e w2 ⟨g, rfl, hg0, hc2, hb2⟩; have HG0 := Aside0.mk (show w.heap.size ≤ g from hg0 ▸ HB1.out.size); have HC2 := Aside0.mk hc2; have HB2 := Aside0.mk (below_then HB1.out HB1.out.size hb2); clear hg0 hc2 hb2)
  go_wp2
  go_loopg [8, 9, 10, 11, 12, 13] P.length (fun f v8 v9 v10 v11 v12 v13 wz => ∃ (i m t n9 : Nat) (T : List Int) (A8 A9 A : Option Addr) (c8 c9 c : Nat), Aside0 (f + i = P.length) ∧ i ≤ P.length ∧ v10 = .int .i64 m ∧ v11 = .int .i64 i ∧ v8 = .slice A8 t c8 ∧ v9 = .slice A9 n9 c9 ∧ t ≤ 20000 ∧ Aside0 (t = T.length) ∧ Aside0 (n9 = (T.take (each * m)).length) ∧ Aside0 (Held wz w.heap.size g each m T (.slice A8 t c8) (.slice A9 n9 c9) A c) ∧ Aside0 (Below w.heap.size w wz))
  case atStart => exact ⟨0, 0, 0, 0, [], none, none, none, 0, 0, 0, ⟨by simp⟩, by omega, rfl, rfl, rfl, rfl, by omega, ⟨rfl⟩, ⟨by simp⟩, ⟨Held.start _ hx1 HC2.out⟩, HB2⟩
  case round =>
    obtain ⟨i, m, t, n9, T, A8, A9, A, c8, c9, c, HF, hi, rfl, rfl, rfl, rfl, ht, HT, HN9, HH, HB⟩ := hrel
    by_cases hlt : i < P.length
    · obtain ⟨ad, B0, b0, rfl, hcell, _, hrx⟩ := at_L1 HR.out (i : Int) (by omega) (by omega)
      rw [Int.toNat_natCast] at hcell
      have hxb : (rd_L1 P (i : Int)).length ≤ 140737488351232 := HBD.out _ (by
        unfold rd_L1
        rw [Int.toNat_natCast, List.getD_eq_getElem?_getD, List.getElem?_eq_getElem hlt]
        exact List.getElem_mem hlt)
      generalize rd_L1 P (i : Int) = x at hcell hrx hxb
      have HX := Aside0.mk (readsU8 hrx)
      obtain ⟨xl, hxl⟩ : ∃ xl, xl = x.length := ⟨_, rfl⟩
      rw [← hxl] at hcell hxb HX
      have HXL := Aside0.mk hxl
      have HCE := Aside0.mk hcell
      clear hrx hxl hcell
      have hcell := pw_cell_below HB.out HCE.out
      by_cases hbig : (t : Int) + xl > 20000
      · go_wp2
        go_ret
        exact ⟨rfl, HB.out⟩
      have hd : decide ((t : Int) + (xl : Int) > 20000) = false := by simp; omega
      have HALL := Aside0.mk (show wr.ownsRow w.heap.size 5 1 (.slice A8 t c8) T.length (nums .u8 T) from HH.out.all)
      obtain ⟨v1, w1, hr1, ho1, hg1, hp1⟩ := bytes_run2 w.heap.size (.slice A8 t c8) T x B0 xl b0 29 HALL.out (HX.out.below HB.out) HB.out.size (by have := HT.out; omega)
      have HO1 := Aside0.mk ho1
      have HG1 := Aside0.mk hg1
      have HP1 := Aside0.mk hp1
      clear ho1 hg1 hp1
      go_upto_region 15 with (at_builtin; refine wpList_appendE (.tmp 40) (.tmp 44) 29 rfl rfl rfl rfl ⟨_, _, hr1, ?_⟩)
      clear hcell hd hr1
      have HB1' := Aside0.mk (show Below w.heap.size w w1 from pw_below_grown HB.out _ HB.out.size HG1.out (fun k hk => (HALL.out.lt k hk).1))
      have HC1 := Aside0.mk (HH.out.cut.grown HALL.out HG1.out HH.out.a8)
      have HGO1 := Aside0.mk (own_grown HH.out.got HALL.out HG1.out (fun k hk e => HH.out.apart k e hk))
      have hal : ∀ ad, A = some ad → T.drop (each * m) = [] ∨ ad.block < wr.heap.size := by
        intro ad e
        rcases HH.out.cut.left with h | ⟨b, off, cs, e2, hb, _⟩
        · exact .inl h
        · rw [e] at e2
          injection e2 with e2
          rw [e2]; exact .inr (lt_heap hb)
      have HAP1 := Aside0.mk (show ∀ k, v1.ownBlock = some k → (Value.slice A9 n9 c9).ownBlock ≠ some k from fun k hk e => by
        rcases HP1.out with h | h
        · exact HH.out.apart k (by rw [← h]; exact hk) e
        · rw [h] at hk
          injection hk with hk
          have := (HH.out.got.lt k e).2
          omega)
      obtain ⟨t1, ht1⟩ : ∃ t1, t1 = (T ++ x).length := ⟨_, rfl⟩
      obtain ⟨A1', c1', e1⟩ := own_slice HO1.out
      rw [← ht1] at e1
      subst e1
      have ht1' : t1 ≤ 20000 := by rw [ht1, List.length_append, ← HT.out, ← HXL.out]; omega
      have HT1 := Aside0.mk ht1
      clear ht1
      have hcell := pw_cell_below HB1'.out HCE.out
      have HLE := Aside0.mk HH.out.le
      have HTL := Aside0.mk (show (T.drop (each * m)).length ≤ 20000 by rw [List.length_drop, ← HT.out]; omega)
      clear HH HALL HP1 hal
      go_upto_region 16 with (go_at_call 14; refine (write_calls g each T.length A c _ B0 xl b0 x w1 HC1.out (HX.out.below HB1'.out) hx1 hx2 (by have := HTL.out; omega) (by omega) (by have := HT.out; omega)).mono ?_; rintro e w2 ⟨v2, xs, rfl, hrow, hout, hlt2, hg2⟩; have HROW := Aside0.mk hrow; have HOUT := Aside0.mk hout; have HLT2 := Aside0.mk hlt2; have HG2 := Aside0.mk hg2; clear hrow hout hlt2 hg2)
      clear hcell
      have HB2' := Aside0.mk (below_far HB1'.out HG2.out HG0.out)
      have HO2 := Aside0.mk (own_cut HC1.out HG2.out HO1.out)
      have HGO2 := Aside0.mk (own_cut HC1.out HG2.out HGO1.out)
      rw [held_plain T x each m HLE.out] at HOUT HLT2
      have HTG := Aside0.mk (show T.take (each * m) = (T ++ x).take (each * m) by rw [List.take_append_of_le_length HLE.out])
      rw [HTG.out] at HGO2 HN9
      have HLE1 := Aside0.mk (show each * m ≤ (T ++ x).length by rw [List.length_append]; have := HLE.out; omega)
      have htt : ((T.length : Int) + (xl : Int)) = (t1 : Int) := by rw [HT1.out, List.length_append, HXL.out]; omega
      rw [htt] at HOUT
      clear htt HTG HTL
      generalize T ++ x = T1 at HO1 HO2 HGO2 HOUT HLT2 HLE1 HT1 HN9
      obtain ⟨A2, c2, hc2, hf2, -⟩ := HOUT.out.cut
      have HC2' := Aside0.mk hc2
      have HF2 := Aside0.mk hf2
      have HT2 := Aside0.mk (show Told w2 w1.heap.size v2 each xs (T1.drop (each * m)) 0 from ⟨⟨_, RowsAt.of HROW.out HOUT.out, fun j _ hj => by rw [List.getElem?_map, List.getElem?_range hj]; rfl⟩, HOUT.out.rise⟩)
      have HLX := Aside0.mk HOUT.out.le
      obtain ⟨Av, cv, rfl⟩ := own_slice HROW.out
      have HSZ := Aside0.mk HG2.out.size
      have HN1 := Aside0.mk (show ∀ k, (Value.slice A9 n9 c9).ownBlock = some k → k < w1.heap.size from fun k hk => (HGO1.out.lt k hk).2)
      have HN8 := Aside0.mk (show ∀ k, (Value.slice A1' t1 c1').ownBlock = some k → k < w1.heap.size from fun k hk => (HO1.out.lt k hk).2)
      clear hc2 hf2 HROW HOUT HGO1 HC1 HO1
      go_upto_block 3 with fail
      have HXLN := Aside0.mk (show m + xs.length ≤ 20000 from by
        have h1 := HLX.out
        rw [List.length_drop, ← HT1.out] at h1
        have h2 := HLE1.out
        rw [← HT1.out] at h2
        have h3 : m + xs.length ≤ each * (m + xs.length) := Nat.le_mul_of_pos_left _ (by omega)
        rw [Nat.mul_add] at h3
        omega)
      have HLK0 := Aside0.mk (show Looked w2 w2 w.heap.size w1.heap.size g each n9 T1 (.slice A1' t1 c1') (.slice A9 n9 c9) m from ⟨HO2.out, by rw [HN9.out]; have h := HGO2.out; rw [← HN9.out] at h ⊢; exact h, fun k o _ h => h, rfl, fun k hk => .inl (HN1.out k hk), HAP1.out, Nat.le_refl _⟩)
      have hxs : xs.length ≤ 20000 := by have := HXLN.out; omega
      obtain ⟨wo, rfl⟩ : ∃ wo : World, wo = wr := ⟨_, rfl⟩
      go_loopg [9, 10, 13] xs.length (fun f v9 v10 v13 wz => ∃ (k q n9 : Nat) (A9 : Option Addr) (c9 : Nat), Aside0 (f + k = xs.length) ∧ k ≤ xs.length ∧ q ≤ 20000 ∧ Aside0 (q = m + k) ∧ v10 = .int .i64 q ∧ v13 = .int .i64 k ∧ v9 = .slice A9 n9 c9 ∧ Aside0 (n9 = (T1.take (each * q)).length) ∧ Aside0 (Looked w2 wz w.heap.size w1.heap.size g each n9 T1 (.slice A1' t1 c1') (.slice A9 n9 c9) q) ∧ Aside0 (Below w.heap.size w wz))
      case atStart => exact ⟨0, m, n9, A9, c9, ⟨rfl⟩, by omega, by have := HXLN.out; omega, ⟨rfl⟩, rfl, rfl, rfl, HN9, HLK0, HB2'⟩
      case round =>
        obtain ⟨k, q, n9', A9', c9', HFk, hk, hq, HQ, rfl, rfl, rfl, HN9', HLK, HBk⟩ := hrel
        by_cases hltk : k < xs.length
        · have HTD := Aside0.mk (HT2.out.mid (fun k cs t hN hk _ => HLK.out.mid k _ hN hk))
          obtain ⟨ad', c', y, e, hy, hcell⟩ := HTD.out.cell hltk
          injection e with e1 e2 e3
          subst e1
          obtain ⟨ch, hp, hl, hch⟩ := HTD.out.piece hy
          have hch := hch (Nat.zero_le _)
          subst hch
          have HRD := Aside0.mk ((Left.of_own hp).2.reads (by rw [hl]; omega))
          rw [hl] at HRD
          have HCL := Aside0.mk hl
          clear hp hl hy e3 c' e2
          unfold hdr at hcell
          have HG9 := Aside0.mk (show wr.ownsRow w.heap.size 5 1 (.slice A9' n9' c9') (T1.take (each * q)).length (nums .u8 (T1.take (each * q))) by rw [← HN9'.out]; exact HLK.out.got)
          obtain ⟨v3, w3, hr3, ho3, hg3, hp3⟩ := bytes_run2 w.heap.size (.slice A9' n9' c9') (T1.take (each * q)) _ (some ⟨y.1, 0, none⟩) each y.2 29 HG9.out HRD.out HBk.out.size (by rw [List.length_take]; have := HT1.out; omega)
          have hcp := chunk_plain T1 each m k
          rw [← HQ.out] at hcp
          rw [hcp] at ho3
          have HO3 := Aside0.mk ho3
          have HG3 := Aside0.mk hg3
          have HP3 := Aside0.mk hp3
          clear ho3 hg3 hp3 hcp
          go_wp2_with (at_builtin; refine wpList_appendE (.tmp 65) (.tmp 69) 29 rfl rfl rfl rfl ⟨_, _, hr3, ?_⟩)
          go_roundg (xs.length - (k + 1))
          case measure => have := HFk.out; omega
          case rel =>
            obtain ⟨n3, hn3⟩ : ∃ n3, n3 = (T1.take (each * (q + 1))).length := ⟨_, rfl⟩
            obtain ⟨A3, c3, e3⟩ := own_slice HO3.out
            rw [← hn3] at e3
            subst e3
            refine ⟨k + 1, q + 1, n3, A3, c3, ⟨by omega⟩, by omega, by have := HXLN.out; have := HQ.out; omega, ⟨by have := HQ.out; omega⟩, by go_num, by go_num, rfl, ⟨hn3⟩, ⟨HLK.out.step HC2'.out.blk (by have h := HO3.out; rw [← hn3] at h; exact h) HG3.out HP3.out⟩, ⟨pw_below_grown HBk.out _ HBk.out.size HG3.out (fun k hk => (HG9.out.lt k hk).1)⟩⟩
        · obtain rfl : k = xs.length := by omega
          have HCW := Aside0.mk (HLK.out.cut HC2'.out HF2.out)
          rw [List.drop_drop, ← Nat.mul_add, ← HQ.out] at HCW
          have hq1 : each * q ≤ t1 := by
            have h1 := HLX.out
            rw [List.length_drop, ← HT1.out] at h1
            have h2 := HLE1.out
            rw [← HT1.out] at h2
            rw [HQ.out, Nat.mul_add]; omega
          have hq2 : t1 < each * (q + 1) := by
            have h1 := HLT2.out
            rw [List.length_drop, ← HT1.out] at h1
            have h2 := HLE1.out
            rw [← HT1.out] at h2
            rw [HQ.out, Nat.mul_add, Nat.mul_add, Nat.mul_one]
            rw [Nat.mul_add, Nat.mul_one] at h1; omega
          have HQ1 := Aside0.mk hq1
          have HQ2 := Aside0.mk hq2
          obtain ⟨ll, hll⟩ : ∃ ll, ll = (T1.drop (each * q)).length := ⟨_, rfl⟩
          have hlle : ll = t1 - each * q := by rw [hll, List.length_drop, ← HT1.out]
          have hn9e : n9' = each * q := by rw [HN9'.out, List.length_take, ← HT1.out]; omega
          have hd1 : decide ((ll : Int) ≥ (each : Int)) = false := by rw [Nat.mul_succ] at hq2; simp; omega
          have hd2 : (((ll : Int) + (n9' : Int)) != (t1 : Int)) = false := by simp; omega
          have hd3 : ¬ ((each : Int) ≤ (ll : Int)) := by rw [Nat.mul_succ] at hq2; omega
          have hd4 : (ll : Int) + (n9' : Int) = (t1 : Int) := by omega
          have hl20 : ll ≤ 20000 := by omega
          have HLL := Aside0.mk hll
          clear hq1 hq2 hll hlle hn9e
          go_upto_region 23 with fail
          go_upto_region 11 with (go_at_call 19; refine (left_calls g each _ A2 c2 _ wr HCW.out).mono ?_; rw [← HLL.out]; rintro e w' ⟨rfl, hww⟩; replace hww := hww.symm; subst hww)
          have hi2 : P.length ≤ 9223372036854775807 := hm1
          have HHE := Aside0.mk (show Held wr w.heap.size g each q T1 (.slice A1' t1 c1') (.slice A9' n9' c9') A2 c2 from by
            refine ⟨HLK.out.all, by rw [← HN9'.out]; exact HLK.out.got, by rw [← HT1.out]; exact HCW.out, HLK.out.apart, fun _ ad e h => ?_, fun hne ad e h => ?_, by rw [← HT1.out]; exact HQ1.out, by rw [← HT1.out]; exact HQ2.out⟩
            · have h1 := HN8.out _ h
              have h2 := HF2.out ad e
              omega
            · have h1 := HLK.out.place _ h
              have h2 := HF2.out ad e
              rcases HC2'.out.left with h | ⟨b, off, cs, e2, hb, _⟩
              · rw [List.drop_drop, ← Nat.mul_add, ← HQ.out] at h
                exact hne h
              · rw [e] at e2
                injection e2 with e2
                have h3 := lt_heap hb
                rw [e2] at h1 h2
                rcases h1 with h1 | h1
                · have h1' : b < w1.heap.size := h1
                  have h2' : w1.heap.size ≤ b := h2
                  omega
                · have h1' : w2.heap.size ≤ b := h1
                  omega)
          go_wp2
          go_roundg (P.length - (i + 1))
          case measure => have := HF.out; omega
          case rel => exact ⟨i + 1, q, t1, n9', T1, A1', A9', A2, c1', c9', c2, ⟨by have := HF.out; omega⟩, by omega, rfl, by go_num, rfl, rfl, ht1', HT1, HN9', HHE, HBk⟩
    · obtain rfl : i = P.length := by omega
      obtain ⟨ll, hll⟩ : ∃ ll, ll = (T.drop (each * m)).length := ⟨_, rfl⟩
      have hlt2 : ll < each := by
        have h1 := HH.out.le
        have h2 := HH.out.lt
        rw [hll, List.length_drop]
        rw [Nat.mul_succ] at h2
        omega
      have HLL := Aside0.mk hll
      clear hll
      go_upto_region 25 with fail
      go_upto_region 26 with (go_at_call 12; refine (rest_calls g each _ A c _ wr HH.out.cut).mono ?_; rw [← HLL.out]; rintro e w5 ⟨rfl, hc5, hg5, hl5⟩; have HC5 := Aside0.mk hc5; have HG5 := Aside0.mk hg5; have HL5 := Aside0.mk hl5; clear hc5 hg5 hl5)
      -- REGION
      have HC5' := Aside0.mk (show CutAt w5 g each (t : Int) none 0 [] by have h := HC5.out; rw [← HT.out] at h; exact h)
      have HAL5 := Aside0.mk (own_cut HH.out.cut HG5.out HH.out.all)
      have HGO5 := Aside0.mk (own_cut HH.out.cut HG5.out HH.out.got)
      have HB5 := Aside0.mk (below_far HB.out HG5.out HG0.out)
      have HKL := Aside0.mk (show ∀ W : World, KeepS (fun k => (Value.slice A9 n9 c9).ownBlock = some k) w5 W → Left W A (T.drop (each * m)) from fun W hW => by
        rcases HL5.out with h | ⟨b, off, cs, rfl, hb, hc⟩
        · exact .inl h
        · by_cases hM : T.drop (each * m) = []
          · exact .inl hM
          · exact .inr ⟨b, off, cs, rfl, (hW.block b (lt_heap hb) (HH.out.a9 hM _ rfl)).trans hb, hc⟩)
      have HKA := Aside0.mk (show ∀ W : World, KeepS (fun k => (Value.slice A9 n9 c9).ownBlock = some k) w5 W → ReadsInt W .u8 A8 t T from fun W hW => by
        have ho : W.ownsRow w.heap.size 5 1 (.slice A8 t c8) T.length (nums .u8 T) := own_keep HAL5.out fun k hk cs hcs => (hW.block k (lt_heap hcs) (HH.out.apart k hk)).trans hcs
        rw [← HT.out] at ho
        obtain ⟨A', c', e, hrd⟩ := own_reads ho
        injection e with e1 e2 e3
        subst e1
        exact hrd)
      have HTT := Aside0.mk (List.take_append_drop (each * m) T)
      have HQP := Aside0.mk (quot_plain t each m hx1 (by rw [HT.out]; exact HH.out.le) (by rw [HT.out]; exact HH.out.lt))
      have hlt3 : (ll : Int) < (each : Int) := by omega
      have hd1 : (t : Int) / (each : Int) = (m : Int) := by rw [← Int.natCast_ediv, HQP.out]
      have hd3 : Int.tdiv (t : Int) (each : Int) = (m : Int) := by rw [Int.tdiv_eq_ediv_of_nonneg (by omega), hd1]
      have hmb : m ≤ 20000 := by
        have h1 := HH.out.le
        rw [← HT.out] at h1
        have h3 : m ≤ each * m := Nat.le_mul_of_pos_left _ (by omega)
        omega
      have hwm : wrap64 (m : Int) = (m : Int) := IntWalk.wrap64_in _ ⟨by omega, by omega⟩
      have hwi : IntKind.i64.wrap (m : Int) = (m : Int) := IntWalk.i64_in _ ⟨by omega, by omega⟩
      have hez : ¬ ((each : Int) = 0) := by omega
      have hez2 : ¬ (each = 0) := by omega
      have hl20 : ll ≤ 20000 := by omega
      have HMB := Aside0.mk hmb
      clear HC5 HG5 HL5
      apply wp_region_phase Grows (KeepS (fun k => (Value.slice A9 n9 c9).ownBlock = some k)) (phaseK _) (fun w' => CutAt w' g each (t : Int) none 0 [] ∧ w'.ownsRow w.heap.size 5 1 (.slice A9 n9 c9) (T.take (each * m)).length (nums .u8 (T.take (each * m)))) ⟨HC5'.out, HGO5.out⟩ (fun a c h hh => ⟨hh.1.below h, own_grows hh.2 h⟩) (hm := by kernel_rfl) (hB := by kernel_rfl)
      case h =>
        iterate 10
          apply phase_fixed
          case hw => simp [Region.wanted, yielded]
          case ho =>
            intro w' hk hf
            clear hf
            refine ⟨?_⟩
            go_simp
            exact ⟨Grows.refl _, rfl⟩
          simp only [Act.put, List.setIfInBounds_toArray, List.set_cons_zero, List.set_cons_succ]
        apply phase_turn_free (G := fun _ _ => True) (J := fun v w' => CutAt w' g each (t : Int) none 0 [] ∧ w'.ownsRow w.heap.size 5 1 v T.length (nums .u8 T))
        case hw => simp [Region.wanted, yielded]
        case ho =>
          intro w' hk hf hI
          clear hf
          have hsw := hk.size
          have hrd : ReadsInt w' .u8 A ll (T.drop (each * m)) := by have h := (HKL.out w' hk).reads (by rw [← HLL.out]; omega); rw [← HLL.out] at h; exact h
          obtain ⟨v1, w'', hr, ho, hg, hp⟩ := bytes_run2 w.heap.size (.slice A9 n9 c9) _ _ A ll c 29 hI.2 hrd (Nat.le_trans HB5.out.size hsw) (by rw [List.length_take, ← HT.out]; omega)
          rw [HTT.out] at ho
          exact growAt_append (.tmp 97) (.tmp 98) 29 rfl rfl rfl ⟨v1, w'', hr, KeepS.of_grown hg (fun k e => e), ⟨hI.1.grown hI.2 hg (fun h => absurd rfl h), ho⟩, trivial⟩
        case hJ => exact fun v a c h hh => ⟨hh.1.below h, own_grows hh.2 h⟩
        case hm => exact fun _ _ _ _ _ => trivial
        intro v9
        simp only [Act.put, List.setIfInBounds_toArray, List.set_cons_zero, List.set_cons_succ]
        apply phase_turn (c := .string (strOfNums T)) (J := fun w' => CutAt w' g each (t : Int) none 0 [])
        case hw => simp [Region.wanted, yielded]
        case ho =>
          intro w' hk hf hI
          clear hf
          obtain ⟨A', c', e, hrd⟩ := own_reads hI.2
          subst e
          have hc := conv_str hrd c'
          rw [← HT.out] at hc ⊢
          refine ⟨?_⟩
          go_simp
          exact ⟨KeepS.refl _ _, hI.1, rfl⟩
        case hJ => exact fun a c h hh => hh.below h
        simp only [Act.put, List.setIfInBounds_toArray, List.set_cons_zero, List.set_cons_succ]
        iterate 1
          apply phase_fixed
          case hw => simp [Region.wanted, yielded]
          case ho =>
            intro w' hk hf
            clear hf
            refine ⟨?_⟩
            go_simp
            exact ⟨Grows.refl _, rfl⟩
          simp only [Act.put, List.setIfInBounds_toArray, List.set_cons_zero, List.set_cons_succ]
        apply phase_fixed (c := .string (strOfNums T))
        case hw => simp [Region.wanted, yielded]
        case ho =>
          intro w' hk hf
          clear hf
          have hc := conv_str (HKA.out w' hk) c8
          refine ⟨?_⟩
          go_simp
          exact ⟨Grows.refl _, rfl⟩
        simp only [Act.put, List.setIfInBounds_toArray, List.set_cons_zero, List.set_cons_succ]
        iterate 3
          apply phase_fixed
          case hw => simp [Region.wanted, yielded]
          case ho =>
            intro w' hk hf
            clear hf
            refine ⟨?_⟩
            go_simp
            exact ⟨Grows.refl _, rfl⟩
          simp only [Act.put, List.setIfInBounds_toArray, List.set_cons_zero, List.set_cons_succ]
        iterate 8
          apply phase_fixed
          case hw => simp [Region.wanted, yielded]
          case ho =>
            intro w' hk hf
            clear hf
            refine ⟨?_⟩
            go_simp
            exact ⟨Grows.refl _, rfl⟩
          simp only [Act.put, List.setIfInBounds_toArray, List.set_cons_zero, List.set_cons_succ]
        iterate 1
          apply phase_fixed
          case hw => simp [Region.wanted, yielded]
          case ho =>
            intro w' hk hf
            clear hf
            refine ⟨?_⟩
            go_simp
            exact ⟨Grows.refl _, rfl⟩
          simp only [Act.put, List.setIfInBounds_toArray, List.set_cons_zero, List.set_cons_succ]
        apply phase_turn (c := .int .i64 (t : Int)) (J := fun _ => True)
        case hw => simp [Region.wanted, yielded]
        case ho =>
          intro w' hk hf hI
          clear hf
          refine ⟨?_⟩
          go_simp
          refine (size_calls g each t none 0 [] w' hI).mono ?_
          rintro e w'' ⟨rfl, hww⟩
          exact ⟨_, rfl, hww ▸ KeepS.refl _ _, rfl⟩
        case hJ => exact fun _ _ _ _ => trivial
        simp only [Act.put, List.setIfInBounds_toArray, List.set_cons_zero, List.set_cons_succ]
        iterate 5
          apply phase_fixed
          case hw => simp [Region.wanted, yielded]
          case ho =>
            intro w' hk hf
            clear hf
            refine ⟨?_⟩
            go_simp
            exact ⟨Grows.refl _, rfl⟩
          simp only [Act.put, List.setIfInBounds_toArray, List.set_cons_zero, List.set_cons_succ]
        refine phase_nil (fun w7 hk _ hf => ?_)
        clear hf
        have hb7 := Aside0.mk (show Below w.heap.size w w7 from HB5.out.trans (hk.below HB5.out.size fun k e => (HGO5.out.lt k e).1))
        go_wp2
        go_ret
        exact ⟨rfl, hb7.out⟩
      case ht => kernel_rfl
end Go.Proofs.Ytoaokmlpeijepaa
