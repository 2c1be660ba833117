/-
  Layer 7: SpanAll's function.
-/
import Derived.Test.YtbadkblofihjhaaAppend
import Derived.Test.YtbadkblofihjhaaGrow
import Derived.Test.YtbadkblofihjhaaPSpanAllx2
import Derived.RegionTactic
import Derived.Deep.RegionWith
import Derived.Deep.RegionLaw
import Derived.Deep.QuietTactic
import Derived.StillTailTactics
namespace Go.Proofs.Ytbadkblofihjhaa
set_option linter.unusedVariables false
set_option linter.unusedSimpArgs false
open Go.RowKit Go.Proofs.YtbadkblofihjhaaW.PrintWords Go.Proofs.YtbadkblofihjhaaW.PrintLast Go.Proofs.YtbadkblofihjhaaW.PrintMore PSpanAll
attribute [local go_sem] max2_int min2_int max_two min_two

theorem hHead (w : World) : Calls Try.prog 8 #[] w fun e w' => e = .returned (.bool true) ∧ Below w.heap.size w w' :=
  souterrainlaw07_head.calls 8 true w (by kernel_rfl)
theorem rd3_get {P : List (List Int)} (k : Nat) : rd_L3 P (k : Int) = P.getD k [] := rfl
theorem take_L3 {P : List (List Int)} {k : Nat} (h : k < P.length) : P.take (k + 1) = P.take k ++ [rd_L3 P k] := by
  rw [rd3_get, List.take_succ_eq_append_getElem h, List.getD_eq_getElem?_getD, List.getElem?_eq_getElem h]; rfl
/-- A row of rows, known in whatever later world. -/
theorem at_P {w : World} {ad : Addr} {n : Nat} {P : List (List Int)} (h : Kd.C (Kd.slice 5 (Kd.int .u8)) w (some ad) n P) {k : Nat} (hk : k < n) :
    ∃ B c, (P.getD k []).length ≤ c ∧ ∀ W, Below w.heap.size w W → W.cell? (ad.add k) = some (.slice B (P.getD k []).length c) ∧ ReadsInt W .u8 B (P.getD k []).length (P.getD k []) := by
  obtain ⟨ad', B, c, e, h1, h2, h3⟩ := at_L3 h (k : Int) (by omega) (by omega)
  injection e with e
  subst e
  rw [Int.toNat_natCast] at h1
  exact ⟨B, c, h2, fun W hb => ⟨pw_cell_below hb h1, (readsU8 h3).below hb⟩⟩
theorem below_trans {B : Nat} {w W w1 : World} (h : Below B w W) (k : Below B W w1) : Below B w w1 :=
  ⟨k.os.trans h.os, k.tape.trans h.tape, k.output.trans h.output, Nat.le_trans h.size k.size, fun i hi => (k.block i hi).trans (h.block i hi)⟩

def mk34 (x : Int × Int × Int) : S34 := ⟨x.1, x.2.1, x.2.2⟩
theorem rd_map {L : List (Int × Int × Int)} {i : Nat} (h : i < L.length) : rd_T34 (L.map mk34) (i : Int) = mk34 L[i] := by
  simp [rd_T34, List.getD_eq_getElem?_getD, List.getElem?_eq_getElem h]
theorem part_at {w W : World} {A : Option Addr} {n : Nat} {L : List (Int × Int × Int)} {i : Nat} (h : Kd.C k34 w A n (L.map mk34)) (hb : Below w.heap.size w W) (hi : i < L.length) :
    ∃ ad, A = some ad ∧ W.cell? (ad.add (i * 3)) = some (.int .i64 L[i].1) ∧ W.cell? ⟨(ad.add (i * 3)).block, (ad.add (i * 3)).off + 1, none⟩ = some (.int .i64 L[i].2.1) ∧ W.cell? ⟨(ad.add (i * 3)).block, (ad.add (i * 3)).off + 2, none⟩ = some (.int .i64 L[i].2.2) := by
  have hn : (L.map mk34).length = n := h.1
  obtain ⟨ad, e, h0, h1, h2⟩ := at_T34 (Kd.C_below h hb) (i : Int) (by omega) (by rw [← hn, List.length_map]; omega)
  rw [rd_map hi, Int.toNat_natCast] at h0 h1 h2
  exact ⟨ad, e, h0, h1, h2⟩
theorem free34 {W : World} {g : Nat} {cs : Array Value} (h : W.heap[g]? = some (.cells cs 34 (0, 0))) (j : Nat) : W.frozen? ⟨g, j, none⟩ = false := by simp [World.frozen?, h]
theorem conv_str {w : World} {A : Option Addr} {n : Nat} {xs : List Int} (h : ReadsInt w .u8 A n xs) (c : Nat) : (convert 32 9 (.slice A n c)).run Try.prog w = .ok (.string (strOfNums xs)) w := by
  have hn : xs.length = n := h.1
  rcases Nat.eq_zero_or_pos n with h0 | h0
  · subst h0
    obtain rfl : xs = [] := List.eq_nil_of_length_eq_zero hn
    rcases A with _ | ad
    · exact run_convert_bytes_nil w 32 5 Try.underlying32 Try.underlying5 0 c 9 Try.underlying9
    · rw [run_convert_bytes_string w 32 9 5 _ 0 c Try.underlying32 Try.underlying5 Try.underlying9, run_bytesToString w _ 0 c [] (by simpa using run_loadCells_list (P := Try.prog) w ad [] (fun j v hj => by simp at hj))]
      rfl
  · obtain ⟨ad, rfl, hc⟩ := h.2.2 h0
    have hl : (loadCells ad n).run Try.prog w = .ok (xs.map (Value.int .u8)).toArray w := by
      have := run_loadCells_list (P := Try.prog) w ad (xs.map (Value.int .u8)) (fun j v hj => by
        have hjl : j < xs.length := by
          rcases Nat.lt_or_ge j xs.length with h | h
          · exact h
          · simp [List.getElem?_eq_none (show (xs.map (Value.int .u8)).length ≤ j by simpa using h)] at hj
        rw [hc j (by omega)]
        simp [List.getElem?_eq_getElem hjl] at hj
        subst hj
        simp [List.getD, List.getElem?_eq_getElem hjl])
      simpa [hn] using this
    rw [run_convert_bytes_string w 32 9 5 _ n c Try.underlying32 Try.underlying5 Try.underlying9, run_bytesToString w _ n c xs hl, foldl_push_bytes]
    simp [strOfNums, ByteArray.empty, ByteArray.emptyWithCapacity]
    rfl
theorem right_of {P : List (List Int)} (h : ∀ b ∈ P, 1 ≤ b.length ∧ b.length ≤ 500) (hl : P.length ≤ 200) : rightB (szs P) = true := by
  unfold rightB
  have h1 : (szs P).any wrongB = false := by
    rw [List.any_eq_false]
    intro z hz
    obtain ⟨b, hb, rfl⟩ := List.mem_map.1 hz
    have := h b hb
    simp [wrongB]; omega
  rw [h1]
  simp [szs]; omega
theorem flat_len {P : List (List Int)} (h : ∀ b ∈ P, 1 ≤ b.length ∧ b.length ≤ 500) : P.flatten.length ≤ 500 * P.length := by
  induction P with
  | nil => simp
  | cons q Q ih =>
    have h1 := h q List.mem_cons_self
    have h2 := ih fun z hz => h z (List.mem_cons_of_mem _ hz)
    simp only [List.flatten_cons, List.length_append, List.length_cons]
    omega
theorem gotF_snoc (P : List (List Int)) (L : List (Int × Int × Int)) (i : Nat) (h : i < L.length) : gotF P (L.take (i + 1)) = gotF P (L.take i) ++ slOf P L[i] := by
  rw [List.take_succ_eq_append_getElem h, gotF, List.flatMap_append]; simp [gotF]

set_option maxRecDepth 100000 in
set_option maxHeartbeats 8000000 in
theorem all_calls (A0 : Option Addr) (n0 c0 : Nat) (P : List (List Int)) (off n : Int) (w : World) (hr0 : Kd.C (Kd.slice 5 (Kd.int .u8)) w A0 n0 P) (hoff : -9223372036854775808 ≤ off ∧ off ≤ 9223372036854775807) (hn : -9223372036854775808 ≤ n ∧ n ≤ 9223372036854775807) :
    Calls Try.prog 4 #[.slice A0 n0 c0, .int .i64 off, .int .i64 n] w fun e w' => e = .returned (.bool true) ∧ Below w.heap.size w w' := by
  have HR0 := Aside0.mk hr0
  have HL0 := Aside0.mk hr0.1
  have hm0 : n0 ≤ 9223372036854775807 := hr0.2.1
  have HOFF := Aside0.mk hoff
  have HN := Aside0.mk hn
  clear hr0 hoff hn
  go_enter Try.func4, Try.ntmps4
  by_cases g0 : n0 > 200
  · go_wp2_with (go_at_call 8; refine (hHead _).mono ?_; rintro e w1 ⟨rfl, hb1⟩; have HB1 := Aside0.mk hb1; clear hb1)
    go_ret
    exact ⟨rfl, HB1.out⟩
  go_wp2_with (go_at_call 8; refine (hHead _).mono ?_; rintro e w1 ⟨rfl, hb1⟩; have HB1 := Aside0.mk hb1; clear hb1)
  go_loopg [8, 9, 10] n0 (fun g v8 v9 v10 wr => ∃ (k : Nat), Aside0 (g + k = n0) ∧ k ≤ n0 ∧ v10 = .int .i64 k ∧ Aside0 (∀ b ∈ P.take k, 1 ≤ b.length ∧ b.length ≤ 500) ∧
    Aside0 (wr.ownsRow w.heap.size 3 1 v8 (szs (P.take k)).length (nums .i64 (szs (P.take k)))) ∧ Aside0 (wr.ownsRow w.heap.size 5 1 v9 ((P.take k).flatten).length (nums .u8 ((P.take k).flatten))) ∧ Aside0 (Below w.heap.size w wr))
  case atStart => exact ⟨0, ⟨rfl⟩, by omega, rfl, ⟨by simp⟩, ⟨own_nil _ _ _ _⟩, ⟨own_nil _ _ _ _⟩, HB1⟩
  case round =>
    obtain ⟨k, HK, hk, rfl, HSZ, HOS, HOA, HB⟩ := hrel
    by_cases hlt : k < n0
    · have hA : ∃ ad, A0 = some ad := by
        obtain ⟨ad, _, _, e, _⟩ := at_L3 HR0.out (k : Int) (by omega) (by omega)
        exact ⟨ad, e⟩
      obtain ⟨ad, rfl⟩ := hA
      have HTK := Aside0.mk (show P.take (k + 1) = P.take k ++ [P.getD k []] from take_L3 (by have := HL0.out; omega))
      obtain ⟨B, c, hbc, hcl⟩ := at_P HR0.out hlt
      have HCL := Aside0.mk hcl
      clear hcl
      generalize P.getD k [] = b at hbc HCL HTK
      have hcell := (HCL.out wr HB.out).1
      by_cases e0 : b.length = 0
      · have e0' : ((b.length : Int) == 0) = true := by simp [e0]
        have e0'' : (b.length : Int) = 0 := by omega
        go_wp2
        go_ret
        exact ⟨rfl, HB.out⟩
      have e0' : ((b.length : Int) == 0) = false := by simp [e0]
      by_cases e1 : b.length > 500
      · have e1' : decide ((b.length : Int) > 500) = true := by simp; omega
        have e1'' : (500 : Int) < (b.length : Int) := by omega
        go_wp2
        go_ret
        exact ⟨rfl, HB.out⟩
      have e1'' : ¬ (500 : Int) < (b.length : Int) := by omega
      have HFL := Aside0.mk (show ((P.take k).flatten).length ≤ 500 * k by
        have hall := HSZ.out
        have hk2 := List.length_take_le k P
        generalize P.take k = Q at hall hk2
        have : Q.flatten.length ≤ 500 * Q.length := by
          clear hk2
          induction Q with
          | nil => simp
          | cons q Q ih =>
            have h1 := hall q List.mem_cons_self
            have h2 := ih fun z hz => hall z (List.mem_cons_of_mem _ hz)
            simp only [List.flatten_cons, List.length_append, List.length_cons]
            omega
        omega)
      have HZL := Aside0.mk (show ((nums .i64 (szs (P.take k))).length + 1) * 8 ≤ 140737488355328 by
        have := List.length_take_le k P
        simp [nums, szs]; omega)
      have HNS := Aside0.mk (show nums .i64 (szs (P.take k)) ++ [.int .i64 (b.length : Int)] = nums .i64 (szs (P.take k ++ [b])) by simp [nums, szs])
      have HOS2 := Aside0.mk (show wr.ownsRow w.heap.size 3 1 u8 (nums .i64 (szs (P.take k))).length (nums .i64 (szs (P.take k))) by
        have := HOS.out
        rwa [show (szs (P.take k)).length = (nums .i64 (szs (P.take k))).length by simp [nums]] at this)
      go_wp2_with (first
        | (refine wpList_bytes w.heap.size (.tmp 49) (.tmp 53) rfl rfl ((P.take k).flatten) b rfl rfl HOA5.out (HCL.out w5 HB5.out).2 HB5.out.size (by have := HFL.out; omega) ?_
           intro v6 w6 hown6 hb6 hg6
           have HOA6 := Aside0.mk hown6
           have HB6 := Aside0.mk (below_trans HB5.out hb6)
           have HOS6 := Aside0.mk (own_apart HOS5.out HOA5.out (by decide) hg6)
           clear hown6 hb6 hg6)
        | (at_builtin
           refine print_append (w0 := w) w.heap.size rfl (.tmp 41) (.tmp 47) 22 3 (.int .i64 0) 8 rfl Try.underlying22 info3' rfl (by omega) u8 (nums .i64 (szs (P.take k))) (.int .i64 (b.length : Int)) rfl rfl rfl HOS2.out HB.out HB.out.size HZL.out ?_
           intro v5 w5 hown5 hb5 hg5 _
           have HOS5 := Aside0.mk hown5
           have HB5 := Aside0.mk hb5
           have HOA5 := Aside0.mk (own_apart HOA.out HOS2.out (by decide) hg5)
           have hcell5 := (HCL.out w5 hb5).1
           clear hown5 hb5 hg5))
      go_roundg (n0 - (k + 1))
      case measure => have := HK.out; omega
      case rel =>
        refine ⟨k + 1, ⟨by omega⟩, by omega, by go_num, ⟨?_⟩, ⟨?_⟩, ⟨?_⟩, HB6⟩
        · rw [HTK.out]
          intro z hz
          rcases List.mem_append.1 hz with h | h
          · exact HSZ.out z h
          · rw [List.mem_singleton] at h; subst h; omega
        · rw [HTK.out]
          have := HOS6.out
          rw [HNS.out] at this
          rwa [show (nums .i64 (szs (P.take k ++ [b]))).length = (szs (P.take k ++ [b])).length by simp [nums]] at this
        · rw [HTK.out, List.flatten_append]
          simpa using HOA6.out
    · have e : k = n0 := by omega
      subst e
      have hall : P.take k = P := List.take_of_length_le (by have := HL0.out; omega)
      rw [hall] at HSZ HOS HOA
      clear hall
      have HRB := Aside0.mk (right_of HSZ.out (by have := HL0.out; omega))
      have HSUM := Aside0.mk (show sizeOf (szs P) = ((P.flatten).length : Int) by rw [sizeOf, if_pos HRB.out, sum_szs])
      have hfl : (P.flatten).length ≤ 100000 := by have := flat_len HSZ.out; have := HL0.out; omega
      have HPO := Aside0.mk (show partsOf (szs P) off n = if clipOk ((P.flatten).length : Int) off n then partsTo (szs P) off (clipTo ((P.flatten).length : Int) off n) (szs P).length else [] by
        rw [partsOf, HSUM.out, HRB.out, Bool.and_true])
      have HGOT0 := Aside0.mk (fun tt h1 h2 => got_parts P off tt h1 h2 P.length (Nat.le_refl _))
      rw [List.take_length] at HGOT0
      generalize P.flatten = A at HOA HSUM hfl HPO HGOT0
      obtain ⟨A8, c8, rfl, hle8, hrd8⟩ := own_reads_of_le (enc := Value.int .i64) (d := 0) HOS.out
      have HC8 := Aside0.mk (Kd.C_of_reads (h1 := fun _ => rfl) hrd8)
      clear hrd8
      obtain ⟨A9, c9, rfl, hrd9⟩ := own_reads HOA.out
      have hle9 := own_le HOA.out
      have HC9 := Aside0.mk hrd9
      clear hrd9
      go_upto_region 14 with (go_at_call 12; refine (span_Parts.calls A8 c8 (szs P) off n _ wr HC8.out hle8 rfl).mono ?_; rintro e w7 ⟨v7, rfl, hR7, hb7⟩; have HR7 := Aside0.mk hR7; have HB7 := Aside0.mk (below_then HB.out HB.out.size hb7); have HB7' := Aside0.mk hb7; clear hR7 hb7)
      have HPO2 := Aside0.mk (show ((partsOf (szs P) off n).map fun x => (⟨x.1, x.2.1, x.2.2⟩ : S34)) = (if clipOk (A.length : Int) off n then partsTo (szs P) off (clipTo (A.length : Int) off n) (szs P).length else []).map mk34 by rw [HPO.out]; rfl)
      rw [HPO2.out] at HR7
      clear HPO HPO2
      obtain ⟨A11, c11, rfl⟩ := Kd.R_slice HR7.out
      by_cases c1 : off < 0
      · rw [show clipOk (A.length : Int) off n = false by simp only [clipOk, Bool.and_eq_true, Bool.and_eq_false_iff, decide_eq_true_eq, decide_eq_false_iff_not]; omega] at HR7 ⊢
        go_wp2
        go_ret
        exact ⟨rfl, HB7.out⟩
      by_cases c2 : (A.length : Int) < off
      · rw [show clipOk (A.length : Int) off n = false by simp only [clipOk, Bool.and_eq_true, Bool.and_eq_false_iff, decide_eq_true_eq, decide_eq_false_iff_not]; omega] at HR7 ⊢
        go_wp2
        go_ret
        exact ⟨rfl, HB7.out⟩
      by_cases c3 : n < 0
      · rw [show clipOk (A.length : Int) off n = false by simp only [clipOk, Bool.and_eq_true, Bool.and_eq_false_iff, decide_eq_true_eq, decide_eq_false_iff_not]; omega] at HR7 ⊢
        go_wp2
        go_ret
        exact ⟨rfl, HB7.out⟩
      rw [show clipOk (A.length : Int) off n = true by simp only [clipOk, Bool.and_eq_true, Bool.and_eq_false_iff, decide_eq_true_eq, decide_eq_false_iff_not]; omega, if_pos rfl] at HR7 ⊢
      have HT := Aside0.mk (show 0 ≤ off ∧ off ≤ clipTo (A.length : Int) off n by unfold clipTo; split <;> omega)
      have HGOT := Aside0.mk (HGOT0.out (clipTo (A.length : Int) off n) HT.out.1 HT.out.2)
      rw [show P.length = (szs P).length by simp [szs]] at HGOT
      have HMEM := Aside0.mk (parts_mem (szs P) off (clipTo (A.length : Int) off n) (szs P).length)
      have HRISE := Aside0.mk (parts_rise (szs P) off (clipTo (A.length : Int) off n) (szs P).length)
      generalize partsTo (szs P) off (clipTo (A.length : Int) off n) (szs P).length = L at HR7 HGOT HMEM HRISE ⊢
      have HL7 := Aside0.mk (Kd.R_reads' HR7.out).2.2
      rw [List.length_map] at HL7
      have HS7 := Aside0.mk (pw_own_below HOS.out HB7'.out)
      have HA7 := Aside0.mk (HC9.out.below HB7'.out)
      have hlen11 : L.length ≤ c11 := by have := (Kd.R_reads' HR7.out).2.1; rwa [List.length_map] at this
      have hlm : L.length ≤ 9223372036854775807 := by have := HL7.out.2.1; exact this
      clear HR7
      go_wp2
      go_loopg [12, 13, 14] L.length (fun g v12 v13 v14 wz => ∃ (i : Nat), Aside0 (g + i = L.length) ∧ i ≤ L.length ∧ v13 = .int .i64 i ∧ Aside0 (wz.ownsRow w7.heap.size 5 1 v12 (gotF P (L.take i)).length (nums .u8 (gotF P (L.take i)))) ∧ Aside0 (Below w7.heap.size w7 wz))
      case atStart => exact ⟨0, ⟨rfl⟩, by omega, rfl, ⟨own_nil _ _ _ _⟩, ⟨Below.refl _ _⟩⟩
      case round =>
        obtain ⟨i, HK2, hi, rfl, HG, HBZ⟩ := hrel
        by_cases hlt2 : i < L.length
        · obtain ⟨kx, hkx, ex1, hF0, hFT, hTz⟩ := HMEM.out L[i] (List.getElem_mem hlt2)
          have hkP : kx < k := by have := HL0.out; simp [szs] at hkx; omega
          rw [szs_getD P kx (by have := HL0.out; omega)] at hTz
          have hA0 : ∃ ad, A0 = some ad := by
            obtain ⟨ad, _, _, e, _⟩ := at_L3 HR0.out (0 : Int) (by omega) (by omega)
            exact ⟨ad, e⟩
          obtain ⟨ad, rfl⟩ := hA0
          obtain ⟨B, c, hbc, hcl⟩ := at_P HR0.out hkP
          have HCL := Aside0.mk hcl
          clear hcl
          have HSN := Aside0.mk (gotF_snoc P L i hlt2)
          have HPT := Aside0.mk (fun (W : World) (hB : Below w7.heap.size w7 W) => part_at HL7.out hB hlt2)
          have HRI := Aside0.mk (show ∀ j : Nat, i = j + 1 → ∃ y, L[j]? = some y ∧ y.1 < L[i].1 from fun j hj => by
            subst hj
            refine ⟨L[j], List.getElem?_eq_getElem (by omega), ?_⟩
            exact List.pairwise_iff_getElem.1 HRISE.out j (j + 1) (by omega) hlt2 (by omega))
          have HSL := Aside0.mk (show slOf P L[i] = ((P.getD kx []).take (L[i].2.2).toNat).drop (L[i].2.1).toNat by unfold slOf; rw [ex1, Int.toNat_natCast])
          generalize L[i] = x at ex1 hF0 hFT hTz HSN HPT HRI HSL
          obtain ⟨x1, x2, x3⟩ := x
          dsimp only at ex1 hF0 hFT hTz HPT HRI HSL
          subst ex1
          obtain ⟨F, rfl⟩ := Int.eq_ofNat_of_zero_le hF0
          obtain ⟨T, rfl⟩ := Int.eq_ofNat_of_zero_le (show 0 ≤ x3 by omega)
          rw [HSL.out] at HSN
          simp only [Int.toNat_natCast] at HSN
          clear HSL
          have hbl : (P.getD kx []).length ≤ 500 := by
            rw [List.getD_eq_getElem?_getD, List.getElem?_eq_getElem (show kx < P.length by have := HL0.out; omega)]
            exact (HSZ.out _ (List.getElem_mem _)).2
          generalize P.getD kx [] = b at hbc HCL HSN hTz hbl
          obtain ⟨ad11, e11, hx0, hx1, hx2⟩ := HPT.out wr HBZ.out
          subst e11
          go_upto_region 21 with (refine wpList_box34 rfl rfl ?_; intro gb w8 hgb hblk hb8; have hz0 := cell_of_row w8 gb 0 _ 34 (0, 0) hblk; have hz1 := cell_of_row w8 gb 1 _ 34 (0, 0) hblk; have hz2 := cell_of_row w8 gb 2 _ 34 (0, 0) hblk; have hf0 := free34 hblk 0; have hf1 := free34 hblk 1; have hf2 := free34 hblk 2; have HGB := Aside0.mk hgb; have HBK := Aside0.mk hblk; have HB8 := Aside0.mk hb8; clear hgb hblk hb8)
          clear hz0 hz1 hz2 hf0 hf1 hf2
          have HB9 := Aside0.mk (show Below w7.heap.size w7 (((w8.setCell ⟨gb, 0, none⟩ (.int .i64 (kx : Int))).setCell ⟨gb, 1, none⟩ (.int .i64 (F : Int))).setCell ⟨gb, 2, none⟩ (.int .i64 (T : Int))) from
            have hg : w7.heap.size ≤ gb := by rw [HGB.out]; exact HBZ.out.size
            (((below_then HBZ.out HBZ.out.size HB8.out).setCell hg _).setCell hg _).setCell hg _)
          have HBK9 := Aside0.mk (show (((w8.setCell ⟨gb, 0, none⟩ (.int .i64 (kx : Int))).setCell ⟨gb, 1, none⟩ (.int .i64 (F : Int))).setCell ⟨gb, 2, none⟩ (.int .i64 (T : Int))).heap[gb]? = some (.cells #[.int .i64 (kx : Int), .int .i64 (F : Int), .int .i64 (T : Int)] 34 (0, 0)) from
            blk_set (blk_set (blk_set HBK.out 0 _) 1 _) 2 _)
          have HG9 := Aside0.mk (show (((w8.setCell ⟨gb, 0, none⟩ (.int .i64 (kx : Int))).setCell ⟨gb, 1, none⟩ (.int .i64 (F : Int))).setCell ⟨gb, 2, none⟩ (.int .i64 (T : Int))).ownsRow w7.heap.size 5 1 u12 (gotF P (L.take i)).length (nums .u8 (gotF P (L.take i))) from by
            have hne : some gb ≠ u12.ownBlock := fun e => by
              have := (HG.out.lt gb e.symm).2
              have := HGB.out
              omega
            exact own_setCell (own_setCell (own_setCell (pw_own_below HG.out HB8.out) hne _) hne _) hne _)
          generalize (((w8.setCell ⟨gb, 0, none⟩ (.int .i64 (kx : Int))).setCell ⟨gb, 1, none⟩ (.int .i64 (F : Int))).setCell ⟨gb, 2, none⟩ (.int .i64 (T : Int))) = W9 at HB9 HBK9 HG9 ⊢
          clear HBK HB8
          have hp0 : W9.cell? ⟨gb, 0, none⟩ = some (.int .i64 (kx : Int)) := cell_of_row W9 gb 0 _ 34 (0, 0) HBK9.out
          have hp1 : W9.cell? ⟨gb, 1, none⟩ = some (.int .i64 (F : Int)) := cell_of_row W9 gb 1 _ 34 (0, 0) HBK9.out
          have hp2 : W9.cell? ⟨gb, 2, none⟩ = some (.int .i64 (T : Int)) := cell_of_row W9 gb 2 _ 34 (0, 0) HBK9.out
          have hcp := (HCL.out W9 (below_then HB7.out HB7.out.size HB9.out)).1
          have hrp := Aside0.mk (HCL.out W9 (below_then HB7.out HB7.out.size HB9.out)).2
          have a1 : ¬ ((kx : Int) < 0) := by omega
          have a2 : ¬ ((k : Int) ≤ (kx : Int)) := by omega
          have a3 : ¬ (k ≤ kx) := by omega
          have a4 : ¬ ((F : Int) < 0) := by omega
          have a5 : ¬ ((T : Int) ≤ (F : Int)) := by omega
          have a6 : ¬ (T ≤ F) := by omega
          have a7 : ¬ ((b.length : Int) < (T : Int)) := by omega
          have a8 : ¬ (b.length < T) := by omega
          have a9 : (kx : Int) < (k : Int) := by omega
          have b2 : decide ((k : Int) ≤ (kx : Int)) = false := by simp; omega
          have b3 : decide (k ≤ kx) = false := by simp; omega
          have b5 : decide ((T : Int) ≤ (F : Int)) = false := by simp; omega
          have b6 : decide (T ≤ F) = false := by simp; omega
          have b7 : decide ((b.length : Int) < (T : Int)) = false := by simp; omega
          have b8 : decide (b.length < T) = false := by simp; omega
          clear hx0 hx1 hx2
          have HGLEN := Aside0.mk (show (gotF P (L.take i)).length ≤ 100000 * 200 by
            have h1 : (gotF P L).length ≤ A.length := by rw [HGOT.out, List.length_drop, List.length_take]; omega
            have h2 : gotF P L = gotF P (L.take i) ++ gotF P (L.drop i) := by unfold gotF; rw [← List.flatMap_append, List.take_append_drop]
            rw [h2, List.length_append] at h1
            omega)
          have HBLEN := Aside0.mk (show b.length ≤ 100000 by omega)
          by_cases hi0 : i = 0
          · have hd4' : decide (0 < (i : Int)) = false := by simp; omega
            have hi1 : ¬ (0 < (i : Int)) := by omega
            have hd5 : decide (0 < i) = false := by simp; omega
            have hi2 : ¬ (0 < i) := by omega
            clear hi0
            go_quiet (fail)
            go_upto_region 23 with fail
            have q1 : T ≤ c := by omega
            have q2 : (T : Int) ≤ (c : Int) := by omega
            have q3 : F ≤ T := by omega
            have q4 : (F : Int) ≤ (T : Int) := by omega
            have HGL := Aside0.mk (show (gotF P (L.take i)).length + (T - F) ≤ 140737488355328 by
              have := HGLEN.out; have := HBLEN.out; omega)
            have HG10 := Aside0.mk (pw_own_below HG9.out (pw_below_drewN (Below.refl _ _) nq))
            have HRP10 := Aside0.mk (((hrp.out.take_ T (by omega)).drop_ F (by omega) (by omega)).below (pw_below_drewN (Below.refl _ _) nq))
            have HB10 := Aside0.mk (pw_below_drewN HB9.out nq)
            have r0 : (W9.drewN nq).cell? ⟨gb, 0, none⟩ = some (.int .i64 (kx : Int)) := hp0
            have r1 : (W9.drewN nq).cell? ⟨gb, 1, none⟩ = some (.int .i64 (F : Int)) := hp1
            have r2 : (W9.drewN nq).cell? ⟨gb, 2, none⟩ = some (.int .i64 (T : Int)) := hp2
            have r3 : (W9.drewN nq).cell? (ad.add kx) = some (.slice B b.length c) := hcp
            generalize W9.drewN nq = W10 at HG10 HRP10 HB10 r0 r1 r2 r3 ⊢
            replace HG10 := Aside0.mk (pw_own_below HG10.out (below_drew (Below.refl _ _)))
            replace HRP10 := Aside0.mk (HRP10.out.below (below_drew (Below.refl _ _)))
            replace HB10 := Aside0.mk (below_drew HB10.out)
            go_still_tail 11, (by kernel_rfl)
            change wpList _ _ _ _ _ W10.drew
            go_wp2_with (refine wpList_bytes w7.heap.size (.tmp 135) (.tmp 145) rfl rfl (gotF P (L.take i)) ((b.take T).drop F) rfl rfl HG10.out HRP10.out HB10.out.size HGL.out ?_; intro v13 W13 HO13 HB13 HG13; replace HO13 := Aside0.mk HO13; replace HB13 := Aside0.mk HB13; clear HG13)
            all_goals (
              go_roundg (L.length - (i + 1))
              case measure => have := HK2.out; omega
              case rel => exact ⟨i + 1, ⟨by omega⟩, by omega, by go_num, ⟨by rw [HSN.out]; exact HO13.out⟩, ⟨below_trans HB10.out HB13.out⟩⟩)
          · obtain ⟨j, hj⟩ : ∃ j, i = j + 1 := ⟨i - 1, by omega⟩
            obtain ⟨y, hy, hyl⟩ := HRI.out j hj
            have hjlt : j < L.length := by omega
            obtain ⟨ad', e', hj0, _, _⟩ := part_at HL7.out HB9.out hjlt
            injection e' with e'
            subst e'
            rw [List.getElem?_eq_getElem hjlt] at hy
            injection hy with hy
            rw [hy] at hj0
            obtain ⟨y1, y2, y3⟩ := y
            dsimp only at hyl hj0
            have c2 : ¬ ((kx : Int) ≤ y1) := by omega
            have d2 : decide ((kx : Int) ≤ y1) = false := by simp; omega
            have hj2 : IntKind.i64.wrap ((i : Int) - 1) = (j : Int) := by rw [IntKind.wrap_i64]; omega
            have hjl : (j : Int) < (L.length : Int) := by omega
            have hd4' : decide (0 < (i : Int)) = true := by simp; omega
            have hi1 : 0 < (i : Int) := by omega
            have hd5 : decide (0 < i) = true := by simp; omega
            have hi2 : 0 < i := by omega
            have HJ := Aside0.mk hj
            clear hj hi0 hy
            go_quiet (fail)
            go_upto_region 23 with fail
            have q1 : T ≤ c := by omega
            have q2 : (T : Int) ≤ (c : Int) := by omega
            have q3 : F ≤ T := by omega
            have q4 : (F : Int) ≤ (T : Int) := by omega
            have HGL := Aside0.mk (show (gotF P (L.take i)).length + (T - F) ≤ 140737488355328 by
              have := HGLEN.out; have := HBLEN.out; omega)
            have HG10 := Aside0.mk (pw_own_below HG9.out (pw_below_drewN (Below.refl _ _) nq))
            have HRP10 := Aside0.mk (((hrp.out.take_ T (by omega)).drop_ F (by omega) (by omega)).below (pw_below_drewN (Below.refl _ _) nq))
            have HB10 := Aside0.mk (pw_below_drewN HB9.out nq)
            have r0 : (W9.drewN nq).cell? ⟨gb, 0, none⟩ = some (.int .i64 (kx : Int)) := hp0
            have r1 : (W9.drewN nq).cell? ⟨gb, 1, none⟩ = some (.int .i64 (F : Int)) := hp1
            have r2 : (W9.drewN nq).cell? ⟨gb, 2, none⟩ = some (.int .i64 (T : Int)) := hp2
            have r3 : (W9.drewN nq).cell? (ad.add kx) = some (.slice B b.length c) := hcp
            generalize W9.drewN nq = W10 at HG10 HRP10 HB10 r0 r1 r2 r3 ⊢
            replace HG10 := Aside0.mk (pw_own_below HG10.out (below_drew (Below.refl _ _)))
            replace HRP10 := Aside0.mk (HRP10.out.below (below_drew (Below.refl _ _)))
            replace HB10 := Aside0.mk (below_drew HB10.out)
            go_still_tail 11, (by kernel_rfl)
            change wpList _ _ _ _ _ W10.drew
            go_wp2_with (refine wpList_bytes w7.heap.size (.tmp 135) (.tmp 145) rfl rfl (gotF P (L.take i)) ((b.take T).drop F) rfl rfl HG10.out HRP10.out HB10.out.size HGL.out ?_; intro v13 W13 HO13 HB13 HG13; replace HO13 := Aside0.mk HO13; replace HB13 := Aside0.mk HB13; clear HG13)
            all_goals (
              go_roundg (L.length - (i + 1))
              case measure => have := HK2.out; omega
              case rel => exact ⟨i + 1, ⟨by omega⟩, by omega, by go_num, ⟨by rw [HSN.out]; exact HO13.out⟩, ⟨below_trans HB10.out HB13.out⟩⟩)
        · have e2 : i = L.length := by omega
          subst e2
          have hG : gotF P (L.take L.length) = (A.take (clipTo (A.length : Int) off n).toNat).drop off.toNat := by rw [List.take_length]; exact HGOT.out
          rw [hG] at HG
          clear hG
          obtain ⟨G, hG2⟩ : ∃ G, (A.take (clipTo (A.length : Int) off n).toNat).drop off.toNat = G := ⟨_, rfl⟩
          rw [hG2] at HG
          have HGE := Aside0.mk hG2
          clear hG2
          obtain ⟨A12, c12, rfl, hr12⟩ := own_reads HG.out
          have HGW := Aside0.mk hr12
          clear hr12
          have HAW := Aside0.mk (HA7.out.below HBZ.out)
          obtain ⟨A8', c8', e8, hr8⟩ := own_reads (pw_own_below HS7.out HBZ.out)
          injection e8 with e8 _ e8'
          subst e8
          subst e8'
          have HSW := Aside0.mk hr8
          clear hr8
          obtain ⟨O, rfl⟩ := Int.eq_ofNat_of_zero_le (show 0 ≤ off by omega)
          have hOl : O ≤ A.length := by omega
          have hOl2 : (O : Int) ≤ (A.length : Int) := by omega
          have hOc : O ≤ c9 := by omega
          have hOc2 : (O : Int) ≤ (c9 : Int) := by omega
          have hw1 : IntKind.i64.wrap ((A.length : Int) - (O : Int)) = (A.length : Int) - (O : Int) := by rw [IntKind.wrap_i64]; omega
          have hw1' : wrap64 ((A.length : Int) - (O : Int)) = (A.length : Int) - (O : Int) := IntWalk.wrap64_in _ ⟨by omega, by omega⟩
          rw [Int.toNat_natCast] at HGE
          by_cases cm : (A.length : Int) - (O : Int) < n
          · have ht : (clipTo (A.length : Int) (O : Int) n).toNat = A.length := by unfold clipTo; rw [if_pos cm]; omega
            rw [ht] at HGE
            have HX := Aside0.mk (ReadsInt.drop_ (c := c9) (HAW.out.take_ A.length (by omega)) O (by omega) (by omega))
            rw [HGE.out] at HX
            clear ht
            have hw2 : IntKind.i64.wrap ((O : Int) + ((A.length : Int) - (O : Int))) = (A.length : Int) := by rw [IntKind.wrap_i64]; omega
            have hw3 : IntKind.i64.wrap (A.length : Int) = (A.length : Int) := by rw [IntKind.wrap_i64]; omega
            go_upto_region 24 with fail
            apply wp_region_grow (hm := by kernel_rfl) (hB := by kernel_rfl)
            case h =>
              apply grow_fixed
              case hw => simp [Region.wanted, yielded]
              case ho =>
                intro w' hb hf
                clear hf
                refine ⟨?_⟩
                go_simp
                exact ⟨Ext.refl _ _, rfl⟩
              simp only [Act.put]
              apply grow_fixed
              case hw => simp [Region.wanted, yielded]
              case ho =>
                intro w' hb hf
                clear hf
                refine ⟨?_⟩
                go_simp
                exact ⟨Ext.refl _ _, rfl⟩
              simp only [Act.put]
              apply grow_fixed
              case hw => simp [Region.wanted, yielded]
              case ho =>
                intro w' hb hf
                clear hf
                refine ⟨?_⟩
                go_simp
                exact ⟨Ext.refl _ _, rfl⟩
              simp only [Act.put]
              apply grow_fixed (c := .string (strOfNums G))
              case hw => simp [Region.wanted, yielded]
              case ho =>
                intro w' hb hf
                clear hf
                have hc := conv_str (HGW.out.below hb) c12
                refine ⟨?_⟩
                go_simp
                exact ⟨Ext.refl _ _, rfl⟩
              simp only [Act.put]
              apply grow_fixed
              case hw => simp [Region.wanted, yielded]
              case ho =>
                intro w' hb hf
                clear hf
                refine ⟨?_⟩
                go_simp
                exact ⟨Ext.refl _ _, rfl⟩
              simp only [Act.put]
              apply grow_fixed
              case hw => simp [Region.wanted, yielded]
              case ho =>
                intro w' hb hf
                clear hf
                refine ⟨?_⟩
                go_simp
                exact ⟨Ext.refl _ _, rfl⟩
              simp only [Act.put]
              apply grow_fixed
              case hw => simp [Region.wanted, yielded]
              case ho =>
                intro w' hb hf
                clear hf
                refine ⟨?_⟩
                go_simp
                exact ⟨Ext.refl _ _, rfl⟩
              simp only [Act.put]
              apply grow_fixed
              case hw => simp [Region.wanted, yielded]
              case ho =>
                intro w' hb hf
                clear hf
                refine ⟨?_⟩
                go_simp
                exact ⟨Ext.refl _ _, rfl⟩
              simp only [Act.put]
              apply grow_fixed
              case hw => simp [Region.wanted, yielded]
              case ho =>
                intro w' hb hf
                clear hf
                refine ⟨?_⟩
                go_simp
                exact ⟨Ext.refl _ _, rfl⟩
              simp only [Act.put]
              apply grow_fixed
              case hw => simp [Region.wanted, yielded]
              case ho =>
                intro w' hb hf
                clear hf
                refine ⟨?_⟩
                go_simp
                exact ⟨Ext.refl _ _, rfl⟩
              simp only [Act.put]
              apply grow_fixed
              case hw => simp [Region.wanted, yielded]
              case ho =>
                intro w' hb hf
                clear hf
                refine ⟨?_⟩
                go_simp
                exact ⟨Ext.refl _ _, rfl⟩
              simp only [Act.put]
              apply grow_fixed
              case hw => simp [Region.wanted, yielded]
              case ho =>
                intro w' hb hf
                clear hf
                refine ⟨?_⟩
                go_simp
                exact ⟨Ext.refl _ _, rfl⟩
              simp only [Act.put]
              apply grow_fixed
              case hw => simp [Region.wanted, yielded]
              case ho =>
                intro w' hb hf
                clear hf
                refine ⟨?_⟩
                go_simp
                exact ⟨Ext.refl _ _, rfl⟩
              simp only [Act.put]
              apply grow_fixed
              case hw => simp [Region.wanted, yielded]
              case ho =>
                intro w' hb hf
                clear hf
                refine ⟨?_⟩
                go_simp
                exact ⟨Ext.refl _ _, rfl⟩
              simp only [Act.put]
              apply grow_fixed
              case hw => simp [Region.wanted, yielded]
              case ho =>
                intro w' hb hf
                clear hf
                refine ⟨?_⟩
                go_simp
                exact ⟨Ext.refl _ _, rfl⟩
              simp only [Act.put]
              apply grow_fixed (c := .string (strOfNums G))
              case hw => simp [Region.wanted, yielded]
              case ho =>
                intro w' hb hf
                clear hf
                have hc := conv_str (HX.out.below hb) (c9 - O)
                refine ⟨?_⟩
                go_simp
                exact ⟨Ext.refl _ _, rfl⟩
              simp only [Act.put]
              apply grow_fixed
              case hw => simp [Region.wanted, yielded]
              case ho =>
                intro w' hb hf
                clear hf
                refine ⟨?_⟩
                go_simp
                exact ⟨Ext.refl _ _, rfl⟩
              simp only [Act.put]
              apply grow_fixed
              case hw => simp [Region.wanted, yielded]
              case ho =>
                intro w' hb hf
                clear hf
                refine ⟨?_⟩
                go_simp
                exact ⟨Ext.refl _ _, rfl⟩
              simp only [Act.put]
              apply grow_fixed
              case hw => simp [Region.wanted, yielded]
              case ho =>
                intro w' hb hf
                clear hf
                refine ⟨?_⟩
                go_simp
                exact ⟨Ext.refl _ _, rfl⟩
              simp only [Act.put]
              apply grow_fixed
              case hw => simp [Region.wanted, yielded]
              case ho =>
                intro w' hb hf
                clear hf
                refine ⟨?_⟩
                go_simp
                exact ⟨Ext.refl _ _, rfl⟩
              simp only [Act.put]
              apply grow_fixed (c := .int .i64 (A.length : Int))
              case hw => simp [Region.wanted, yielded]
              case ho =>
                intro w' hb hf
                clear hf
                refine ⟨?_⟩
                go_simp
                exact (size_calls A8 _ c8 (szs P) w' (HSW.out.below hb)).mono fun e w2 ⟨he, hb2⟩ => ⟨_, by rw [he, HSUM.out], .of_below hb.size hb2, rfl⟩
              simp only [Act.put]
              apply grow_fixed
              case hw => simp [Region.wanted, yielded]
              case ho =>
                intro w' hb hf
                clear hf
                refine ⟨?_⟩
                go_simp
                exact ⟨Ext.refl _ _, rfl⟩
              simp only [Act.put]
              apply grow_fixed
              case hw => simp [Region.wanted, yielded]
              case ho =>
                intro w' hb hf
                clear hf
                refine ⟨?_⟩
                go_simp
                exact ⟨Ext.refl _ _, rfl⟩
              simp only [Act.put]
              apply grow_fixed
              case hw => simp [Region.wanted, yielded]
              case ho =>
                intro w' hb hf
                clear hf
                refine ⟨?_⟩
                go_simp
                exact ⟨Ext.refl _ _, rfl⟩
              simp only [Act.put]
              apply grow_fixed
              case hw => simp [Region.wanted, yielded]
              case ho =>
                intro w' hb hf
                clear hf
                refine ⟨?_⟩
                go_simp
                exact ⟨Ext.refl _ _, rfl⟩
              simp only [Act.put]
              apply grow_fixed
              case hw => simp [Region.wanted, yielded]
              case ho =>
                intro w' hb hf
                clear hf
                refine ⟨?_⟩
                go_simp
                exact ⟨Ext.refl _ _, rfl⟩
              simp only [Act.put]
              refine grow_nil (fun w' hb hf => ?_)
              clear hf
              have HBF := Aside0.mk (below_then HBZ.out HBZ.out.size hb)
              clear hb
              go_wp2
              all_goals go_ret
              all_goals exact ⟨rfl, below_then HB7.out HB7.out.size HBF.out⟩
            case hsp => simp [monoAll]
          · obtain ⟨N, rfl⟩ := Int.eq_ofNat_of_zero_le (show 0 ≤ n by omega)
            have ht : (clipTo (A.length : Int) (O : Int) (N : Int)).toNat = O + N := by unfold clipTo; rw [if_neg cm]; omega
            rw [ht] at HGE
            have HX := Aside0.mk (ReadsInt.drop_ (c := c9) (HAW.out.take_ (O + N) (by omega)) O (by omega) (by omega))
            rw [HGE.out, Nat.add_sub_cancel_left] at HX
            clear ht
            have hn1 : ((O : Int) + (N : Int)).toNat = O + N := by omega
            have hn2 : (0 : Int) ≤ (O : Int) + (N : Int) := by omega
            have hn3 : O ≤ O + N := by omega
            have hn4 : (O : Int) ≤ (O : Int) + (N : Int) := by omega
            have hw2 : IntKind.i64.wrap ((O : Int) + (N : Int)) = (O : Int) + (N : Int) := by rw [IntKind.wrap_i64]; omega
            have hw3 : O + N ≤ c9 := by omega
            have hw4 : (O : Int) + (N : Int) ≤ (c9 : Int) := by omega
            go_upto_region 24 with fail
            apply wp_region_grow (hm := by kernel_rfl) (hB := by kernel_rfl)
            case h =>
              apply grow_fixed
              case hw => simp [Region.wanted, yielded]
              case ho =>
                intro w' hb hf
                clear hf
                refine ⟨?_⟩
                go_simp
                exact ⟨Ext.refl _ _, rfl⟩
              simp only [Act.put]
              apply grow_fixed
              case hw => simp [Region.wanted, yielded]
              case ho =>
                intro w' hb hf
                clear hf
                refine ⟨?_⟩
                go_simp
                exact ⟨Ext.refl _ _, rfl⟩
              simp only [Act.put]
              apply grow_fixed
              case hw => simp [Region.wanted, yielded]
              case ho =>
                intro w' hb hf
                clear hf
                refine ⟨?_⟩
                go_simp
                exact ⟨Ext.refl _ _, rfl⟩
              simp only [Act.put]
              apply grow_fixed (c := .string (strOfNums G))
              case hw => simp [Region.wanted, yielded]
              case ho =>
                intro w' hb hf
                clear hf
                have hc := conv_str (HGW.out.below hb) c12
                refine ⟨?_⟩
                go_simp
                exact ⟨Ext.refl _ _, rfl⟩
              simp only [Act.put]
              apply grow_fixed
              case hw => simp [Region.wanted, yielded]
              case ho =>
                intro w' hb hf
                clear hf
                refine ⟨?_⟩
                go_simp
                exact ⟨Ext.refl _ _, rfl⟩
              simp only [Act.put]
              apply grow_fixed
              case hw => simp [Region.wanted, yielded]
              case ho =>
                intro w' hb hf
                clear hf
                refine ⟨?_⟩
                go_simp
                exact ⟨Ext.refl _ _, rfl⟩
              simp only [Act.put]
              apply grow_fixed
              case hw => simp [Region.wanted, yielded]
              case ho =>
                intro w' hb hf
                clear hf
                refine ⟨?_⟩
                go_simp
                exact ⟨Ext.refl _ _, rfl⟩
              simp only [Act.put]
              apply grow_fixed
              case hw => simp [Region.wanted, yielded]
              case ho =>
                intro w' hb hf
                clear hf
                refine ⟨?_⟩
                go_simp
                exact ⟨Ext.refl _ _, rfl⟩
              simp only [Act.put]
              apply grow_fixed
              case hw => simp [Region.wanted, yielded]
              case ho =>
                intro w' hb hf
                clear hf
                refine ⟨?_⟩
                go_simp
                exact ⟨Ext.refl _ _, rfl⟩
              simp only [Act.put]
              apply grow_fixed
              case hw => simp [Region.wanted, yielded]
              case ho =>
                intro w' hb hf
                clear hf
                refine ⟨?_⟩
                go_simp
                exact ⟨Ext.refl _ _, rfl⟩
              simp only [Act.put]
              apply grow_fixed
              case hw => simp [Region.wanted, yielded]
              case ho =>
                intro w' hb hf
                clear hf
                refine ⟨?_⟩
                go_simp
                exact ⟨Ext.refl _ _, rfl⟩
              simp only [Act.put]
              apply grow_fixed
              case hw => simp [Region.wanted, yielded]
              case ho =>
                intro w' hb hf
                clear hf
                refine ⟨?_⟩
                go_simp
                exact ⟨Ext.refl _ _, rfl⟩
              simp only [Act.put]
              apply grow_fixed
              case hw => simp [Region.wanted, yielded]
              case ho =>
                intro w' hb hf
                clear hf
                refine ⟨?_⟩
                go_simp
                exact ⟨Ext.refl _ _, rfl⟩
              simp only [Act.put]
              apply grow_fixed
              case hw => simp [Region.wanted, yielded]
              case ho =>
                intro w' hb hf
                clear hf
                refine ⟨?_⟩
                go_simp
                exact ⟨Ext.refl _ _, rfl⟩
              simp only [Act.put]
              apply grow_fixed
              case hw => simp [Region.wanted, yielded]
              case ho =>
                intro w' hb hf
                clear hf
                refine ⟨?_⟩
                go_simp
                exact ⟨Ext.refl _ _, rfl⟩
              simp only [Act.put]
              apply grow_fixed (c := .string (strOfNums G))
              case hw => simp [Region.wanted, yielded]
              case ho =>
                intro w' hb hf
                clear hf
                have hc := conv_str (HX.out.below hb) (c9 - O)
                refine ⟨?_⟩
                go_simp
                exact ⟨Ext.refl _ _, rfl⟩
              simp only [Act.put]
              apply grow_fixed
              case hw => simp [Region.wanted, yielded]
              case ho =>
                intro w' hb hf
                clear hf
                refine ⟨?_⟩
                go_simp
                exact ⟨Ext.refl _ _, rfl⟩
              simp only [Act.put]
              apply grow_fixed
              case hw => simp [Region.wanted, yielded]
              case ho =>
                intro w' hb hf
                clear hf
                refine ⟨?_⟩
                go_simp
                exact ⟨Ext.refl _ _, rfl⟩
              simp only [Act.put]
              apply grow_fixed
              case hw => simp [Region.wanted, yielded]
              case ho =>
                intro w' hb hf
                clear hf
                refine ⟨?_⟩
                go_simp
                exact ⟨Ext.refl _ _, rfl⟩
              simp only [Act.put]
              apply grow_fixed
              case hw => simp [Region.wanted, yielded]
              case ho =>
                intro w' hb hf
                clear hf
                refine ⟨?_⟩
                go_simp
                exact ⟨Ext.refl _ _, rfl⟩
              simp only [Act.put]
              apply grow_fixed (c := .int .i64 (A.length : Int))
              case hw => simp [Region.wanted, yielded]
              case ho =>
                intro w' hb hf
                clear hf
                refine ⟨?_⟩
                go_simp
                exact (size_calls A8 _ c8 (szs P) w' (HSW.out.below hb)).mono fun e w2 ⟨he, hb2⟩ => ⟨_, by rw [he, HSUM.out], .of_below hb.size hb2, rfl⟩
              simp only [Act.put]
              apply grow_fixed
              case hw => simp [Region.wanted, yielded]
              case ho =>
                intro w' hb hf
                clear hf
                refine ⟨?_⟩
                go_simp
                exact ⟨Ext.refl _ _, rfl⟩
              simp only [Act.put]
              apply grow_fixed
              case hw => simp [Region.wanted, yielded]
              case ho =>
                intro w' hb hf
                clear hf
                refine ⟨?_⟩
                go_simp
                exact ⟨Ext.refl _ _, rfl⟩
              simp only [Act.put]
              apply grow_fixed
              case hw => simp [Region.wanted, yielded]
              case ho =>
                intro w' hb hf
                clear hf
                refine ⟨?_⟩
                go_simp
                exact ⟨Ext.refl _ _, rfl⟩
              simp only [Act.put]
              apply grow_fixed
              case hw => simp [Region.wanted, yielded]
              case ho =>
                intro w' hb hf
                clear hf
                refine ⟨?_⟩
                go_simp
                exact ⟨Ext.refl _ _, rfl⟩
              simp only [Act.put]
              apply grow_fixed
              case hw => simp [Region.wanted, yielded]
              case ho =>
                intro w' hb hf
                clear hf
                refine ⟨?_⟩
                go_simp
                exact ⟨Ext.refl _ _, rfl⟩
              simp only [Act.put]
              refine grow_nil (fun w' hb hf => ?_)
              clear hf
              have HBF := Aside0.mk (below_then HBZ.out HBZ.out.size hb)
              clear hb
              go_wp2
              all_goals go_ret
              all_goals exact ⟨rfl, below_then HB7.out HB7.out.size HBF.out⟩
            case hsp => simp [monoAll]
end Go.Proofs.Ytbadkblofihjhaa
