/-
  Layer 6: CutParted's function.
-/
import Derived.Test.YtoaokmlpeijepaaRowsAt
namespace Go.Proofs.Ytoaokmlpeijepaa
set_option linter.unusedVariables false
set_option linter.unusedSimpArgs false
open Go.RowKit Go.Proofs.YtoaokmlpeijepaaW.PrintWords

theorem reads_take {w : World} {k : IntKind} {A : Option Addr} {n : Nat} {b : List Int} (h : ReadsInt w k A n b) (m : Nat) (hm : m ≤ n) : ReadsInt w k A m (b.take m) := by
  have h0 := h.1
  have h1 := h.2.1
  refine ⟨by rw [List.length_take]; omega, by omega, fun hn => ?_⟩
  obtain ⟨ad, e, hc⟩ := h.2.2 (by omega)
  refine ⟨ad, e, fun j hj => ?_⟩
  rw [hc j (by omega), List.getD_eq_getElem?_getD, List.getD_eq_getElem?_getD, List.getElem?_take, if_pos hj]
theorem reads_drop {w : World} {k : IntKind} {A : Option Addr} {n : Nat} {b : List Int} (h : ReadsInt w k A n b) (m c : Nat) (hm : m ≤ n) (hc : n ≤ c) : ReadsInt w k (if c = m then A else A.map (·.add m)) (n - m) (b.drop m) := by
  have h0 := h.1
  have h1 := h.2.1
  refine ⟨by rw [List.length_drop]; omega, by omega, fun hn => ?_⟩
  obtain ⟨ad, e, hcl⟩ := h.2.2 (by omega)
  subst e
  rw [if_neg (by omega)]
  refine ⟨ad.add m, rfl, fun j hj => ?_⟩
  rw [Addr.add_add, hcl (m + j) (by omega), List.getD_eq_getElem?_getD, List.getD_eq_getElem?_getD, List.getElem?_drop]

set_option maxRecDepth 100000 in
set_option maxHeartbeats 4000000 in
theorem parted_calls (s at_ : Int) (hs0 : 0 ≤ s) (hs1 : s < 256) (ha0 : 0 ≤ at_) (ha1 : at_ < 65536) (A : Option Addr) (n c : Nat) (b : List Int) (w : World) (hr : ReadsInt w .u8 A n b) (hnc : n ≤ c) :
    Calls Try.prog 5 #[.int .u8 s, .slice A n c, .int .u16 at_] w fun e w' => e = .returned (.bool true) ∧ Below w.heap.size w w' := by
  have HR := Aside0.mk hr
  have hm1 := hr.2.1
  have HLN := Aside0.mk hr.1
  clear hr
  go_enter Try.func5, Try.ntmps5
  go_upto_region 2 with (go_at_call 8; refine (head_calls _).mono ?_; rintro e w1 ⟨rfl, hb1⟩; have HB1 := Aside0.mk hb1; clear hb1)
  go_upto_region 3 with fail
  obtain ⟨each, heach⟩ : ∃ each : Nat, 1 + s = (each : Int) := ⟨(1 + s).toNat, by omega⟩
  have hx1 : 1 ≤ each := by omega
  have hx2 : each ≤ 4096 := by omega
  rw [heach]
  clear heach
  go_upto_region 4 with (go_at_call 10; refine (new_calls each _ (by omega) (by omega)).mono ?_; rintro e w2 ⟨g, rfl, hg0, hc2, hb2⟩; have HG0 := Aside0.mk (show w.heap.size ≤ g from hg0 ▸ HB1.out.size); have HC2 := Aside0.mk hc2; have HB2 := Aside0.mk (below_then HB1.out HB1.out.size hb2); clear hg0 hc2 hb2)
  go_upto_region 5 with (go_at_call 10; refine (new_calls each _ (by omega) (by omega)).mono ?_; rintro e w3 ⟨g', rfl, hg0, hc3, hb3⟩; have HNE := Aside0.mk (show g < g' from by have := HC2.out.lt; omega); have HG0' := Aside0.mk (show w.heap.size ≤ g' from hg0 ▸ HB2.out.size); have HC3 := Aside0.mk hc3; have HCx := Aside0.mk (HC2.out.below hb3); have HB3 := Aside0.mk (below_then HB2.out HB2.out.size hb3); clear hg0 hc3 hb3 HC2 HB2)
  by_cases hn : n > 9000
  · go_wp2
    go_ret
    exact ⟨rfl, HB3.out⟩
  have hn' : n ≤ 9000 := by omega
  have hd : decide ((n : Int) > 9000) = false := by simp; omega
  go_upto_region 7 with fail
  obtain ⟨k, hk⟩ : ∃ k : Nat, at_ % ((n : Int) + 1) = (k : Int) := ⟨(at_ % ((n : Int) + 1)).toNat, by have := Int.emod_nonneg at_ (show ((n : Int) + 1) ≠ 0 by omega); omega⟩
  have hkn : k ≤ n := by have := Int.emod_lt_of_pos at_ (show (0 : Int) < (n : Int) + 1 by omega); omega
  go_upto_region 8 with fail
  rw [hk]
  clear hk
  go_upto_region 9 with (go_at_call 14; refine (write_calls g each 0 none 0 [] A n c b w3 HCx.out (HR.out.below HB3.out) hx1 hx2 (by simp only [List.length_nil]; omega) (by omega) (by omega)).mono ?_; rintro e w4 ⟨v, xs, rfl, hrow, hout, hlt4, hg4⟩; have HROW := Aside0.mk hrow; have HOUT := Aside0.mk hout; have HLT := Aside0.mk hlt4; have HG4 := Aside0.mk hg4; clear hrow hout hlt4 hg4)
  have HC4 := Aside0.mk (HC3.out.far HCx.out HG4.out (by have := HNE.out; omega))
  have HB4 := Aside0.mk (below_far HB3.out HG4.out HG0.out)
  have HR4 := Aside0.mk (HR.out.below HB4.out)
  obtain ⟨Ax, cx, hcx, hfx⟩ := HOUT.out.cut
  have HCX := Aside0.mk hcx
  have HFX := Aside0.mk hfx
  have HROWS := Aside0.mk (RowsAt.of HROW.out HOUT.out)
  have HLE := Aside0.mk HOUT.out.le
  clear hcx hfx HOUT HROW HC3 HCx
  go_upto_region 10 with (go_at_call 14; refine (write_calls g' each 0 none 0 [] A k c (b.take k) w4 HC4.out (reads_take HR4.out k hkn) hx1 hx2 (by simp only [List.length_nil]; omega) (by omega) (by omega)).mono ?_; rintro e w5 ⟨v5, xs5, rfl, hrow, hout, hlt4, hg4⟩; have HROW5 := Aside0.mk hrow; have HOUT5 := Aside0.mk hout; have HLT5 := Aside0.mk hlt4; have HG5 := Aside0.mk hg4; clear hrow hout hlt4 hg4)
  have HB5 := Aside0.mk (below_far HB4.out HG5.out HG0'.out)
  have HR5 := Aside0.mk (HR.out.below HB5.out)
  have HCX5 := Aside0.mk (HCX.out.far HC4.out HG5.out (by have := HNE.out; omega))
  have HROWS5 := Aside0.mk (HROWS.out.step (Stays.cut HC4.out HG5.out))
  obtain ⟨Ay, cy, hcy, hfy⟩ := HOUT5.out.cut
  have HCY := Aside0.mk hcy
  have HRO5 := Aside0.mk (RowsAt.of HROW5.out HOUT5.out)
  have HLE5 := Aside0.mk HOUT5.out.le
  have hsz5 := HG5.out.size
  clear hcy hfy HOUT5 HROW5 HC4 HCX HROWS
  obtain ⟨A', hA', hsl⟩ := cut_from (A := A) k hkn hnc
  have HRD := Aside0.mk (reads_drop HR5.out k c hkn hnc)
  rw [← hA'] at HRD
  clear hA'
  have HLL := Aside0.mk (show ((List.drop (each * xs5.length) ([] ++ List.take k b)).length + (n - k)) * 24 ≤ 140737488355328 by simp only [List.nil_append, List.length_drop, List.length_take]; omega)
  go_upto_region 11 with (go_at_call 14; refine (write_calls g' each (0 + (k : Int)) Ay cy _ A' (n - k) (c - k) (b.drop k) w5 HCY.out HRD.out hx1 hx2 HLL.out (by omega) (by omega)).mono ?_; rintro e w6 ⟨v6, xs6, rfl, hrow, hout, hlt4, hg4⟩; have HROW6 := Aside0.mk hrow; have HOUT6 := Aside0.mk hout; have HLT6 := Aside0.mk hlt4; have HG6 := Aside0.mk hg4; clear hrow hout hlt4 hg4)
  have HB6 := Aside0.mk (below_far HB5.out HG6.out HG0'.out)
  have HCX6 := Aside0.mk (HCX5.out.far HCY.out HG6.out (by have := HNE.out; omega))
  have HR1 := Aside0.mk ((HROWS5.out.step (Stays.cut HCY.out HG6.out)).mono (show w3.heap.size ≤ w3.heap.size from Nat.le_refl _))
  have HR2 := Aside0.mk (HRO5.out.step (Stays.cut HCY.out HG6.out))
  have HR3 := Aside0.mk (RowsAt.of HROW6.out HOUT6.out)
  obtain ⟨Az, cz, hcz, -⟩ := HOUT6.out.cut
  have HCZ := Aside0.mk hcz
  have HP := Aside0.mk (parted_plain b each k xs.length xs5.length xs6.length hx1 (by have := HLN.out; omega) HLE.out HLT.out (by have := HLE5.out; simp only [List.nil_append, List.length_take] at this; omega) (by have := HLT5.out; have h2 := HLN.out; rw [List.nil_append, List.length_take] at this; omega) HOUT6.out.le HLT6.out)
  -- REGION
  have hsz6 : w3.heap.size ≤ w6.heap.size := Nat.le_trans HG4.out.size (Nat.le_trans HG5.out.size HG6.out.size)
  have hgl : g < w6.heap.size := HCX6.out.lt
  have hgl' : g' < w6.heap.size := HCZ.out.lt
  have HST := Aside0.mk (show ∀ W : World, KeepS (fun k => k = g ∨ k = g' ∨ w6.heap.size ≤ k) w6 W → Stays 0 w6 W from fun W hW k cs t _ hk ht => by
    refine (hW.block k (lt_heap hk) fun e => ?_).trans hk
    rcases e with e | e | e
    · subst e
      rw [HCX6.out.blk] at hk
      injection hk with hk
      injection hk with _ h2
      subst h2
      rcases ht with h | h <;> cases h
    · subst e
      rw [HCZ.out.blk] at hk
      injection hk with hk
      injection hk with _ h2
      subst h2
      rcases ht with h | h <;> cases h
    · have := lt_heap hk; omega)
  clear HG4 HG5 HG6 hcz HROW6 HOUT6
  obtain ⟨LX, hLX⟩ : ∃ L, L = List.drop (each * xs.length) ([] ++ b) := ⟨_, rfl⟩
  obtain ⟨LZ, hLZ⟩ : ∃ L, L = List.drop (each * xs6.length) (List.drop (each * xs5.length) ([] ++ List.take k b) ++ List.drop k b) := ⟨_, rfl⟩
  rw [← hLX] at HCX6
  rw [← hLZ] at HCZ
  have HLXZ := Aside0.mk (show LX = LZ by rw [hLX, hLZ]; exact HP.out.2.2)
  have HLB := Aside0.mk (show LX.length ≤ 9000 by rw [hLX]; have := HLN.out; simp; omega)
  clear hLX hLZ
  generalize 0 + (n : Int) = tx at HCX6
  generalize 0 + (k : Int) + ((n - k : Nat) : Int) = tz at HCZ
  have HXB := Aside0.mk (show (xs5.length + xs6.length) * 24 ≤ 140737488355328 by
    have h1 := HP.out.1
    have h2 := HLE.out
    have h3 := HLN.out
    have h4 : xs.length ≤ each * xs.length := Nat.le_mul_of_pos_left _ (by omega)
    rw [List.nil_append] at h2
    omega)
  apply wp_region_phase Grows (KeepS (fun k => k = g ∨ k = g' ∨ w6.heap.size ≤ k)) (phaseK _) (fun w' => CutAt w' g (each : Int) tx Ax cx LX ∧ CutAt w' g' (each : Int) tz Az cz LZ) ⟨HCX6.out, HCZ.out⟩ (fun a c h hh => ⟨hh.1.below h, hh.2.below h⟩) (hm := by kernel_rfl) (hB := by kernel_rfl)
  case h =>
    iterate 3
      apply phase_fixed
      case hw => simp [Region.wanted, yielded]
      case ho =>
        intro w' hk hf
        clear hf
        refine ⟨?_⟩
        go_simp
        exact ⟨Grows.refl _, rfl⟩
      simp only [Act.put, List.setIfInBounds_toArray, List.set_cons_zero, List.set_cons_succ]
    apply phase_free (G := fun v _ => ∃ a, v = .slice a 0 0)
    case hw => simp [Region.wanted, yielded]
    case ho =>
      intro w' hk hf
      clear hf
      refine ⟨?_⟩
      go_simp
      exact ⟨(Below.refl _ _).alloc (Nat.le_refl _) _, _, rfl⟩
    case hm => exact fun v w w' h _ => h
    intro v7
    simp only [Act.put, List.setIfInBounds_toArray, List.set_cons_zero, List.set_cons_succ]
    iterate 1
      apply phase_fixed
      case hw => simp [Region.wanted, yielded]
      case ho =>
        intro w' hk hf
        clear hf
        refine ⟨?_⟩
        go_simp
        exact ⟨Grows.refl _, rfl⟩
      simp only [Act.put, List.setIfInBounds_toArray, List.set_cons_zero, List.set_cons_succ]
    apply phase_turn_free (G := fun _ _ => True) (J := fun v w' => (CutAt w' g (each : Int) tx Ax cx LX ∧ CutAt w' g' (each : Int) tz Az cz LZ) ∧ OwnE w' w6.heap.size 29 1 v xs5.length (xs5.map (hdr each)))
    case hw => simp [Region.wanted, yielded]
    case ho =>
      intro w' hk hf hI
      obtain ⟨a7, e7⟩ : ∃ a, v7 = .slice a 0 0 := hf _ (List.Mem.head _) (by kernel_rfl)
      clear hf
      subst e7
      have h5 := (HR2.out.mono (Nat.zero_le _)).step (HST.out w' hk)
      have hsw := hk.size
      obtain ⟨v', w'', hr, h3, h4⟩ := append_rows (B := w6.heap.size) (each := each) (xs := []) 33 (OwnE.nil a7) h5.row (by have := HXB.out; first | omega | (simp only [List.length_nil]; omega)) hsw
      exact growAt_append (.tmp 65) (.tmp 66) 33 rfl rfl rfl ⟨v', w'', hr, h4.mono (fun k _ e => .inr (.inr e.1)), ⟨⟨hI.1.apart h4, hI.2.apart h4⟩, h3⟩, trivial⟩
    case hJ => exact fun v a c h hh => ⟨⟨hh.1.1.below h, hh.1.2.below h⟩, hh.2.grows h⟩
    case hm => exact fun _ _ _ _ _ => trivial
    intro v8
    simp only [Act.put, List.setIfInBounds_toArray, List.set_cons_zero, List.set_cons_succ]
    iterate 1
      apply phase_fixed
      case hw => simp [Region.wanted, yielded]
      case ho =>
        intro w' hk hf
        clear hf
        refine ⟨?_⟩
        go_simp
        exact ⟨Grows.refl _, rfl⟩
      simp only [Act.put, List.setIfInBounds_toArray, List.set_cons_zero, List.set_cons_succ]
    apply phase_turn_free (G := fun v w' => True) (J := fun v w' => (CutAt w' g (each : Int) tx Ax cx LX ∧ CutAt w' g' (each : Int) tz Az cz LZ) ∧ OwnE w' w6.heap.size 29 1 v (xs5 ++ xs6).length ((xs5 ++ xs6).map (hdr each)))
    case hw => simp [Region.wanted, yielded]
    case ho =>
      intro w' hk hf hI
      clear hf
      have h5 := (HR3.out.mono (Nat.zero_le _)).step (HST.out w' hk)
      have hsw := hk.size
      obtain ⟨v', w'', hr, h3, h4⟩ := append_rows (B := w6.heap.size) (each := each) (xs := xs5) 33 hI.2 h5.row (by have := HXB.out; first | omega | (simp only [List.length_nil]; omega)) hsw
      exact growAt_append (.tmp 67) (.tmp 68) 33 rfl rfl rfl ⟨v', w'', hr, h4.mono (fun k _ e => .inr (.inr e.1)), ⟨⟨hI.1.1.apart h4, hI.1.2.apart h4⟩, h3⟩, trivial⟩
    case hJ => exact fun v a c h hh => ⟨⟨hh.1.1.below h, hh.1.2.below h⟩, hh.2.grows h⟩
    case hm => exact fun _ _ _ _ _ => trivial
    intro v9
    simp only [Act.put, List.setIfInBounds_toArray, List.set_cons_zero, List.set_cons_succ]
    apply phase_turn (c := .bool true) (J := fun w' => (CutAt w' g (each : Int) tx Ax cx LX ∧ CutAt w' g' (each : Int) tz Az cz LZ))
    case hw => simp [Region.wanted, yielded]
    case ho =>
      intro w' hk hf hI
      clear hf
      have hst := HST.out w' hk
      have r1 := (HR1.out.mono (Nat.zero_le _)).step hst
      have r2 := ((HR2.out.mono (Nat.zero_le _)).step hst).app ((HR3.out.mono (Nat.zero_le _)).step hst) (v := v9) (by have h := hI.2; rcases h with h | h; exact .inl h; exact .inr (own_zero_base h))
      obtain ⟨q0, q1, q2⟩ := HP.out
      rw [List.nil_append] at r1 r2
      rw [← q1] at r2
      have hbd : (List.map (chunk b each) (List.range xs.length)).length ≤ 140737488355328 := by have := HXB.out; rw [List.length_map, List.length_range, q0]; omega
      clear q0 q1 q2
      generalize List.map (chunk b each) (List.range xs.length) = PP at r1 r2 hbd
      obtain ⟨P1, d1, e1, _, c1⟩ := r1.reads hbd (by omega)
      obtain ⟨P2, d2, e2, _, c2⟩ := r2.reads hbd (by omega)
      subst e1
      subst e2
      refine ⟨?_⟩
      go_simp
      refine (same_calls _ P1 d1 P2 d2 w' c1 c2).mono ?_
      rintro e w'' ⟨rfl, hb⟩
      exact ⟨_, rfl, KeepS.of_grows hb, ⟨hI.1.1.below hb, hI.1.2.below hb⟩, rfl⟩
    case hJ => exact fun a c h hh => ⟨hh.1.below h, hh.2.below h⟩
    simp only [Act.put, List.setIfInBounds_toArray, List.set_cons_zero, List.set_cons_succ]
    iterate 3
      apply phase_fixed
      case hw => simp [Region.wanted, yielded]
      case ho =>
        intro w' hk hf
        clear hf
        refine ⟨?_⟩
        go_simp
        exact ⟨Grows.refl _, rfl⟩
      simp only [Act.put, List.setIfInBounds_toArray, List.set_cons_zero, List.set_cons_succ]
    apply phase_turn (c := .slice Ax LX.length cx) (J := fun w' => CutAt w' g' (each : Int) tz Az cz LZ)
    case hw => simp [Region.wanted, yielded]
    case ho =>
      intro w' hk hf hI
      clear hf
      refine ⟨?_⟩
      go_simp
      refine (rest_calls g each _ Ax cx LX w' hI.1).mono ?_
      rintro e w'' ⟨rfl, h1, h2, h3⟩
      exact ⟨_, rfl, KeepS.of_grown h2 (fun k e => .inl (by injection e with e; omega)), hI.2.far hI.1 h2 (by have := HNE.out; omega), rfl⟩
    case hJ => exact fun a c h hh => hh.below h
    simp only [Act.put, List.setIfInBounds_toArray, List.set_cons_zero, List.set_cons_succ]
    apply phase_fixed (c := .string (strOfNums LX))
    case hw => simp [Region.wanted, yielded]
    case ho =>
      intro w' hk hf
      clear hf
      have hc := conv_str ((HCX6.out.left.step fun b cs hb => HST.out w' hk b cs 5 (Nat.zero_le _) hb (.inl rfl)).reads (by have := HLB.out; omega)) cx
      refine ⟨?_⟩
      go_simp
      exact ⟨Grows.refl _, rfl⟩
    simp only [Act.put, List.setIfInBounds_toArray, List.set_cons_zero, List.set_cons_succ]
    iterate 1
      apply phase_fixed
      case hw => simp [Region.wanted, yielded]
      case ho =>
        intro w' hk hf
        clear hf
        refine ⟨?_⟩
        go_simp
        exact ⟨Grows.refl _, rfl⟩
      simp only [Act.put, List.setIfInBounds_toArray, List.set_cons_zero, List.set_cons_succ]
    apply phase_turn (c := .slice Az LZ.length cz) (J := fun _ => True)
    case hw => simp [Region.wanted, yielded]
    case ho =>
      intro w' hk hf hI
      clear hf
      refine ⟨?_⟩
      go_simp
      refine (rest_calls g' each _ Az cz LZ w' hI).mono ?_
      rintro e w'' ⟨rfl, h1, h2, h3⟩
      exact ⟨_, rfl, KeepS.of_grown h2 (fun k e => .inr (.inl (by injection e with e; omega))), rfl⟩
    case hJ => exact fun _ _ _ _ => trivial
    simp only [Act.put, List.setIfInBounds_toArray, List.set_cons_zero, List.set_cons_succ]
    apply phase_fixed (c := .string (strOfNums LX))
    case hw => simp [Region.wanted, yielded]
    case ho =>
      intro w' hk hf
      clear hf
      have hc := conv_str ((HCZ.out.left.step fun b cs hb => HST.out w' hk b cs 5 (Nat.zero_le _) hb (.inl rfl)).reads (by rw [← HLXZ.out]; have := HLB.out; omega)) cz
      rw [← HLXZ.out] at hc
      rw [← HLXZ.out]
      refine ⟨?_⟩
      go_simp
      exact ⟨Grows.refl _, rfl⟩
    simp only [Act.put, List.setIfInBounds_toArray, List.set_cons_zero, List.set_cons_succ]
    iterate 3
      apply phase_fixed
      case hw => simp [Region.wanted, yielded]
      case ho =>
        intro w' hk hf
        clear hf
        refine ⟨?_⟩
        go_simp
        exact ⟨Grows.refl _, rfl⟩
      simp only [Act.put, List.setIfInBounds_toArray, List.set_cons_zero, List.set_cons_succ]
    refine phase_nil (fun w7 hk _ hf => ?_)
    clear hf
    have hb7 := Aside0.mk (show Below w.heap.size w w7 from HB6.out.trans (hk.below HB6.out.size fun k e => by have := HG0.out; have := HG0'.out; have := HB6.out.size; omega))
    go_wp2
    go_ret
    exact ⟨rfl, hb7.out⟩
  case ht => kernel_rfl
end Go.Proofs.Ytoaokmlpeijepaa
