/-
  Layer 4: a right record is got of its bytes, and bytes of what is got of them: the walk.
-/
import Derived.Test.YtemnhgmgffdncaaLaws
namespace Go.Proofs.Ytemnhgmgffdncaa.PRecBack
set_option linter.unusedVariables false
set_option linter.unusedSimpArgs false
open Go.RowKit Go.Proofs.YtemnhgmgffdncaaW.PrintWords Go.Proofs.YtemnhgmgffdncaaW.PrintMore
attribute [local go_sem] max2_int
set_option maxRecDepth 100000 in
set_option maxHeartbeats 4000000 in
theorem back_calls (kind : Int) (key : ByteArray) (id no size : Int) (LA : Option Addr) (lc : Nat) (l : List S39) (BA : Option Addr) (bc : Nat) (b : List Int) (A1 : Option Addr) (c1 : Nat) (xs : List Int) (w : World) (hr : RIn w LA lc l BA bc b) (hx : Kd.C (Kd.int .u8) w A1 xs.length xs) (hxc : xs.length ≤ c1) (hl : l.length < 4611686018427387904) (hu : u8s b) (hux : u8s xs) :
    Calls Try.prog 4 #[.agg #[.int .i64 kind, .string key, .int .i64 id, .int .i64 no, .int .i64 size, .slice LA l.length lc, .slice BA b.length bc], .slice A1 xs.length c1] w fun e w' => e = .returned (.bool true) ∧ Below w.heap.size w w' := by
  have HX := Aside0.mk hx
  have HU := Aside0.mk hu
  have HUX := Aside0.mk hux
  have HLB := Aside0.mk hl
  clear hx hu hux hl
  have HR := Aside0.mk hr
  clear hr
  go_enter Try.func4, Try.ntmps4
  go_upto_region 1 with fail
  have HG1 := Aside0.mk (show Grows w _ from (Below.refl w.heap.size w).alloc (Nat.le_refl _) (.cells #[.int .i64 kind, .string key, .int .i64 id, .int .i64 no, .int .i64 size, .slice LA l.length lc, .slice BA b.length bc] 25))
  have HQ1 := Aside0.mk (show RecT 25 _ _ kind key id no size (.slice LA l.length lc) (.slice BA b.length bc) from heap_alloc_new w (.cells #[.int .i64 kind, .string key, .int .i64 id, .int .i64 no, .int .i64 size, .slice LA l.length lc, .slice BA b.length bc] 25))
  generalize w.alloc (.cells #[.int .i64 kind, .string key, .int .i64 id, .int .i64 no, .int .i64 size, .slice LA l.length lc, .slice BA b.length bc] 25) = w1 at HG1 HQ1 ⊢
  generalize w.heap.size = q at HQ1 ⊢
  go_upto_region 2 with (go_at_call 9; refine (head_calls w1).mono ?_; rintro e w2 ⟨rfl, hg⟩; have HG2 := Aside0.mk (HG1.out.trans hg); have HQ2 := Aside0.mk (HQ1.out.grows hg); clear hg)
  clear HG1 HQ1
  have d0 := HQ2.out.c0; have d1 := HQ2.out.c1; have d2 := HQ2.out.c2; have d3 := HQ2.out.c3; have d4 := HQ2.out.c4; have d5 := HQ2.out.c5; have d6 := HQ2.out.c6
  obtain ⟨g, hg⟩ := great_f kind key id no size l b
  have HGR : Aside0 (Calls Try.prog 10 #[.agg #[.int .i64 kind, .string key, .int .i64 id, .int .i64 no, .int .i64 size, .slice LA l.length lc, .slice BA b.length bc]] w2 fun e w' => e = .returned (.bool g) ∧ Grows w2 w') := ⟨great_c kind key id no size (HR.out.grows HG2.out) hg⟩
  clear hg
  cases g with
  | true =>
    go_wp2_with (go_at_call 10; refine HGR.out.mono ?_; clear HGR; rintro e w3 ⟨rfl, hg⟩; have HG3 := Aside0.mk (HG2.out.trans hg); clear hg)
    go_ret
    exact ⟨rfl, HG3.out⟩
  | false =>
    by_cases hx2 : (20000 : Int) < xs.length
    · go_wp2_with (go_at_call 10; refine HGR.out.mono ?_; clear HGR; rintro e w3 ⟨rfl, hg⟩; have HG3 := Aside0.mk (HG2.out.trans hg); clear hg)
      go_ret
      exact ⟨rfl, HG3.out⟩
    · go_upto_region 4 with (go_at_call 10; refine HGR.out.mono ?_; clear HGR; rintro e w3 ⟨rfl, hg⟩; have HG3 := Aside0.mk (HG2.out.trans hg); have HQ3 := Aside0.mk (HQ2.out.grows hg); clear hg)
      have HXL := Aside0.mk (show xs.length ≤ 100000000000 by omega)
      clear d0 d1 d2 d3 d4 d5 d6
      clear HG2 HQ2
      have d0 := HQ3.out.c0; have d1 := HQ3.out.c1; have d2 := HQ3.out.c2; have d3 := HQ3.out.c3; have d4 := HQ3.out.c4; have d5 := HQ3.out.c5; have d6 := HQ3.out.c6
      by_cases hrt : rightB kind key id no size (toL l) b.length = true
      · have hpe : putRec kind key id no size (toL l) b = putF kind key id no size (toL l) b := by unfold putRec; rw [if_pos hrt]
        have hpu := put_u8s HU.out hrt
        have hpb := put_body hrt
        have hpg := get_put hrt
        have HP := put_c kind key id no size (HR.out.grows HG3.out)
        rw [hpe] at HP
        clear hpe
        generalize putF kind key id no size (toL l) b = p at hpu hpb hpg HP
        replace HP := Aside0.mk HP
        have HPU := Aside0.mk hpu
        have HPG := Aside0.mk hpg
        have HRT := Aside0.mk hrt
        have p1 : (0 : Int) < p.length := by have := hpb.1; omega
        have p2 : ¬ (8192 : Int) < p.length := by have := hpb.2.1; omega
        have HPL := Aside0.mk (show p.length ≤ 100000000000 by have := hpb.2.1; omega)
        clear hpu hpb hpg hrt
        go_upto_region 5 with (go_at_call 15; refine HP.out.mono ?_; clear HP; rintro e w4 ⟨A, c, rfl, hle, ho, hg⟩; have HG4 := Aside0.mk (HG3.out.trans hg); have HQ4 := Aside0.mk (HQ3.out.grows hg); have HO4 := Aside0.mk ho; have HC4 := Aside0.mk hle; clear hg ho hle)
        clear d0 d1 d2 d3 d4 d5 d6
        clear HG3 HQ3
        have d0 := HQ4.out.c0; have d1 := HQ4.out.c1; have d2 := HQ4.out.c2; have d3 := HQ4.out.c3; have d4 := HQ4.out.c4; have d5 := HQ4.out.c5; have d6 := HQ4.out.c6
        go_upto_region 8 with (go_at_call 13; refine (right_c kind key id no size (HR.out.grows HG4.out)).mono ?_; rw [HRT.out]; rintro e w5 ⟨rfl, hg⟩; have HG5 := Aside0.mk (HG4.out.trans hg); have HQ5 := Aside0.mk (HQ4.out.grows hg); have HO5 := Aside0.mk (own_grows HO4.out hg); clear hg)
        clear HG4 HQ4 HO4
        clear d0 d1 d2 d3 d4 d5 d6
        have HGET := get_some A c p (own_reads' HO5.out) HC4.out HPU.out HPL.out HPG.out
        rw [ofL_toL] at HGET
        replace HGET := Aside0.mk HGET
        go_upto_region 9 with (go_at_call 11; refine HGET.out.mono ?_; clear HGET; rintro e w6 ⟨LA1, lc1, BA1, bc1, rfl, hri, hg⟩; have HG6 := Aside0.mk (HG5.out.trans hg); have HQ6 := Aside0.mk (HQ5.out.grows hg); have HI6 := Aside0.mk hri; clear hg hri)
        clear HG5 HQ5 HO5
        have hgx : Grows w6 (w6.alloc (.cells #[.int .i64 kind, .string key, .int .i64 id, .int .i64 no, .int .i64 size, .slice LA1 l.length lc1, .slice BA1 b.length bc1] 25)) := (Below.refl w6.heap.size w6).alloc (Nat.le_refl _) (.cells #[.int .i64 kind, .string key, .int .i64 id, .int .i64 no, .int .i64 size, .slice LA1 l.length lc1, .slice BA1 b.length bc1] 25)
        have HG7 := Aside0.mk (HG6.out.trans hgx)
        have HQ7 := Aside0.mk (HQ6.out.grows hgx)
        have HI7 := Aside0.mk (HI6.out.grows hgx)
        have HNw7 := Aside0.mk (show RecT 25 _ _ kind key id no size (.slice LA1 l.length lc1) (.slice BA1 b.length bc1) from heap_alloc_new w6 (.cells #[.int .i64 kind, .string key, .int .i64 id, .int .i64 no, .int .i64 size, .slice LA1 l.length lc1, .slice BA1 b.length bc1] 25))
        clear hgx HG6 HQ6 HI6
        generalize (w6.alloc (.cells #[.int .i64 kind, .string key, .int .i64 id, .int .i64 no, .int .i64 size, .slice LA1 l.length lc1, .slice BA1 b.length bc1] 25)) = w7 at HG7 HQ7 HI7 HNw7 ⊢
        generalize w6.heap.size = q1 at HNw7 ⊢
        have e0 := HNw7.out.c0; have e1 := HNw7.out.c1; have e2 := HNw7.out.c2; have e3 := HNw7.out.c3; have e4 := HNw7.out.c4; have e5 := HNw7.out.c5; have e6 := HNw7.out.c6
        have d0 := HQ7.out.c0; have d1 := HQ7.out.c1; have d2 := HQ7.out.c2; have d3 := HQ7.out.c3; have d4 := HQ7.out.c4; have d5 := HQ7.out.c5; have d6 := HQ7.out.c6
        obtain ⟨rs, hrs, hsc⟩ := same_c kind key id no size kind key id no size HI7.out (HR.out.grows HG7.out) HLB.out HU.out HU.out
        obtain rfl : rs = true := hrs.2 ⟨rfl, rfl, rfl, rfl, rfl, rfl, rfl⟩
        have HSC := Aside0.mk hsc
        clear hrs hsc
        go_upto_region 11 with (go_at_call 17; refine HSC.out.mono ?_; clear HSC; rintro e w8 ⟨rfl, hg⟩; have HG8 := Aside0.mk (HG7.out.trans hg); clear hg)
        clear HG7 HQ7 HI7 HNw7
        clear d0 d1 d2 d3 d4 d5 d6
        clear e0 e1 e2 e3 e4 e5 e6
        have HBW := Aside0.mk (in_bytes HX.out).rd
        have HBX := Aside0.mk (HBW.out.below HG8.out)
        cases hq : getRec xs with
        | none =>
          have HGET := Aside0.mk (get_none A1 c1 xs HBX.out hxc HUX.out HXL.out hq)
          clear hq HBX
          go_upto_region 12 with (go_at_call 11; refine HGET.out.mono ?_; clear HGET; rintro e y1 ⟨rfl, hg⟩; have HY1 := Aside0.mk (HG8.out.trans hg); clear hg)
          have hgx : Grows y1 (y1.alloc (.cells #[.int .i64 0, .string (⟨#[]⟩ : ByteArray), .int .i64 0, .int .i64 0, .int .i64 0, .slice none 0 0, .slice none 0 0] 25)) := (Below.refl y1.heap.size y1).alloc (Nat.le_refl _) (.cells #[.int .i64 0, .string (⟨#[]⟩ : ByteArray), .int .i64 0, .int .i64 0, .int .i64 0, .slice none 0 0, .slice none 0 0] 25)
          have HY2 := Aside0.mk (HY1.out.trans hgx)
          have HNy2 := Aside0.mk (show RecT 25 _ _ 0 noKey 0 0 0 (.slice none 0 0) (.slice none 0 0) from heap_alloc_new y1 (.cells #[.int .i64 0, .string (⟨#[]⟩ : ByteArray), .int .i64 0, .int .i64 0, .int .i64 0, .slice none 0 0, .slice none 0 0] 25))
          clear hgx HY1
          generalize (y1.alloc (.cells #[.int .i64 0, .string (⟨#[]⟩ : ByteArray), .int .i64 0, .int .i64 0, .int .i64 0, .slice none 0 0, .slice none 0 0] 25)) = y2 at HY2 HNy2 ⊢
          generalize y1.heap.size = q2 at HNy2 ⊢
          have e0 := HNy2.out.c0; have e1 := HNy2.out.c1; have e2 := HNy2.out.c2; have e3 := HNy2.out.c3; have e4 := HNy2.out.c4; have e5 := HNy2.out.c5; have e6 := HNy2.out.c6
          obtain ⟨rs, hrs, hsc⟩ := same_c 0 ⟨#[]⟩ 0 0 0 0 ⟨#[]⟩ 0 0 0 (RIn.nil y2) (RIn.nil y2) (by decide) (by intro x hx; cases hx) (by intro x hx; cases hx)
          obtain rfl : rs = true := hrs.2 ⟨rfl, rfl, rfl, rfl, rfl, rfl, rfl⟩
          have HSC := Aside0.mk hsc
          clear hrs hsc
          go_wp2_with (go_at_call 17; refine HSC.out.mono ?_; clear HSC; rintro e y3 ⟨rfl, hg⟩; have HY3 := Aside0.mk (HY2.out.trans hg); clear hg)
          go_ret
          exact ⟨rfl, HY3.out⟩
        | some y =>
          obtain ⟨k2, key2, id2, no2, size2, ls2, b2⟩ := y
          have hpg := put_get HUX.out hq
          have HRT2 := Aside0.mk hpg.1
          have hpe : putRec k2 key2 id2 no2 size2 (toL (ofL ls2)) b2 = xs := by unfold putRec; rw [toL_ofL, if_pos hpg.1]; exact hpg.2
          have HPE := Aside0.mk hpe
          have HGET := Aside0.mk (get_some A1 c1 xs HBX.out hxc HUX.out HXL.out hq)
          clear hq hpg hpe
          go_upto_region 12 with (go_at_call 11; refine HGET.out.mono ?_; clear HGET; rintro e y1 ⟨LA2, lc2, BA2, bc2, rfl, hri, hg⟩; have HY1 := Aside0.mk (HG8.out.trans hg); have HI1 := Aside0.mk hri; clear hg hri)
          have hgx : Grows y1 (y1.alloc (.cells #[.int .i64 k2, .string key2, .int .i64 id2, .int .i64 no2, .int .i64 size2, .slice LA2 (ofL ls2).length lc2, .slice BA2 b2.length bc2] 25)) := (Below.refl y1.heap.size y1).alloc (Nat.le_refl _) (.cells #[.int .i64 k2, .string key2, .int .i64 id2, .int .i64 no2, .int .i64 size2, .slice LA2 (ofL ls2).length lc2, .slice BA2 b2.length bc2] 25)
          have HY2 := Aside0.mk (HY1.out.trans hgx)
          have HI2 := Aside0.mk (HI1.out.grows hgx)
          have HNy2 := Aside0.mk (show RecT 25 _ _ k2 key2 id2 no2 size2 (.slice LA2 (ofL ls2).length lc2) (.slice BA2 b2.length bc2) from heap_alloc_new y1 (.cells #[.int .i64 k2, .string key2, .int .i64 id2, .int .i64 no2, .int .i64 size2, .slice LA2 (ofL ls2).length lc2, .slice BA2 b2.length bc2] 25))
          clear hgx HY1 HI1
          generalize (y1.alloc (.cells #[.int .i64 k2, .string key2, .int .i64 id2, .int .i64 no2, .int .i64 size2, .slice LA2 (ofL ls2).length lc2, .slice BA2 b2.length bc2] 25)) = y2 at HY2 HI2 HNy2 ⊢
          generalize y1.heap.size = q2 at HNy2 ⊢
          go_upto_region 14 with fail
          have HRT3 : Aside0 (rightB k2 key2 id2 no2 size2 (toL (ofL ls2)) b2.length = true) := ⟨by rw [toL_ofL]; exact HRT2.out⟩
          apply wp_region_phase Grows (KeepS (fun _ => False)) (phaseK _) (fun _ => True) trivial (fun _ _ _ h => h) (hm := by kernel_rfl) (hB := by kernel_rfl)
          case h =>
            iterate 2
              apply phase_fixed
              case hw => simp [Region.wanted, yielded]
              case ho =>
                intro w' hk hf
                clear hf
                refine ⟨?_⟩
                go_simp
                exact ⟨Grows.refl _, rfl⟩
              simp only [Act.put, List.setIfInBounds_toArray, List.set_cons_zero, List.set_cons_succ]
            apply phase_fixed (c := .agg #[.int .i64 k2, .string key2, .int .i64 id2, .int .i64 no2, .int .i64 size2, .slice LA2 (ofL ls2).length lc2, .slice BA2 b2.length bc2])
            case hw => simp [Region.wanted, yielded]
            case ho =>
              intro w' hk hf
              clear hf
              exact growAt_load_row 25 (.tmp 9) rfl q2 rfl 25 _ (0, 0) _ (HNy2.out.grows (KeepF.grows hk)) Try.underlying25 rfl (by kernel_rfl) ⟨Grows.refl _, rfl⟩
            simp only [Act.put, List.setIfInBounds_toArray, List.set_cons_zero, List.set_cons_succ]
            apply phase_fixed (c := .bool true)
            case hw => simp [Region.wanted, yielded]
            case ho =>
              intro w' hk hf
              clear hf
              refine ⟨?_⟩
              go_simp
              exact (HRT3.out ▸ right_c k2 key2 id2 no2 size2 (HI2.out.grows (KeepF.grows hk))).mono fun e w3 h => ⟨_, h.1, h.2, rfl⟩
            simp only [Act.put, List.setIfInBounds_toArray, List.set_cons_zero, List.set_cons_succ]
            iterate 2
              apply phase_fixed
              case hw => simp [Region.wanted, yielded]
              case ho =>
                intro w' hk hf
                clear hf
                refine ⟨?_⟩
                go_simp
                exact ⟨Grows.refl _, rfl⟩
              simp only [Act.put, List.setIfInBounds_toArray, List.set_cons_zero, List.set_cons_succ]
            apply phase_fixed (c := .agg #[.int .i64 k2, .string key2, .int .i64 id2, .int .i64 no2, .int .i64 size2, .slice LA2 (ofL ls2).length lc2, .slice BA2 b2.length bc2])
            case hw => simp [Region.wanted, yielded]
            case ho =>
              intro w' hk hf
              clear hf
              exact growAt_load_row 25 (.tmp 9) rfl q2 rfl 25 _ (0, 0) _ (HNy2.out.grows (KeepF.grows hk)) Try.underlying25 rfl (by kernel_rfl) ⟨Grows.refl _, rfl⟩
            simp only [Act.put, List.setIfInBounds_toArray, List.set_cons_zero, List.set_cons_succ]
            apply phase_free (G := (fun v W => ∃ A c, v = .slice A xs.length c ∧ ∃ B, W.ownsRow B 5 1 (.slice A xs.length c) xs.length (nums .u8 xs)))
            case hw => simp [Region.wanted, yielded]
            case ho =>
              intro w' hk hf
              clear hf
              have hp := put_c k2 key2 id2 no2 size2 (HI2.out.grows (KeepF.grows hk))
              rw [HPE.out] at hp
              refine ⟨?_⟩
              go_simp
              exact hp.mono fun e w3 h => h.elim fun A h => h.elim fun c h => ⟨_, h.1, h.2.2.2, A, c, rfl, _, h.2.2.1⟩
            case hm => exact fun v a c h hk => h.elim fun A h => h.elim fun c h => h.2.elim fun B h2 => ⟨A, c, h.1, B, own_grows h2 (KeepF.grows hk)⟩
            intro v69
            simp only [Act.put, List.setIfInBounds_toArray, List.set_cons_zero, List.set_cons_succ]
            apply phase_fixed (c := .string (strOfNums xs))
            case hw => simp [Region.wanted, yielded]
            case ho =>
              intro w' hk hf
              obtain ⟨A, c, e7, B, ho⟩ : ∃ A c, v69 = .slice A xs.length c ∧ ∃ B, w'.ownsRow B 5 1 (.slice A xs.length c) xs.length (nums .u8 xs) := hf _ (List.Mem.head _) (by kernel_rfl)
              clear hf
              subst e7
              have hcv := conv_str Try.underlying23 (own_reads' ho) c
              refine ⟨?_⟩
              go_simp
              exact ⟨Grows.refl _, rfl⟩
            simp only [Act.put, List.setIfInBounds_toArray, List.set_cons_zero, List.set_cons_succ]
            iterate 1
              apply phase_fixed
              case hw => simp [Region.wanted, yielded]
              case ho =>
                intro w' hk hf
                clear hf
                refine ⟨?_⟩
                go_simp
                exact ⟨Grows.refl _, rfl⟩
              simp only [Act.put, List.setIfInBounds_toArray, List.set_cons_zero, List.set_cons_succ]
            apply phase_fixed (c := .string (strOfNums xs))
            case hw => simp [Region.wanted, yielded]
            case ho =>
              intro w' hk hf
              clear hf
              have hcv := conv_str Try.underlying23 (HBW.out.below (HY2.out.trans (KeepF.grows hk))) c1
              refine ⟨?_⟩
              go_simp
              exact ⟨Grows.refl _, rfl⟩
            simp only [Act.put, List.setIfInBounds_toArray, List.set_cons_zero, List.set_cons_succ]
            iterate 3
              apply phase_fixed
              case hw => simp [Region.wanted, yielded]
              case ho =>
                intro w' hk hf
                clear hf
                refine ⟨?_⟩
                go_simp
                exact ⟨Grows.refl _, rfl⟩
              simp only [Act.put, List.setIfInBounds_toArray, List.set_cons_zero, List.set_cons_succ]
            refine phase_nil (fun w7 hk7 hI _ => ?_)
            have HY7 := Aside0.mk (HY2.out.trans (KeepF.grows hk7))
            clear hk7
            go_wp2
            go_ret
            exact ⟨rfl, HY7.out⟩
          case ht => kernel_rfl
      · have hpe : putRec kind key id no size (toL l) b = [] := by unfold putRec; rw [if_neg hrt]
        have HP := put_c kind key id no size (HR.out.grows HG3.out)
        rw [hpe] at HP
        clear hpe
        replace HP := Aside0.mk HP
        have HRT := Aside0.mk (Bool.eq_false_iff.2 hrt)
        clear hrt
        go_upto_region 5 with (go_at_call 15; refine HP.out.mono ?_; clear HP; rintro e w4 ⟨A, c, rfl, hle, ho, hg⟩; have HG4 := Aside0.mk (HG3.out.trans hg); have HQ4 := Aside0.mk (HQ3.out.grows hg); clear hg ho hle)
        clear d0 d1 d2 d3 d4 d5 d6
        clear HG3 HQ3
        have d0 := HQ4.out.c0; have d1 := HQ4.out.c1; have d2 := HQ4.out.c2; have d3 := HQ4.out.c3; have d4 := HQ4.out.c4; have d5 := HQ4.out.c5; have d6 := HQ4.out.c6
        go_upto_region 11 with (go_at_call 13; refine (right_c kind key id no size (HR.out.grows HG4.out)).mono ?_; rw [HRT.out]; rintro e w8 ⟨rfl, hg⟩; have HG8 := Aside0.mk (HG4.out.trans hg); clear hg)
        clear d0 d1 d2 d3 d4 d5 d6
        have HBW := Aside0.mk (in_bytes HX.out).rd
        have HBX := Aside0.mk (HBW.out.below HG8.out)
        cases hq : getRec xs with
        | none =>
          have HGET := Aside0.mk (get_none A1 c1 xs HBX.out hxc HUX.out HXL.out hq)
          clear hq HBX
          go_upto_region 12 with (go_at_call 11; refine HGET.out.mono ?_; clear HGET; rintro e y1 ⟨rfl, hg⟩; have HY1 := Aside0.mk (HG8.out.trans hg); clear hg)
          have hgx : Grows y1 (y1.alloc (.cells #[.int .i64 0, .string (⟨#[]⟩ : ByteArray), .int .i64 0, .int .i64 0, .int .i64 0, .slice none 0 0, .slice none 0 0] 25)) := (Below.refl y1.heap.size y1).alloc (Nat.le_refl _) (.cells #[.int .i64 0, .string (⟨#[]⟩ : ByteArray), .int .i64 0, .int .i64 0, .int .i64 0, .slice none 0 0, .slice none 0 0] 25)
          have HY2 := Aside0.mk (HY1.out.trans hgx)
          have HNy2 := Aside0.mk (show RecT 25 _ _ 0 noKey 0 0 0 (.slice none 0 0) (.slice none 0 0) from heap_alloc_new y1 (.cells #[.int .i64 0, .string (⟨#[]⟩ : ByteArray), .int .i64 0, .int .i64 0, .int .i64 0, .slice none 0 0, .slice none 0 0] 25))
          clear hgx HY1
          generalize (y1.alloc (.cells #[.int .i64 0, .string (⟨#[]⟩ : ByteArray), .int .i64 0, .int .i64 0, .int .i64 0, .slice none 0 0, .slice none 0 0] 25)) = y2 at HY2 HNy2 ⊢
          generalize y1.heap.size = q2 at HNy2 ⊢
          have e0 := HNy2.out.c0; have e1 := HNy2.out.c1; have e2 := HNy2.out.c2; have e3 := HNy2.out.c3; have e4 := HNy2.out.c4; have e5 := HNy2.out.c5; have e6 := HNy2.out.c6
          obtain ⟨rs, hrs, hsc⟩ := same_c 0 ⟨#[]⟩ 0 0 0 0 ⟨#[]⟩ 0 0 0 (RIn.nil y2) (RIn.nil y2) (by decide) (by intro x hx; cases hx) (by intro x hx; cases hx)
          obtain rfl : rs = true := hrs.2 ⟨rfl, rfl, rfl, rfl, rfl, rfl, rfl⟩
          have HSC := Aside0.mk hsc
          clear hrs hsc
          go_wp2_with (go_at_call 17; refine HSC.out.mono ?_; clear HSC; rintro e y3 ⟨rfl, hg⟩; have HY3 := Aside0.mk (HY2.out.trans hg); clear hg)
          go_ret
          exact ⟨rfl, HY3.out⟩
        | some y =>
          obtain ⟨k2, key2, id2, no2, size2, ls2, b2⟩ := y
          have hpg := put_get HUX.out hq
          have HRT2 := Aside0.mk hpg.1
          have hpe : putRec k2 key2 id2 no2 size2 (toL (ofL ls2)) b2 = xs := by unfold putRec; rw [toL_ofL, if_pos hpg.1]; exact hpg.2
          have HPE := Aside0.mk hpe
          have HGET := Aside0.mk (get_some A1 c1 xs HBX.out hxc HUX.out HXL.out hq)
          clear hq hpg hpe
          go_upto_region 12 with (go_at_call 11; refine HGET.out.mono ?_; clear HGET; rintro e y1 ⟨LA2, lc2, BA2, bc2, rfl, hri, hg⟩; have HY1 := Aside0.mk (HG8.out.trans hg); have HI1 := Aside0.mk hri; clear hg hri)
          have hgx : Grows y1 (y1.alloc (.cells #[.int .i64 k2, .string key2, .int .i64 id2, .int .i64 no2, .int .i64 size2, .slice LA2 (ofL ls2).length lc2, .slice BA2 b2.length bc2] 25)) := (Below.refl y1.heap.size y1).alloc (Nat.le_refl _) (.cells #[.int .i64 k2, .string key2, .int .i64 id2, .int .i64 no2, .int .i64 size2, .slice LA2 (ofL ls2).length lc2, .slice BA2 b2.length bc2] 25)
          have HY2 := Aside0.mk (HY1.out.trans hgx)
          have HI2 := Aside0.mk (HI1.out.grows hgx)
          have HNy2 := Aside0.mk (show RecT 25 _ _ k2 key2 id2 no2 size2 (.slice LA2 (ofL ls2).length lc2) (.slice BA2 b2.length bc2) from heap_alloc_new y1 (.cells #[.int .i64 k2, .string key2, .int .i64 id2, .int .i64 no2, .int .i64 size2, .slice LA2 (ofL ls2).length lc2, .slice BA2 b2.length bc2] 25))
          clear hgx HY1 HI1
          generalize (y1.alloc (.cells #[.int .i64 k2, .string key2, .int .i64 id2, .int .i64 no2, .int .i64 size2, .slice LA2 (ofL ls2).length lc2, .slice BA2 b2.length bc2] 25)) = y2 at HY2 HI2 HNy2 ⊢
          generalize y1.heap.size = q2 at HNy2 ⊢
          go_upto_region 14 with fail
          have HRT3 : Aside0 (rightB k2 key2 id2 no2 size2 (toL (ofL ls2)) b2.length = true) := ⟨by rw [toL_ofL]; exact HRT2.out⟩
          apply wp_region_phase Grows (KeepS (fun _ => False)) (phaseK _) (fun _ => True) trivial (fun _ _ _ h => h) (hm := by kernel_rfl) (hB := by kernel_rfl)
          case h =>
            iterate 2
              apply phase_fixed
              case hw => simp [Region.wanted, yielded]
              case ho =>
                intro w' hk hf
                clear hf
                refine ⟨?_⟩
                go_simp
                exact ⟨Grows.refl _, rfl⟩
              simp only [Act.put, List.setIfInBounds_toArray, List.set_cons_zero, List.set_cons_succ]
            apply phase_fixed (c := .agg #[.int .i64 k2, .string key2, .int .i64 id2, .int .i64 no2, .int .i64 size2, .slice LA2 (ofL ls2).length lc2, .slice BA2 b2.length bc2])
            case hw => simp [Region.wanted, yielded]
            case ho =>
              intro w' hk hf
              clear hf
              exact growAt_load_row 25 (.tmp 9) rfl q2 rfl 25 _ (0, 0) _ (HNy2.out.grows (KeepF.grows hk)) Try.underlying25 rfl (by kernel_rfl) ⟨Grows.refl _, rfl⟩
            simp only [Act.put, List.setIfInBounds_toArray, List.set_cons_zero, List.set_cons_succ]
            apply phase_fixed (c := .bool true)
            case hw => simp [Region.wanted, yielded]
            case ho =>
              intro w' hk hf
              clear hf
              refine ⟨?_⟩
              go_simp
              exact (HRT3.out ▸ right_c k2 key2 id2 no2 size2 (HI2.out.grows (KeepF.grows hk))).mono fun e w3 h => ⟨_, h.1, h.2, rfl⟩
            simp only [Act.put, List.setIfInBounds_toArray, List.set_cons_zero, List.set_cons_succ]
            iterate 2
              apply phase_fixed
              case hw => simp [Region.wanted, yielded]
              case ho =>
                intro w' hk hf
                clear hf
                refine ⟨?_⟩
                go_simp
                exact ⟨Grows.refl _, rfl⟩
              simp only [Act.put, List.setIfInBounds_toArray, List.set_cons_zero, List.set_cons_succ]
            apply phase_fixed (c := .agg #[.int .i64 k2, .string key2, .int .i64 id2, .int .i64 no2, .int .i64 size2, .slice LA2 (ofL ls2).length lc2, .slice BA2 b2.length bc2])
            case hw => simp [Region.wanted, yielded]
            case ho =>
              intro w' hk hf
              clear hf
              exact growAt_load_row 25 (.tmp 9) rfl q2 rfl 25 _ (0, 0) _ (HNy2.out.grows (KeepF.grows hk)) Try.underlying25 rfl (by kernel_rfl) ⟨Grows.refl _, rfl⟩
            simp only [Act.put, List.setIfInBounds_toArray, List.set_cons_zero, List.set_cons_succ]
            apply phase_free (G := (fun v W => ∃ A c, v = .slice A xs.length c ∧ ∃ B, W.ownsRow B 5 1 (.slice A xs.length c) xs.length (nums .u8 xs)))
            case hw => simp [Region.wanted, yielded]
            case ho =>
              intro w' hk hf
              clear hf
              have hp := put_c k2 key2 id2 no2 size2 (HI2.out.grows (KeepF.grows hk))
              rw [HPE.out] at hp
              refine ⟨?_⟩
              go_simp
              exact hp.mono fun e w3 h => h.elim fun A h => h.elim fun c h => ⟨_, h.1, h.2.2.2, A, c, rfl, _, h.2.2.1⟩
            case hm => exact fun v a c h hk => h.elim fun A h => h.elim fun c h => h.2.elim fun B h2 => ⟨A, c, h.1, B, own_grows h2 (KeepF.grows hk)⟩
            intro v69
            simp only [Act.put, List.setIfInBounds_toArray, List.set_cons_zero, List.set_cons_succ]
            apply phase_fixed (c := .string (strOfNums xs))
            case hw => simp [Region.wanted, yielded]
            case ho =>
              intro w' hk hf
              obtain ⟨A, c, e7, B, ho⟩ : ∃ A c, v69 = .slice A xs.length c ∧ ∃ B, w'.ownsRow B 5 1 (.slice A xs.length c) xs.length (nums .u8 xs) := hf _ (List.Mem.head _) (by kernel_rfl)
              clear hf
              subst e7
              have hcv := conv_str Try.underlying23 (own_reads' ho) c
              refine ⟨?_⟩
              go_simp
              exact ⟨Grows.refl _, rfl⟩
            simp only [Act.put, List.setIfInBounds_toArray, List.set_cons_zero, List.set_cons_succ]
            iterate 1
              apply phase_fixed
              case hw => simp [Region.wanted, yielded]
              case ho =>
                intro w' hk hf
                clear hf
                refine ⟨?_⟩
                go_simp
                exact ⟨Grows.refl _, rfl⟩
              simp only [Act.put, List.setIfInBounds_toArray, List.set_cons_zero, List.set_cons_succ]
            apply phase_fixed (c := .string (strOfNums xs))
            case hw => simp [Region.wanted, yielded]
            case ho =>
              intro w' hk hf
              clear hf
              have hcv := conv_str Try.underlying23 (HBW.out.below (HY2.out.trans (KeepF.grows hk))) c1
              refine ⟨?_⟩
              go_simp
              exact ⟨Grows.refl _, rfl⟩
            simp only [Act.put, List.setIfInBounds_toArray, List.set_cons_zero, List.set_cons_succ]
            iterate 3
              apply phase_fixed
              case hw => simp [Region.wanted, yielded]
              case ho =>
                intro w' hk hf
                clear hf
                refine ⟨?_⟩
                go_simp
                exact ⟨Grows.refl _, rfl⟩
              simp only [Act.put, List.setIfInBounds_toArray, List.set_cons_zero, List.set_cons_succ]
            refine phase_nil (fun w7 hk7 hI _ => ?_)
            have HY7 := Aside0.mk (HY2.out.trans (KeepF.grows hk7))
            clear hk7
            go_wp2
            go_ret
            exact ⟨rfl, HY7.out⟩
          case ht => kernel_rfl
end Go.Proofs.Ytemnhgmgffdncaa.PRecBack
