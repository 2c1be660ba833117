/-
  Layer 4: of which kinds a right record may be: the walk.
-/
import Derived.Test.YtemnhgmgffdncaaLaws
import Derived.Test.YtemnhgmgffdncaaLike
namespace Go.Proofs.Ytemnhgmgffdncaa.PRecBack
set_option linter.unusedVariables false
set_option linter.unusedSimpArgs false
open Go.RowKit Go.Proofs.YtemnhgmgffdncaaW.PrintWords Go.Proofs.YtemnhgmgffdncaaW.PrintMore
attribute [local go_sem] max2_int
theorem rect_other {t : TypeId} {W : World} {q : Nat} {a : Int} {b : ByteArray} {c d e : Int} {vl vb : Value} (h : RecT t W q a b c d e vl vb) (g i : Nat) (u : Value) (hne : q ≠ g) : RecT t (W.setCell ⟨g, i, none⟩ u) q a b c d e vl vb := set_other W g i u h hne
/-- Three boxes of a record, the first with another kind, the second with another size, the third with another id. -/
structure Three (w W : World) (q qx qy qz : Nat) (k kind : Int) (key : ByteArray) (id no size : Int) (vL vB : Value) : Prop where
  g : Grows w W
  x : RecT 25 W qx k key id no size vL vB
  y : RecT 25 W qy kind key id no (size + 1) vL vB
  z : RecT 25 W qz kind key (-1) no size vL vB
set_option maxRecDepth 100000 in
set_option maxHeartbeats 40000000 in
theorem bare_calls (kind : Int) (key : ByteArray) (id no size : Int) (LA : Option Addr) (lc : Nat) (l : List S39) (BA : Option Addr) (bc : Nat) (b : List Int) (k : Int) (w : World) (hr : RIn w LA lc l BA bc b) :
    Calls Try.prog 7 #[.agg #[.int .i64 kind, .string key, .int .i64 id, .int .i64 no, .int .i64 size, .slice LA l.length lc, .slice BA b.length bc], .int .i64 k] w fun e w' => e = .returned (.bool true) ∧ Below w.heap.size w w' := by
  have HR := Aside0.mk hr
  clear hr
  go_enter Try.func7, Try.ntmps7
  go_upto_region 1 with fail
  have HG1 := Aside0.mk (show Grows w _ from (Below.refl w.heap.size w).alloc (Nat.le_refl _) (.cells #[.int .i64 kind, .string key, .int .i64 id, .int .i64 no, .int .i64 size, .slice LA l.length lc, .slice BA b.length bc] 25))
  have HQ1 := Aside0.mk (show RecT 25 _ _ kind key id no size (.slice LA l.length lc) (.slice BA b.length bc) from heap_alloc_new w (.cells #[.int .i64 kind, .string key, .int .i64 id, .int .i64 no, .int .i64 size, .slice LA l.length lc, .slice BA b.length bc] 25))
  generalize w.alloc (.cells #[.int .i64 kind, .string key, .int .i64 id, .int .i64 no, .int .i64 size, .slice LA l.length lc, .slice BA b.length bc] 25) = w1 at HG1 HQ1 ⊢
  obtain ⟨q, hqq⟩ : ∃ q, q = w.heap.size := ⟨_, rfl⟩
  rw [← hqq] at HQ1 ⊢
  have HWQ := Aside0.mk (Nat.le_of_eq hqq.symm)
  clear hqq
  go_upto_region 2 with (go_at_call 9; refine (head_calls w1).mono ?_; rintro e w2 ⟨rfl, hg⟩; have HG2 := Aside0.mk (HG1.out.trans hg); have HQ2 := Aside0.mk (HQ1.out.grows hg); clear hg)
  clear HG1 HQ1
  have d0 := HQ2.out.c0; have d1 := HQ2.out.c1; have d2 := HQ2.out.c2; have d3 := HQ2.out.c3; have d4 := HQ2.out.c4; have d5 := HQ2.out.c5; have d6 := HQ2.out.c6
  obtain ⟨g, hg⟩ := great_f kind key id no size l b
  have HGR : Aside0 (Calls Try.prog 10 #[.agg #[.int .i64 kind, .string key, .int .i64 id, .int .i64 no, .int .i64 size, .slice LA l.length lc, .slice BA b.length bc]] w2 fun e w' => e = .returned (.bool g) ∧ Grows w2 w') := ⟨great_c kind key id no size (HR.out.grows HG2.out) hg⟩
  clear hg
  cases g with
  | true =>
    go_wp2_with (go_at_call 10; with_reducible refine HGR.out.mono ?_; clear HGR; rintro e w3 ⟨rfl, hg⟩; have HG3 := Aside0.mk (HG2.out.trans hg); clear hg)
    go_ret
    exact ⟨rfl, HG3.out⟩
  | false =>
    by_cases hrt : rightB kind key id no size (toL l) b.length = true
    · have HRT := Aside0.mk hrt
      go_upto_region 4 with (first
        | (go_at_call 10; with_reducible refine HGR.out.mono ?_; clear HGR; rintro e w3 ⟨rfl, hg⟩; have HG3 := Aside0.mk (HG2.out.trans hg); have HQ3 := Aside0.mk (HQ2.out.grows hg); clear hg; clear d0 d1 d2 d3 d4 d5 d6; have d0 := HQ3.out.c0; have d1 := HQ3.out.c1; have d2 := HQ3.out.c2; have d3 := HQ3.out.c3; have d4 := HQ3.out.c4; have d5 := HQ3.out.c5; have d6 := HQ3.out.c6)
        | (go_at_call 13; with_reducible refine (right_c kind key id no size (HR.out.grows HG3.out)).mono ?_; rw [HRT.out]; rintro e w4 ⟨rfl, hg⟩; have HG4 := Aside0.mk (HG3.out.trans hg); have HQ4 := Aside0.mk (HQ3.out.grows hg); clear hg))
      clear d0 d1 d2 d3 d4 d5 d6
      clear HG2 HQ2 HG3 HQ3
      have d0 := HQ4.out.c0; have d1 := HQ4.out.c1; have d2 := HQ4.out.c2; have d3 := HQ4.out.c3; have d4 := HQ4.out.c4; have d5 := HQ4.out.c5; have d6 := HQ4.out.c6
      go_upto_region 5 with fail
      have HGw4 := HG4
      have HQw4 := HQ4
      clear HG4 HQ4
      have hgx : Grows w4 (w4.alloc (.cells #[.int .i64 kind, .string key, .int .i64 id, .int .i64 no, .int .i64 size, .slice LA l.length lc, .slice BA b.length bc] 25)) := (Below.refl w4.heap.size w4).alloc (Nat.le_refl _) (.cells #[.int .i64 kind, .string key, .int .i64 id, .int .i64 no, .int .i64 size, .slice LA l.length lc, .slice BA b.length bc] 25)
      have HNqx := Aside0.mk (show RecT 25 _ _ kind key id no size (.slice LA l.length lc) (.slice BA b.length bc) from heap_alloc_new w4 (.cells #[.int .i64 kind, .string key, .int .i64 id, .int .i64 no, .int .i64 size, .slice LA l.length lc, .slice BA b.length bc] 25))
      have HGw5 := Aside0.mk (HGw4.out.trans hgx)
      have HQw5 := Aside0.mk (HQw4.out.grows hgx)
      obtain ⟨qx, hqx⟩ : ∃ qx, qx = w4.heap.size := ⟨_, rfl⟩
      rw [← hqx] at HNqx ⊢
      have HBqx := Aside0.mk (show w.heap.size ≤ qx from by rw [hqx]; exact HGw4.out.size)
      have HDQqx := Aside0.mk (show q ≠ qx from by have := HQw4.out.lt; omega)
      clear hgx hqx HGw4 HQw4
      generalize (w4.alloc (.cells #[.int .i64 kind, .string key, .int .i64 id, .int .i64 no, .int .i64 size, .slice LA l.length lc, .slice BA b.length bc] 25)) = w5 at HNqx HGw5 HQw5 ⊢
      clear d0 d1 d2 d3 d4 d5 d6
      have f0 := HNqx.out.fr 0
      have e0 := HNqx.out.c0
      go_upto_region 6 with fail
      clear f0 e0
      have HXw6 := Aside0.mk (HNqx.out.set0 (k))
      have HGw6 := Aside0.mk (grown_keep HGw5.out (grown_set w5 qx 0 (.int .i64 (k))) HBqx.out)
      have HQw6 := Aside0.mk (rect_other HQw5.out qx 0 (.int .i64 (k)) HDQqx.out)
      clear HGw5 HNqx HQw5
      generalize w5.setCell ⟨qx, 0, none⟩ (.int .i64 (k)) = w6 at HXw6 HGw6 HQw6 ⊢
      have HRY := Aside0.mk (bare_y hrt)
      have HRZ := Aside0.mk (bare_z hrt)
      have hs := right_small hrt
      have hs1 : IntKind.i64.wrap (size + 1) = size + 1 := IntWalk.i64_in _ ⟨by omega, by omega⟩
      clear hs
      have d0 := HQw6.out.c0; have d1 := HQw6.out.c1; have d2 := HQw6.out.c2; have d3 := HQw6.out.c3; have d4 := HQw6.out.c4; have d5 := HQw6.out.c5; have d6 := HQw6.out.c6
      by_cases c1 : k = kind
      · have hlx : rightB k key id no size (toL l) b.length = true := by rw [c1]; exact hrt
        have b1 : (k == kind) = true := beq_iff_eq.2 c1
        clear c1 hrt
        have HLX := Aside0.mk hlx
        clear hlx
        go_upto_region 7 with fail
        clear d0 d1 d2 d3 d4 d5 d6
        have d0 := HQw6.out.c0; have d1 := HQw6.out.c1; have d2 := HQw6.out.c2; have d3 := HQw6.out.c3; have d4 := HQw6.out.c4; have d5 := HQw6.out.c5; have d6 := HQw6.out.c6
        go_upto_region 8 with fail
        have hgx : Grows w6 (w6.alloc (.cells #[.int .i64 kind, .string key, .int .i64 id, .int .i64 no, .int .i64 size, .slice LA l.length lc, .slice BA b.length bc] 25)) := (Below.refl w6.heap.size w6).alloc (Nat.le_refl _) (.cells #[.int .i64 kind, .string key, .int .i64 id, .int .i64 no, .int .i64 size, .slice LA l.length lc, .slice BA b.length bc] 25)
        have HNqy := Aside0.mk (show RecT 25 _ _ kind key id no size (.slice LA l.length lc) (.slice BA b.length bc) from heap_alloc_new w6 (.cells #[.int .i64 kind, .string key, .int .i64 id, .int .i64 no, .int .i64 size, .slice LA l.length lc, .slice BA b.length bc] 25))
        have HGw7 := Aside0.mk (HGw6.out.trans hgx)
        have HQw7 := Aside0.mk (HQw6.out.grows hgx)
        have HXw7 := Aside0.mk (HXw6.out.grows hgx)
        obtain ⟨qy, hqx⟩ : ∃ qy, qy = w6.heap.size := ⟨_, rfl⟩
        rw [← hqx] at HNqy ⊢
        have HBqy := Aside0.mk (show w.heap.size ≤ qy from by rw [hqx]; exact HGw6.out.size)
        have HDQqy := Aside0.mk (show q ≠ qy from by have := HQw6.out.lt; omega)
        have HDXqy := Aside0.mk (show qx ≠ qy from by have := HXw6.out.lt; omega)
        clear hgx hqx HGw6 HQw6 HXw6
        generalize (w6.alloc (.cells #[.int .i64 kind, .string key, .int .i64 id, .int .i64 no, .int .i64 size, .slice LA l.length lc, .slice BA b.length bc] 25)) = w7 at HNqy HGw7 HQw7 HXw7 ⊢
        clear d0 d1 d2 d3 d4 d5 d6
        have d4 := HQw7.out.c4
        have f4 := HNqy.out.fr 4
        have e4 := HNqy.out.c4
        go_upto_region 9 with fail
        clear d4 f4 e4
        have HYw8 := Aside0.mk (HNqy.out.set4 (size + 1))
        have HGw8 := Aside0.mk (grown_keep HGw7.out (grown_set w7 qy 4 (.int .i64 (size + 1))) HBqy.out)
        have HQw8 := Aside0.mk (rect_other HQw7.out qy 4 (.int .i64 (size + 1)) HDQqy.out)
        have HXw8 := Aside0.mk (rect_other HXw7.out qy 4 (.int .i64 (size + 1)) HDXqy.out)
        clear HGw7 HNqy HQw7 HXw7
        generalize w7.setCell ⟨qy, 4, none⟩ (.int .i64 (size + 1)) = w8 at HYw8 HGw8 HQw8 HXw8 ⊢
        have d0 := HQw8.out.c0; have d1 := HQw8.out.c1; have d2 := HQw8.out.c2; have d3 := HQw8.out.c3; have d4 := HQw8.out.c4; have d5 := HQw8.out.c5; have d6 := HQw8.out.c6
        go_upto_region 10 with fail
        clear d0 d1 d2 d3 d4 d5 d6
        have hgx : Grows w8 (w8.alloc (.cells #[.int .i64 kind, .string key, .int .i64 id, .int .i64 no, .int .i64 size, .slice LA l.length lc, .slice BA b.length bc] 25)) := (Below.refl w8.heap.size w8).alloc (Nat.le_refl _) (.cells #[.int .i64 kind, .string key, .int .i64 id, .int .i64 no, .int .i64 size, .slice LA l.length lc, .slice BA b.length bc] 25)
        have HNqz := Aside0.mk (show RecT 25 _ _ kind key id no size (.slice LA l.length lc) (.slice BA b.length bc) from heap_alloc_new w8 (.cells #[.int .i64 kind, .string key, .int .i64 id, .int .i64 no, .int .i64 size, .slice LA l.length lc, .slice BA b.length bc] 25))
        have HGw9 := Aside0.mk (HGw8.out.trans hgx)
        have HQw9 := Aside0.mk (HQw8.out.grows hgx)
        have HXw9 := Aside0.mk (HXw8.out.grows hgx)
        have HYw9 := Aside0.mk (HYw8.out.grows hgx)
        obtain ⟨qz, hqx⟩ : ∃ qz, qz = w8.heap.size := ⟨_, rfl⟩
        rw [← hqx] at HNqz ⊢
        have HBqz := Aside0.mk (show w.heap.size ≤ qz from by rw [hqx]; exact HGw8.out.size)
        have HDQqz := Aside0.mk (show q ≠ qz from by have := HQw8.out.lt; omega)
        have HDXqz := Aside0.mk (show qx ≠ qz from by have := HXw8.out.lt; omega)
        have HDYqz := Aside0.mk (show qy ≠ qz from by have := HYw8.out.lt; omega)
        clear hgx hqx HGw8 HQw8 HXw8 HYw8
        generalize (w8.alloc (.cells #[.int .i64 kind, .string key, .int .i64 id, .int .i64 no, .int .i64 size, .slice LA l.length lc, .slice BA b.length bc] 25)) = w9 at HNqz HGw9 HQw9 HXw9 HYw9 ⊢
        have f2 := HNqz.out.fr 2
        have e2 := HNqz.out.c2
        go_upto_region 11 with fail
        clear f2 e2
        have HZw10 := Aside0.mk (HNqz.out.set2 (-1))
        have HGw10 := Aside0.mk (grown_keep HGw9.out (grown_set w9 qz 2 (.int .i64 (-1))) HBqz.out)
        have HXw10 := Aside0.mk (rect_other HXw9.out qz 2 (.int .i64 (-1)) HDXqz.out)
        have HYw10 := Aside0.mk (rect_other HYw9.out qz 2 (.int .i64 (-1)) HDYqz.out)
        clear HGw9 HNqz HQw9 HXw9 HYw9
        generalize w9.setCell ⟨qz, 2, none⟩ (.int .i64 (-1)) = w10 at HZw10 HGw10 HXw10 HYw10 ⊢
        have d0 := HXw10.out.c0; have d1 := HXw10.out.c1; have d2 := HXw10.out.c2; have d3 := HXw10.out.c3; have d4 := HXw10.out.c4; have d5 := HXw10.out.c5; have d6 := HXw10.out.c6
        go_wp2_with (first
          | (go_at_call 13; with_reducible refine (right_c k key id no size (HR.out.grows HGw10.out)).mono ?_; rw [HLX.out]; rintro e y1 ⟨rfl, hg⟩; have HY1 := Aside0.mk (HGw10.out.trans hg); have HYy := Aside0.mk (HYw10.out.grows hg); have HYz := Aside0.mk (HZw10.out.grows hg); clear hg; clear d0 d1 d2 d3 d4 d5 d6; have d0 := HYy.out.c0; have d1 := HYy.out.c1; have d2 := HYy.out.c2; have d3 := HYy.out.c3; have d4 := HYy.out.c4; have d5 := HYy.out.c5; have d6 := HYy.out.c6)
          | (go_at_call 13; with_reducible refine (right_c kind key id no (size + 1) (HR.out.grows HY1.out)).mono ?_; rw [HRY.out]; rintro e y2 ⟨rfl, hg⟩; have HY2 := Aside0.mk (HY1.out.trans hg); have HZz := Aside0.mk (HYz.out.grows hg); clear hg; clear d0 d1 d2 d3 d4 d5 d6; have d0 := HZz.out.c0; have d1 := HZz.out.c1; have d2 := HZz.out.c2; have d3 := HZz.out.c3; have d4 := HZz.out.c4; have d5 := HZz.out.c5; have d6 := HZz.out.c6)
          | (go_at_call 13; with_reducible refine (right_c kind key (-1) no size (HR.out.grows HY2.out)).mono ?_; rw [HRZ.out]; rintro e y3 ⟨rfl, hg⟩; have HY3 := Aside0.mk (HY2.out.trans hg); clear hg))
        go_ret
        exact ⟨rfl, HY3.out⟩
      · have b1 : (k == kind) = false := beq_eq_false_iff_ne.2 c1
        by_cases c2 : k = 4
        · have b2 : (k == 4) = true := beq_iff_eq.2 c2
          have b5 : (k == 3) = false := beq_eq_false_iff_ne.2 (by omega)
          by_cases c3 : kind = 3
          · have b3 : (kind == 3) = true := beq_iff_eq.2 c3
            by_cases c4 : b.length = 0
            · have b4 : ((b.length : Int) == 0) = true := beq_iff_eq.2 (by omega)
              have hlx : rightB k key id no size (toL l) b.length = true := by rw [c2, c4]; rw [c3, c4] at hrt; exact bare_34 hrt
              clear c1 c2 c3 c4 hrt
              have HLX := Aside0.mk hlx
              clear hlx
              go_upto_region 7 with fail
              clear d0 d1 d2 d3 d4 d5 d6
              have d0 := HQw6.out.c0; have d1 := HQw6.out.c1; have d2 := HQw6.out.c2; have d3 := HQw6.out.c3; have d4 := HQw6.out.c4; have d5 := HQw6.out.c5; have d6 := HQw6.out.c6
              go_upto_region 8 with fail
              have hgx : Grows w6 (w6.alloc (.cells #[.int .i64 kind, .string key, .int .i64 id, .int .i64 no, .int .i64 size, .slice LA l.length lc, .slice BA b.length bc] 25)) := (Below.refl w6.heap.size w6).alloc (Nat.le_refl _) (.cells #[.int .i64 kind, .string key, .int .i64 id, .int .i64 no, .int .i64 size, .slice LA l.length lc, .slice BA b.length bc] 25)
              have HNqy := Aside0.mk (show RecT 25 _ _ kind key id no size (.slice LA l.length lc) (.slice BA b.length bc) from heap_alloc_new w6 (.cells #[.int .i64 kind, .string key, .int .i64 id, .int .i64 no, .int .i64 size, .slice LA l.length lc, .slice BA b.length bc] 25))
              have HGw7 := Aside0.mk (HGw6.out.trans hgx)
              have HQw7 := Aside0.mk (HQw6.out.grows hgx)
              have HXw7 := Aside0.mk (HXw6.out.grows hgx)
              obtain ⟨qy, hqx⟩ : ∃ qy, qy = w6.heap.size := ⟨_, rfl⟩
              rw [← hqx] at HNqy ⊢
              have HBqy := Aside0.mk (show w.heap.size ≤ qy from by rw [hqx]; exact HGw6.out.size)
              have HDQqy := Aside0.mk (show q ≠ qy from by have := HQw6.out.lt; omega)
              have HDXqy := Aside0.mk (show qx ≠ qy from by have := HXw6.out.lt; omega)
              clear hgx hqx HGw6 HQw6 HXw6
              generalize (w6.alloc (.cells #[.int .i64 kind, .string key, .int .i64 id, .int .i64 no, .int .i64 size, .slice LA l.length lc, .slice BA b.length bc] 25)) = w7 at HNqy HGw7 HQw7 HXw7 ⊢
              clear d0 d1 d2 d3 d4 d5 d6
              have d4 := HQw7.out.c4
              have f4 := HNqy.out.fr 4
              have e4 := HNqy.out.c4
              go_upto_region 9 with fail
              clear d4 f4 e4
              have HYw8 := Aside0.mk (HNqy.out.set4 (size + 1))
              have HGw8 := Aside0.mk (grown_keep HGw7.out (grown_set w7 qy 4 (.int .i64 (size + 1))) HBqy.out)
              have HQw8 := Aside0.mk (rect_other HQw7.out qy 4 (.int .i64 (size + 1)) HDQqy.out)
              have HXw8 := Aside0.mk (rect_other HXw7.out qy 4 (.int .i64 (size + 1)) HDXqy.out)
              clear HGw7 HNqy HQw7 HXw7
              generalize w7.setCell ⟨qy, 4, none⟩ (.int .i64 (size + 1)) = w8 at HYw8 HGw8 HQw8 HXw8 ⊢
              have d0 := HQw8.out.c0; have d1 := HQw8.out.c1; have d2 := HQw8.out.c2; have d3 := HQw8.out.c3; have d4 := HQw8.out.c4; have d5 := HQw8.out.c5; have d6 := HQw8.out.c6
              go_upto_region 10 with fail
              clear d0 d1 d2 d3 d4 d5 d6
              have hgx : Grows w8 (w8.alloc (.cells #[.int .i64 kind, .string key, .int .i64 id, .int .i64 no, .int .i64 size, .slice LA l.length lc, .slice BA b.length bc] 25)) := (Below.refl w8.heap.size w8).alloc (Nat.le_refl _) (.cells #[.int .i64 kind, .string key, .int .i64 id, .int .i64 no, .int .i64 size, .slice LA l.length lc, .slice BA b.length bc] 25)
              have HNqz := Aside0.mk (show RecT 25 _ _ kind key id no size (.slice LA l.length lc) (.slice BA b.length bc) from heap_alloc_new w8 (.cells #[.int .i64 kind, .string key, .int .i64 id, .int .i64 no, .int .i64 size, .slice LA l.length lc, .slice BA b.length bc] 25))
              have HGw9 := Aside0.mk (HGw8.out.trans hgx)
              have HQw9 := Aside0.mk (HQw8.out.grows hgx)
              have HXw9 := Aside0.mk (HXw8.out.grows hgx)
              have HYw9 := Aside0.mk (HYw8.out.grows hgx)
              obtain ⟨qz, hqx⟩ : ∃ qz, qz = w8.heap.size := ⟨_, rfl⟩
              rw [← hqx] at HNqz ⊢
              have HBqz := Aside0.mk (show w.heap.size ≤ qz from by rw [hqx]; exact HGw8.out.size)
              have HDQqz := Aside0.mk (show q ≠ qz from by have := HQw8.out.lt; omega)
              have HDXqz := Aside0.mk (show qx ≠ qz from by have := HXw8.out.lt; omega)
              have HDYqz := Aside0.mk (show qy ≠ qz from by have := HYw8.out.lt; omega)
              clear hgx hqx HGw8 HQw8 HXw8 HYw8
              generalize (w8.alloc (.cells #[.int .i64 kind, .string key, .int .i64 id, .int .i64 no, .int .i64 size, .slice LA l.length lc, .slice BA b.length bc] 25)) = w9 at HNqz HGw9 HQw9 HXw9 HYw9 ⊢
              have f2 := HNqz.out.fr 2
              have e2 := HNqz.out.c2
              go_upto_region 11 with fail
              clear f2 e2
              have HZw10 := Aside0.mk (HNqz.out.set2 (-1))
              have HGw10 := Aside0.mk (grown_keep HGw9.out (grown_set w9 qz 2 (.int .i64 (-1))) HBqz.out)
              have HXw10 := Aside0.mk (rect_other HXw9.out qz 2 (.int .i64 (-1)) HDXqz.out)
              have HYw10 := Aside0.mk (rect_other HYw9.out qz 2 (.int .i64 (-1)) HDYqz.out)
              clear HGw9 HNqz HQw9 HXw9 HYw9
              generalize w9.setCell ⟨qz, 2, none⟩ (.int .i64 (-1)) = w10 at HZw10 HGw10 HXw10 HYw10 ⊢
              have d0 := HXw10.out.c0; have d1 := HXw10.out.c1; have d2 := HXw10.out.c2; have d3 := HXw10.out.c3; have d4 := HXw10.out.c4; have d5 := HXw10.out.c5; have d6 := HXw10.out.c6
              go_wp2_with (first
                | (go_at_call 13; with_reducible refine (right_c k key id no size (HR.out.grows HGw10.out)).mono ?_; rw [HLX.out]; rintro e y1 ⟨rfl, hg⟩; have HY1 := Aside0.mk (HGw10.out.trans hg); have HYy := Aside0.mk (HYw10.out.grows hg); have HYz := Aside0.mk (HZw10.out.grows hg); clear hg; clear d0 d1 d2 d3 d4 d5 d6; have d0 := HYy.out.c0; have d1 := HYy.out.c1; have d2 := HYy.out.c2; have d3 := HYy.out.c3; have d4 := HYy.out.c4; have d5 := HYy.out.c5; have d6 := HYy.out.c6)
                | (go_at_call 13; with_reducible refine (right_c kind key id no (size + 1) (HR.out.grows HY1.out)).mono ?_; rw [HRY.out]; rintro e y2 ⟨rfl, hg⟩; have HY2 := Aside0.mk (HY1.out.trans hg); have HZz := Aside0.mk (HYz.out.grows hg); clear hg; clear d0 d1 d2 d3 d4 d5 d6; have d0 := HZz.out.c0; have d1 := HZz.out.c1; have d2 := HZz.out.c2; have d3 := HZz.out.c3; have d4 := HZz.out.c4; have d5 := HZz.out.c5; have d6 := HZz.out.c6)
                | (go_at_call 13; with_reducible refine (right_c kind key (-1) no size (HR.out.grows HY2.out)).mono ?_; rw [HRZ.out]; rintro e y3 ⟨rfl, hg⟩; have HY3 := Aside0.mk (HY2.out.trans hg); clear hg))
              go_ret
              exact ⟨rfl, HY3.out⟩
            · have b4 : ((b.length : Int) == 0) = false := beq_eq_false_iff_ne.2 (by omega)
              have hlx := bare_no hrt c1 (fun h => c4 h.2.2) (fun h => absurd h.1 (by omega))
              clear c1 c2 c3 c4 hrt
              have HLX := Aside0.mk hlx
              clear hlx
              go_upto_region 7 with fail
              clear d0 d1 d2 d3 d4 d5 d6
              have d0 := HQw6.out.c0; have d1 := HQw6.out.c1; have d2 := HQw6.out.c2; have d3 := HQw6.out.c3; have d4 := HQw6.out.c4; have d5 := HQw6.out.c5; have d6 := HQw6.out.c6
              go_upto_region 8 with fail
              have hgx : Grows w6 (w6.alloc (.cells #[.int .i64 kind, .string key, .int .i64 id, .int .i64 no, .int .i64 size, .slice LA l.length lc, .slice BA b.length bc] 25)) := (Below.refl w6.heap.size w6).alloc (Nat.le_refl _) (.cells #[.int .i64 kind, .string key, .int .i64 id, .int .i64 no, .int .i64 size, .slice LA l.length lc, .slice BA b.length bc] 25)
              have HNqy := Aside0.mk (show RecT 25 _ _ kind key id no size (.slice LA l.length lc) (.slice BA b.length bc) from heap_alloc_new w6 (.cells #[.int .i64 kind, .string key, .int .i64 id, .int .i64 no, .int .i64 size, .slice LA l.length lc, .slice BA b.length bc] 25))
              have HGw7 := Aside0.mk (HGw6.out.trans hgx)
              have HQw7 := Aside0.mk (HQw6.out.grows hgx)
              have HXw7 := Aside0.mk (HXw6.out.grows hgx)
              obtain ⟨qy, hqx⟩ : ∃ qy, qy = w6.heap.size := ⟨_, rfl⟩
              rw [← hqx] at HNqy ⊢
              have HBqy := Aside0.mk (show w.heap.size ≤ qy from by rw [hqx]; exact HGw6.out.size)
              have HDQqy := Aside0.mk (show q ≠ qy from by have := HQw6.out.lt; omega)
              have HDXqy := Aside0.mk (show qx ≠ qy from by have := HXw6.out.lt; omega)
              clear hgx hqx HGw6 HQw6 HXw6
              generalize (w6.alloc (.cells #[.int .i64 kind, .string key, .int .i64 id, .int .i64 no, .int .i64 size, .slice LA l.length lc, .slice BA b.length bc] 25)) = w7 at HNqy HGw7 HQw7 HXw7 ⊢
              clear d0 d1 d2 d3 d4 d5 d6
              have d4 := HQw7.out.c4
              have f4 := HNqy.out.fr 4
              have e4 := HNqy.out.c4
              go_upto_region 9 with fail
              clear d4 f4 e4
              have HYw8 := Aside0.mk (HNqy.out.set4 (size + 1))
              have HGw8 := Aside0.mk (grown_keep HGw7.out (grown_set w7 qy 4 (.int .i64 (size + 1))) HBqy.out)
              have HQw8 := Aside0.mk (rect_other HQw7.out qy 4 (.int .i64 (size + 1)) HDQqy.out)
              have HXw8 := Aside0.mk (rect_other HXw7.out qy 4 (.int .i64 (size + 1)) HDXqy.out)
              clear HGw7 HNqy HQw7 HXw7
              generalize w7.setCell ⟨qy, 4, none⟩ (.int .i64 (size + 1)) = w8 at HYw8 HGw8 HQw8 HXw8 ⊢
              have d0 := HQw8.out.c0; have d1 := HQw8.out.c1; have d2 := HQw8.out.c2; have d3 := HQw8.out.c3; have d4 := HQw8.out.c4; have d5 := HQw8.out.c5; have d6 := HQw8.out.c6
              go_upto_region 10 with fail
              clear d0 d1 d2 d3 d4 d5 d6
              have hgx : Grows w8 (w8.alloc (.cells #[.int .i64 kind, .string key, .int .i64 id, .int .i64 no, .int .i64 size, .slice LA l.length lc, .slice BA b.length bc] 25)) := (Below.refl w8.heap.size w8).alloc (Nat.le_refl _) (.cells #[.int .i64 kind, .string key, .int .i64 id, .int .i64 no, .int .i64 size, .slice LA l.length lc, .slice BA b.length bc] 25)
              have HNqz := Aside0.mk (show RecT 25 _ _ kind key id no size (.slice LA l.length lc) (.slice BA b.length bc) from heap_alloc_new w8 (.cells #[.int .i64 kind, .string key, .int .i64 id, .int .i64 no, .int .i64 size, .slice LA l.length lc, .slice BA b.length bc] 25))
              have HGw9 := Aside0.mk (HGw8.out.trans hgx)
              have HQw9 := Aside0.mk (HQw8.out.grows hgx)
              have HXw9 := Aside0.mk (HXw8.out.grows hgx)
              have HYw9 := Aside0.mk (HYw8.out.grows hgx)
              obtain ⟨qz, hqx⟩ : ∃ qz, qz = w8.heap.size := ⟨_, rfl⟩
              rw [← hqx] at HNqz ⊢
              have HBqz := Aside0.mk (show w.heap.size ≤ qz from by rw [hqx]; exact HGw8.out.size)
              have HDQqz := Aside0.mk (show q ≠ qz from by have := HQw8.out.lt; omega)
              have HDXqz := Aside0.mk (show qx ≠ qz from by have := HXw8.out.lt; omega)
              have HDYqz := Aside0.mk (show qy ≠ qz from by have := HYw8.out.lt; omega)
              clear hgx hqx HGw8 HQw8 HXw8 HYw8
              generalize (w8.alloc (.cells #[.int .i64 kind, .string key, .int .i64 id, .int .i64 no, .int .i64 size, .slice LA l.length lc, .slice BA b.length bc] 25)) = w9 at HNqz HGw9 HQw9 HXw9 HYw9 ⊢
              have f2 := HNqz.out.fr 2
              have e2 := HNqz.out.c2
              go_upto_region 11 with fail
              clear f2 e2
              have HZw10 := Aside0.mk (HNqz.out.set2 (-1))
              have HGw10 := Aside0.mk (grown_keep HGw9.out (grown_set w9 qz 2 (.int .i64 (-1))) HBqz.out)
              have HXw10 := Aside0.mk (rect_other HXw9.out qz 2 (.int .i64 (-1)) HDXqz.out)
              have HYw10 := Aside0.mk (rect_other HYw9.out qz 2 (.int .i64 (-1)) HDYqz.out)
              clear HGw9 HNqz HQw9 HXw9 HYw9
              generalize w9.setCell ⟨qz, 2, none⟩ (.int .i64 (-1)) = w10 at HZw10 HGw10 HXw10 HYw10 ⊢
              have d0 := HXw10.out.c0; have d1 := HXw10.out.c1; have d2 := HXw10.out.c2; have d3 := HXw10.out.c3; have d4 := HXw10.out.c4; have d5 := HXw10.out.c5; have d6 := HXw10.out.c6
              go_wp2_with (first
                | (go_at_call 13; with_reducible refine (right_c k key id no size (HR.out.grows HGw10.out)).mono ?_; rw [HLX.out]; rintro e y1 ⟨rfl, hg⟩; have HY1 := Aside0.mk (HGw10.out.trans hg); have HYy := Aside0.mk (HYw10.out.grows hg); have HYz := Aside0.mk (HZw10.out.grows hg); clear hg; clear d0 d1 d2 d3 d4 d5 d6; have d0 := HYy.out.c0; have d1 := HYy.out.c1; have d2 := HYy.out.c2; have d3 := HYy.out.c3; have d4 := HYy.out.c4; have d5 := HYy.out.c5; have d6 := HYy.out.c6)
                | (go_at_call 13; with_reducible refine (right_c kind key id no (size + 1) (HR.out.grows HY1.out)).mono ?_; rw [HRY.out]; rintro e y2 ⟨rfl, hg⟩; have HY2 := Aside0.mk (HY1.out.trans hg); have HZz := Aside0.mk (HYz.out.grows hg); clear hg; clear d0 d1 d2 d3 d4 d5 d6; have d0 := HZz.out.c0; have d1 := HZz.out.c1; have d2 := HZz.out.c2; have d3 := HZz.out.c3; have d4 := HZz.out.c4; have d5 := HZz.out.c5; have d6 := HZz.out.c6)
                | (go_at_call 13; with_reducible refine (right_c kind key (-1) no size (HR.out.grows HY2.out)).mono ?_; rw [HRZ.out]; rintro e y3 ⟨rfl, hg⟩; have HY3 := Aside0.mk (HY2.out.trans hg); clear hg))
              go_ret
              exact ⟨rfl, HY3.out⟩
          · have b3 : (kind == 3) = false := beq_eq_false_iff_ne.2 c3
            have hlx := bare_no hrt c1 (fun h => c3 h.2.1) (fun h => absurd h.1 (by omega))
            clear c1 c2 c3 hrt
            have HLX := Aside0.mk hlx
            clear hlx
            go_upto_region 7 with fail
            clear d0 d1 d2 d3 d4 d5 d6
            have d0 := HQw6.out.c0; have d1 := HQw6.out.c1; have d2 := HQw6.out.c2; have d3 := HQw6.out.c3; have d4 := HQw6.out.c4; have d5 := HQw6.out.c5; have d6 := HQw6.out.c6
            go_upto_region 8 with fail
            have hgx : Grows w6 (w6.alloc (.cells #[.int .i64 kind, .string key, .int .i64 id, .int .i64 no, .int .i64 size, .slice LA l.length lc, .slice BA b.length bc] 25)) := (Below.refl w6.heap.size w6).alloc (Nat.le_refl _) (.cells #[.int .i64 kind, .string key, .int .i64 id, .int .i64 no, .int .i64 size, .slice LA l.length lc, .slice BA b.length bc] 25)
            have HNqy := Aside0.mk (show RecT 25 _ _ kind key id no size (.slice LA l.length lc) (.slice BA b.length bc) from heap_alloc_new w6 (.cells #[.int .i64 kind, .string key, .int .i64 id, .int .i64 no, .int .i64 size, .slice LA l.length lc, .slice BA b.length bc] 25))
            have HGw7 := Aside0.mk (HGw6.out.trans hgx)
            have HQw7 := Aside0.mk (HQw6.out.grows hgx)
            have HXw7 := Aside0.mk (HXw6.out.grows hgx)
            obtain ⟨qy, hqx⟩ : ∃ qy, qy = w6.heap.size := ⟨_, rfl⟩
            rw [← hqx] at HNqy ⊢
            have HBqy := Aside0.mk (show w.heap.size ≤ qy from by rw [hqx]; exact HGw6.out.size)
            have HDQqy := Aside0.mk (show q ≠ qy from by have := HQw6.out.lt; omega)
            have HDXqy := Aside0.mk (show qx ≠ qy from by have := HXw6.out.lt; omega)
            clear hgx hqx HGw6 HQw6 HXw6
            generalize (w6.alloc (.cells #[.int .i64 kind, .string key, .int .i64 id, .int .i64 no, .int .i64 size, .slice LA l.length lc, .slice BA b.length bc] 25)) = w7 at HNqy HGw7 HQw7 HXw7 ⊢
            clear d0 d1 d2 d3 d4 d5 d6
            have d4 := HQw7.out.c4
            have f4 := HNqy.out.fr 4
            have e4 := HNqy.out.c4
            go_upto_region 9 with fail
            clear d4 f4 e4
            have HYw8 := Aside0.mk (HNqy.out.set4 (size + 1))
            have HGw8 := Aside0.mk (grown_keep HGw7.out (grown_set w7 qy 4 (.int .i64 (size + 1))) HBqy.out)
            have HQw8 := Aside0.mk (rect_other HQw7.out qy 4 (.int .i64 (size + 1)) HDQqy.out)
            have HXw8 := Aside0.mk (rect_other HXw7.out qy 4 (.int .i64 (size + 1)) HDXqy.out)
            clear HGw7 HNqy HQw7 HXw7
            generalize w7.setCell ⟨qy, 4, none⟩ (.int .i64 (size + 1)) = w8 at HYw8 HGw8 HQw8 HXw8 ⊢
            have d0 := HQw8.out.c0; have d1 := HQw8.out.c1; have d2 := HQw8.out.c2; have d3 := HQw8.out.c3; have d4 := HQw8.out.c4; have d5 := HQw8.out.c5; have d6 := HQw8.out.c6
            go_upto_region 10 with fail
            clear d0 d1 d2 d3 d4 d5 d6
            have hgx : Grows w8 (w8.alloc (.cells #[.int .i64 kind, .string key, .int .i64 id, .int .i64 no, .int .i64 size, .slice LA l.length lc, .slice BA b.length bc] 25)) := (Below.refl w8.heap.size w8).alloc (Nat.le_refl _) (.cells #[.int .i64 kind, .string key, .int .i64 id, .int .i64 no, .int .i64 size, .slice LA l.length lc, .slice BA b.length bc] 25)
            have HNqz := Aside0.mk (show RecT 25 _ _ kind key id no size (.slice LA l.length lc) (.slice BA b.length bc) from heap_alloc_new w8 (.cells #[.int .i64 kind, .string key, .int .i64 id, .int .i64 no, .int .i64 size, .slice LA l.length lc, .slice BA b.length bc] 25))
            have HGw9 := Aside0.mk (HGw8.out.trans hgx)
            have HQw9 := Aside0.mk (HQw8.out.grows hgx)
            have HXw9 := Aside0.mk (HXw8.out.grows hgx)
            have HYw9 := Aside0.mk (HYw8.out.grows hgx)
            obtain ⟨qz, hqx⟩ : ∃ qz, qz = w8.heap.size := ⟨_, rfl⟩
            rw [← hqx] at HNqz ⊢
            have HBqz := Aside0.mk (show w.heap.size ≤ qz from by rw [hqx]; exact HGw8.out.size)
            have HDQqz := Aside0.mk (show q ≠ qz from by have := HQw8.out.lt; omega)
            have HDXqz := Aside0.mk (show qx ≠ qz from by have := HXw8.out.lt; omega)
            have HDYqz := Aside0.mk (show qy ≠ qz from by have := HYw8.out.lt; omega)
            clear hgx hqx HGw8 HQw8 HXw8 HYw8
            generalize (w8.alloc (.cells #[.int .i64 kind, .string key, .int .i64 id, .int .i64 no, .int .i64 size, .slice LA l.length lc, .slice BA b.length bc] 25)) = w9 at HNqz HGw9 HQw9 HXw9 HYw9 ⊢
            have f2 := HNqz.out.fr 2
            have e2 := HNqz.out.c2
            go_upto_region 11 with fail
            clear f2 e2
            have HZw10 := Aside0.mk (HNqz.out.set2 (-1))
            have HGw10 := Aside0.mk (grown_keep HGw9.out (grown_set w9 qz 2 (.int .i64 (-1))) HBqz.out)
            have HXw10 := Aside0.mk (rect_other HXw9.out qz 2 (.int .i64 (-1)) HDXqz.out)
            have HYw10 := Aside0.mk (rect_other HYw9.out qz 2 (.int .i64 (-1)) HDYqz.out)
            clear HGw9 HNqz HQw9 HXw9 HYw9
            generalize w9.setCell ⟨qz, 2, none⟩ (.int .i64 (-1)) = w10 at HZw10 HGw10 HXw10 HYw10 ⊢
            have d0 := HXw10.out.c0; have d1 := HXw10.out.c1; have d2 := HXw10.out.c2; have d3 := HXw10.out.c3; have d4 := HXw10.out.c4; have d5 := HXw10.out.c5; have d6 := HXw10.out.c6
            go_wp2_with (first
              | (go_at_call 13; with_reducible refine (right_c k key id no size (HR.out.grows HGw10.out)).mono ?_; rw [HLX.out]; rintro e y1 ⟨rfl, hg⟩; have HY1 := Aside0.mk (HGw10.out.trans hg); have HYy := Aside0.mk (HYw10.out.grows hg); have HYz := Aside0.mk (HZw10.out.grows hg); clear hg; clear d0 d1 d2 d3 d4 d5 d6; have d0 := HYy.out.c0; have d1 := HYy.out.c1; have d2 := HYy.out.c2; have d3 := HYy.out.c3; have d4 := HYy.out.c4; have d5 := HYy.out.c5; have d6 := HYy.out.c6)
              | (go_at_call 13; with_reducible refine (right_c kind key id no (size + 1) (HR.out.grows HY1.out)).mono ?_; rw [HRY.out]; rintro e y2 ⟨rfl, hg⟩; have HY2 := Aside0.mk (HY1.out.trans hg); have HZz := Aside0.mk (HYz.out.grows hg); clear hg; clear d0 d1 d2 d3 d4 d5 d6; have d0 := HZz.out.c0; have d1 := HZz.out.c1; have d2 := HZz.out.c2; have d3 := HZz.out.c3; have d4 := HZz.out.c4; have d5 := HZz.out.c5; have d6 := HZz.out.c6)
              | (go_at_call 13; with_reducible refine (right_c kind key (-1) no size (HR.out.grows HY2.out)).mono ?_; rw [HRZ.out]; rintro e y3 ⟨rfl, hg⟩; have HY3 := Aside0.mk (HY2.out.trans hg); clear hg))
            go_ret
            exact ⟨rfl, HY3.out⟩
        · have b2 : (k == 4) = false := beq_eq_false_iff_ne.2 c2
          by_cases c5 : k = 3
          · have b5 : (k == 3) = true := beq_iff_eq.2 c5
            by_cases c6 : kind = 4
            · have b6 : (kind == 4) = true := beq_iff_eq.2 c6
              have hlx : rightB k key id no size (toL l) b.length = true := by rw [c5]; rw [c6] at hrt; exact bare_43 hrt
              clear c1 c2 c5 c6 hrt
              have HLX := Aside0.mk hlx
              clear hlx
              go_upto_region 7 with fail
              clear d0 d1 d2 d3 d4 d5 d6
              have d0 := HQw6.out.c0; have d1 := HQw6.out.c1; have d2 := HQw6.out.c2; have d3 := HQw6.out.c3; have d4 := HQw6.out.c4; have d5 := HQw6.out.c5; have d6 := HQw6.out.c6
              go_upto_region 8 with fail
              have hgx : Grows w6 (w6.alloc (.cells #[.int .i64 kind, .string key, .int .i64 id, .int .i64 no, .int .i64 size, .slice LA l.length lc, .slice BA b.length bc] 25)) := (Below.refl w6.heap.size w6).alloc (Nat.le_refl _) (.cells #[.int .i64 kind, .string key, .int .i64 id, .int .i64 no, .int .i64 size, .slice LA l.length lc, .slice BA b.length bc] 25)
              have HNqy := Aside0.mk (show RecT 25 _ _ kind key id no size (.slice LA l.length lc) (.slice BA b.length bc) from heap_alloc_new w6 (.cells #[.int .i64 kind, .string key, .int .i64 id, .int .i64 no, .int .i64 size, .slice LA l.length lc, .slice BA b.length bc] 25))
              have HGw7 := Aside0.mk (HGw6.out.trans hgx)
              have HQw7 := Aside0.mk (HQw6.out.grows hgx)
              have HXw7 := Aside0.mk (HXw6.out.grows hgx)
              obtain ⟨qy, hqx⟩ : ∃ qy, qy = w6.heap.size := ⟨_, rfl⟩
              rw [← hqx] at HNqy ⊢
              have HBqy := Aside0.mk (show w.heap.size ≤ qy from by rw [hqx]; exact HGw6.out.size)
              have HDQqy := Aside0.mk (show q ≠ qy from by have := HQw6.out.lt; omega)
              have HDXqy := Aside0.mk (show qx ≠ qy from by have := HXw6.out.lt; omega)
              clear hgx hqx HGw6 HQw6 HXw6
              generalize (w6.alloc (.cells #[.int .i64 kind, .string key, .int .i64 id, .int .i64 no, .int .i64 size, .slice LA l.length lc, .slice BA b.length bc] 25)) = w7 at HNqy HGw7 HQw7 HXw7 ⊢
              clear d0 d1 d2 d3 d4 d5 d6
              have d4 := HQw7.out.c4
              have f4 := HNqy.out.fr 4
              have e4 := HNqy.out.c4
              go_upto_region 9 with fail
              clear d4 f4 e4
              have HYw8 := Aside0.mk (HNqy.out.set4 (size + 1))
              have HGw8 := Aside0.mk (grown_keep HGw7.out (grown_set w7 qy 4 (.int .i64 (size + 1))) HBqy.out)
              have HQw8 := Aside0.mk (rect_other HQw7.out qy 4 (.int .i64 (size + 1)) HDQqy.out)
              have HXw8 := Aside0.mk (rect_other HXw7.out qy 4 (.int .i64 (size + 1)) HDXqy.out)
              clear HGw7 HNqy HQw7 HXw7
              generalize w7.setCell ⟨qy, 4, none⟩ (.int .i64 (size + 1)) = w8 at HYw8 HGw8 HQw8 HXw8 ⊢
              have d0 := HQw8.out.c0; have d1 := HQw8.out.c1; have d2 := HQw8.out.c2; have d3 := HQw8.out.c3; have d4 := HQw8.out.c4; have d5 := HQw8.out.c5; have d6 := HQw8.out.c6
              go_upto_region 10 with fail
              clear d0 d1 d2 d3 d4 d5 d6
              have hgx : Grows w8 (w8.alloc (.cells #[.int .i64 kind, .string key, .int .i64 id, .int .i64 no, .int .i64 size, .slice LA l.length lc, .slice BA b.length bc] 25)) := (Below.refl w8.heap.size w8).alloc (Nat.le_refl _) (.cells #[.int .i64 kind, .string key, .int .i64 id, .int .i64 no, .int .i64 size, .slice LA l.length lc, .slice BA b.length bc] 25)
              have HNqz := Aside0.mk (show RecT 25 _ _ kind key id no size (.slice LA l.length lc) (.slice BA b.length bc) from heap_alloc_new w8 (.cells #[.int .i64 kind, .string key, .int .i64 id, .int .i64 no, .int .i64 size, .slice LA l.length lc, .slice BA b.length bc] 25))
              have HGw9 := Aside0.mk (HGw8.out.trans hgx)
              have HQw9 := Aside0.mk (HQw8.out.grows hgx)
              have HXw9 := Aside0.mk (HXw8.out.grows hgx)
              have HYw9 := Aside0.mk (HYw8.out.grows hgx)
              obtain ⟨qz, hqx⟩ : ∃ qz, qz = w8.heap.size := ⟨_, rfl⟩
              rw [← hqx] at HNqz ⊢
              have HBqz := Aside0.mk (show w.heap.size ≤ qz from by rw [hqx]; exact HGw8.out.size)
              have HDQqz := Aside0.mk (show q ≠ qz from by have := HQw8.out.lt; omega)
              have HDXqz := Aside0.mk (show qx ≠ qz from by have := HXw8.out.lt; omega)
              have HDYqz := Aside0.mk (show qy ≠ qz from by have := HYw8.out.lt; omega)
              clear hgx hqx HGw8 HQw8 HXw8 HYw8
              generalize (w8.alloc (.cells #[.int .i64 kind, .string key, .int .i64 id, .int .i64 no, .int .i64 size, .slice LA l.length lc, .slice BA b.length bc] 25)) = w9 at HNqz HGw9 HQw9 HXw9 HYw9 ⊢
              have f2 := HNqz.out.fr 2
              have e2 := HNqz.out.c2
              go_upto_region 11 with fail
              clear f2 e2
              have HZw10 := Aside0.mk (HNqz.out.set2 (-1))
              have HGw10 := Aside0.mk (grown_keep HGw9.out (grown_set w9 qz 2 (.int .i64 (-1))) HBqz.out)
              have HXw10 := Aside0.mk (rect_other HXw9.out qz 2 (.int .i64 (-1)) HDXqz.out)
              have HYw10 := Aside0.mk (rect_other HYw9.out qz 2 (.int .i64 (-1)) HDYqz.out)
              clear HGw9 HNqz HQw9 HXw9 HYw9
              generalize w9.setCell ⟨qz, 2, none⟩ (.int .i64 (-1)) = w10 at HZw10 HGw10 HXw10 HYw10 ⊢
              have d0 := HXw10.out.c0; have d1 := HXw10.out.c1; have d2 := HXw10.out.c2; have d3 := HXw10.out.c3; have d4 := HXw10.out.c4; have d5 := HXw10.out.c5; have d6 := HXw10.out.c6
              go_wp2_with (first
                | (go_at_call 13; with_reducible refine (right_c k key id no size (HR.out.grows HGw10.out)).mono ?_; rw [HLX.out]; rintro e y1 ⟨rfl, hg⟩; have HY1 := Aside0.mk (HGw10.out.trans hg); have HYy := Aside0.mk (HYw10.out.grows hg); have HYz := Aside0.mk (HZw10.out.grows hg); clear hg; clear d0 d1 d2 d3 d4 d5 d6; have d0 := HYy.out.c0; have d1 := HYy.out.c1; have d2 := HYy.out.c2; have d3 := HYy.out.c3; have d4 := HYy.out.c4; have d5 := HYy.out.c5; have d6 := HYy.out.c6)
                | (go_at_call 13; with_reducible refine (right_c kind key id no (size + 1) (HR.out.grows HY1.out)).mono ?_; rw [HRY.out]; rintro e y2 ⟨rfl, hg⟩; have HY2 := Aside0.mk (HY1.out.trans hg); have HZz := Aside0.mk (HYz.out.grows hg); clear hg; clear d0 d1 d2 d3 d4 d5 d6; have d0 := HZz.out.c0; have d1 := HZz.out.c1; have d2 := HZz.out.c2; have d3 := HZz.out.c3; have d4 := HZz.out.c4; have d5 := HZz.out.c5; have d6 := HZz.out.c6)
                | (go_at_call 13; with_reducible refine (right_c kind key (-1) no size (HR.out.grows HY2.out)).mono ?_; rw [HRZ.out]; rintro e y3 ⟨rfl, hg⟩; have HY3 := Aside0.mk (HY2.out.trans hg); clear hg))
              go_ret
              exact ⟨rfl, HY3.out⟩
            · have b6 : (kind == 4) = false := beq_eq_false_iff_ne.2 c6
              have hlx := bare_no hrt c1 (fun h => c2 h.1) (fun h => c6 h.2)
              clear c1 c2 c5 c6 hrt
              have HLX := Aside0.mk hlx
              clear hlx
              go_upto_region 7 with fail
              clear d0 d1 d2 d3 d4 d5 d6
              have d0 := HQw6.out.c0; have d1 := HQw6.out.c1; have d2 := HQw6.out.c2; have d3 := HQw6.out.c3; have d4 := HQw6.out.c4; have d5 := HQw6.out.c5; have d6 := HQw6.out.c6
              go_upto_region 8 with fail
              have hgx : Grows w6 (w6.alloc (.cells #[.int .i64 kind, .string key, .int .i64 id, .int .i64 no, .int .i64 size, .slice LA l.length lc, .slice BA b.length bc] 25)) := (Below.refl w6.heap.size w6).alloc (Nat.le_refl _) (.cells #[.int .i64 kind, .string key, .int .i64 id, .int .i64 no, .int .i64 size, .slice LA l.length lc, .slice BA b.length bc] 25)
              have HNqy := Aside0.mk (show RecT 25 _ _ kind key id no size (.slice LA l.length lc) (.slice BA b.length bc) from heap_alloc_new w6 (.cells #[.int .i64 kind, .string key, .int .i64 id, .int .i64 no, .int .i64 size, .slice LA l.length lc, .slice BA b.length bc] 25))
              have HGw7 := Aside0.mk (HGw6.out.trans hgx)
              have HQw7 := Aside0.mk (HQw6.out.grows hgx)
              have HXw7 := Aside0.mk (HXw6.out.grows hgx)
              obtain ⟨qy, hqx⟩ : ∃ qy, qy = w6.heap.size := ⟨_, rfl⟩
              rw [← hqx] at HNqy ⊢
              have HBqy := Aside0.mk (show w.heap.size ≤ qy from by rw [hqx]; exact HGw6.out.size)
              have HDQqy := Aside0.mk (show q ≠ qy from by have := HQw6.out.lt; omega)
              have HDXqy := Aside0.mk (show qx ≠ qy from by have := HXw6.out.lt; omega)
              clear hgx hqx HGw6 HQw6 HXw6
              generalize (w6.alloc (.cells #[.int .i64 kind, .string key, .int .i64 id, .int .i64 no, .int .i64 size, .slice LA l.length lc, .slice BA b.length bc] 25)) = w7 at HNqy HGw7 HQw7 HXw7 ⊢
              clear d0 d1 d2 d3 d4 d5 d6
              have d4 := HQw7.out.c4
              have f4 := HNqy.out.fr 4
              have e4 := HNqy.out.c4
              go_upto_region 9 with fail
              clear d4 f4 e4
              have HYw8 := Aside0.mk (HNqy.out.set4 (size + 1))
              have HGw8 := Aside0.mk (grown_keep HGw7.out (grown_set w7 qy 4 (.int .i64 (size + 1))) HBqy.out)
              have HQw8 := Aside0.mk (rect_other HQw7.out qy 4 (.int .i64 (size + 1)) HDQqy.out)
              have HXw8 := Aside0.mk (rect_other HXw7.out qy 4 (.int .i64 (size + 1)) HDXqy.out)
              clear HGw7 HNqy HQw7 HXw7
              generalize w7.setCell ⟨qy, 4, none⟩ (.int .i64 (size + 1)) = w8 at HYw8 HGw8 HQw8 HXw8 ⊢
              have d0 := HQw8.out.c0; have d1 := HQw8.out.c1; have d2 := HQw8.out.c2; have d3 := HQw8.out.c3; have d4 := HQw8.out.c4; have d5 := HQw8.out.c5; have d6 := HQw8.out.c6
              go_upto_region 10 with fail
              clear d0 d1 d2 d3 d4 d5 d6
              have hgx : Grows w8 (w8.alloc (.cells #[.int .i64 kind, .string key, .int .i64 id, .int .i64 no, .int .i64 size, .slice LA l.length lc, .slice BA b.length bc] 25)) := (Below.refl w8.heap.size w8).alloc (Nat.le_refl _) (.cells #[.int .i64 kind, .string key, .int .i64 id, .int .i64 no, .int .i64 size, .slice LA l.length lc, .slice BA b.length bc] 25)
              have HNqz := Aside0.mk (show RecT 25 _ _ kind key id no size (.slice LA l.length lc) (.slice BA b.length bc) from heap_alloc_new w8 (.cells #[.int .i64 kind, .string key, .int .i64 id, .int .i64 no, .int .i64 size, .slice LA l.length lc, .slice BA b.length bc] 25))
              have HGw9 := Aside0.mk (HGw8.out.trans hgx)
              have HQw9 := Aside0.mk (HQw8.out.grows hgx)
              have HXw9 := Aside0.mk (HXw8.out.grows hgx)
              have HYw9 := Aside0.mk (HYw8.out.grows hgx)
              obtain ⟨qz, hqx⟩ : ∃ qz, qz = w8.heap.size := ⟨_, rfl⟩
              rw [← hqx] at HNqz ⊢
              have HBqz := Aside0.mk (show w.heap.size ≤ qz from by rw [hqx]; exact HGw8.out.size)
              have HDQqz := Aside0.mk (show q ≠ qz from by have := HQw8.out.lt; omega)
              have HDXqz := Aside0.mk (show qx ≠ qz from by have := HXw8.out.lt; omega)
              have HDYqz := Aside0.mk (show qy ≠ qz from by have := HYw8.out.lt; omega)
              clear hgx hqx HGw8 HQw8 HXw8 HYw8
              generalize (w8.alloc (.cells #[.int .i64 kind, .string key, .int .i64 id, .int .i64 no, .int .i64 size, .slice LA l.length lc, .slice BA b.length bc] 25)) = w9 at HNqz HGw9 HQw9 HXw9 HYw9 ⊢
              have f2 := HNqz.out.fr 2
              have e2 := HNqz.out.c2
              go_upto_region 11 with fail
              clear f2 e2
              have HZw10 := Aside0.mk (HNqz.out.set2 (-1))
              have HGw10 := Aside0.mk (grown_keep HGw9.out (grown_set w9 qz 2 (.int .i64 (-1))) HBqz.out)
              have HXw10 := Aside0.mk (rect_other HXw9.out qz 2 (.int .i64 (-1)) HDXqz.out)
              have HYw10 := Aside0.mk (rect_other HYw9.out qz 2 (.int .i64 (-1)) HDYqz.out)
              clear HGw9 HNqz HQw9 HXw9 HYw9
              generalize w9.setCell ⟨qz, 2, none⟩ (.int .i64 (-1)) = w10 at HZw10 HGw10 HXw10 HYw10 ⊢
              have d0 := HXw10.out.c0; have d1 := HXw10.out.c1; have d2 := HXw10.out.c2; have d3 := HXw10.out.c3; have d4 := HXw10.out.c4; have d5 := HXw10.out.c5; have d6 := HXw10.out.c6
              go_wp2_with (first
                | (go_at_call 13; with_reducible refine (right_c k key id no size (HR.out.grows HGw10.out)).mono ?_; rw [HLX.out]; rintro e y1 ⟨rfl, hg⟩; have HY1 := Aside0.mk (HGw10.out.trans hg); have HYy := Aside0.mk (HYw10.out.grows hg); have HYz := Aside0.mk (HZw10.out.grows hg); clear hg; clear d0 d1 d2 d3 d4 d5 d6; have d0 := HYy.out.c0; have d1 := HYy.out.c1; have d2 := HYy.out.c2; have d3 := HYy.out.c3; have d4 := HYy.out.c4; have d5 := HYy.out.c5; have d6 := HYy.out.c6)
                | (go_at_call 13; with_reducible refine (right_c kind key id no (size + 1) (HR.out.grows HY1.out)).mono ?_; rw [HRY.out]; rintro e y2 ⟨rfl, hg⟩; have HY2 := Aside0.mk (HY1.out.trans hg); have HZz := Aside0.mk (HYz.out.grows hg); clear hg; clear d0 d1 d2 d3 d4 d5 d6; have d0 := HZz.out.c0; have d1 := HZz.out.c1; have d2 := HZz.out.c2; have d3 := HZz.out.c3; have d4 := HZz.out.c4; have d5 := HZz.out.c5; have d6 := HZz.out.c6)
                | (go_at_call 13; with_reducible refine (right_c kind key (-1) no size (HR.out.grows HY2.out)).mono ?_; rw [HRZ.out]; rintro e y3 ⟨rfl, hg⟩; have HY3 := Aside0.mk (HY2.out.trans hg); clear hg))
              go_ret
              exact ⟨rfl, HY3.out⟩
          · have b5 : (k == 3) = false := beq_eq_false_iff_ne.2 c5
            have hlx := bare_no hrt c1 (fun h => c2 h.1) (fun h => c5 h.1)
            clear c1 c2 c5 hrt
            have HLX := Aside0.mk hlx
            clear hlx
            go_upto_region 7 with fail
            clear d0 d1 d2 d3 d4 d5 d6
            have d0 := HQw6.out.c0; have d1 := HQw6.out.c1; have d2 := HQw6.out.c2; have d3 := HQw6.out.c3; have d4 := HQw6.out.c4; have d5 := HQw6.out.c5; have d6 := HQw6.out.c6
            go_upto_region 8 with fail
            have hgx : Grows w6 (w6.alloc (.cells #[.int .i64 kind, .string key, .int .i64 id, .int .i64 no, .int .i64 size, .slice LA l.length lc, .slice BA b.length bc] 25)) := (Below.refl w6.heap.size w6).alloc (Nat.le_refl _) (.cells #[.int .i64 kind, .string key, .int .i64 id, .int .i64 no, .int .i64 size, .slice LA l.length lc, .slice BA b.length bc] 25)
            have HNqy := Aside0.mk (show RecT 25 _ _ kind key id no size (.slice LA l.length lc) (.slice BA b.length bc) from heap_alloc_new w6 (.cells #[.int .i64 kind, .string key, .int .i64 id, .int .i64 no, .int .i64 size, .slice LA l.length lc, .slice BA b.length bc] 25))
            have HGw7 := Aside0.mk (HGw6.out.trans hgx)
            have HQw7 := Aside0.mk (HQw6.out.grows hgx)
            have HXw7 := Aside0.mk (HXw6.out.grows hgx)
            obtain ⟨qy, hqx⟩ : ∃ qy, qy = w6.heap.size := ⟨_, rfl⟩
            rw [← hqx] at HNqy ⊢
            have HBqy := Aside0.mk (show w.heap.size ≤ qy from by rw [hqx]; exact HGw6.out.size)
            have HDQqy := Aside0.mk (show q ≠ qy from by have := HQw6.out.lt; omega)
            have HDXqy := Aside0.mk (show qx ≠ qy from by have := HXw6.out.lt; omega)
            clear hgx hqx HGw6 HQw6 HXw6
            generalize (w6.alloc (.cells #[.int .i64 kind, .string key, .int .i64 id, .int .i64 no, .int .i64 size, .slice LA l.length lc, .slice BA b.length bc] 25)) = w7 at HNqy HGw7 HQw7 HXw7 ⊢
            clear d0 d1 d2 d3 d4 d5 d6
            have d4 := HQw7.out.c4
            have f4 := HNqy.out.fr 4
            have e4 := HNqy.out.c4
            go_upto_region 9 with fail
            clear d4 f4 e4
            have HYw8 := Aside0.mk (HNqy.out.set4 (size + 1))
            have HGw8 := Aside0.mk (grown_keep HGw7.out (grown_set w7 qy 4 (.int .i64 (size + 1))) HBqy.out)
            have HQw8 := Aside0.mk (rect_other HQw7.out qy 4 (.int .i64 (size + 1)) HDQqy.out)
            have HXw8 := Aside0.mk (rect_other HXw7.out qy 4 (.int .i64 (size + 1)) HDXqy.out)
            clear HGw7 HNqy HQw7 HXw7
            generalize w7.setCell ⟨qy, 4, none⟩ (.int .i64 (size + 1)) = w8 at HYw8 HGw8 HQw8 HXw8 ⊢
            have d0 := HQw8.out.c0; have d1 := HQw8.out.c1; have d2 := HQw8.out.c2; have d3 := HQw8.out.c3; have d4 := HQw8.out.c4; have d5 := HQw8.out.c5; have d6 := HQw8.out.c6
            go_upto_region 10 with fail
            clear d0 d1 d2 d3 d4 d5 d6
            have hgx : Grows w8 (w8.alloc (.cells #[.int .i64 kind, .string key, .int .i64 id, .int .i64 no, .int .i64 size, .slice LA l.length lc, .slice BA b.length bc] 25)) := (Below.refl w8.heap.size w8).alloc (Nat.le_refl _) (.cells #[.int .i64 kind, .string key, .int .i64 id, .int .i64 no, .int .i64 size, .slice LA l.length lc, .slice BA b.length bc] 25)
            have HNqz := Aside0.mk (show RecT 25 _ _ kind key id no size (.slice LA l.length lc) (.slice BA b.length bc) from heap_alloc_new w8 (.cells #[.int .i64 kind, .string key, .int .i64 id, .int .i64 no, .int .i64 size, .slice LA l.length lc, .slice BA b.length bc] 25))
            have HGw9 := Aside0.mk (HGw8.out.trans hgx)
            have HQw9 := Aside0.mk (HQw8.out.grows hgx)
            have HXw9 := Aside0.mk (HXw8.out.grows hgx)
            have HYw9 := Aside0.mk (HYw8.out.grows hgx)
            obtain ⟨qz, hqx⟩ : ∃ qz, qz = w8.heap.size := ⟨_, rfl⟩
            rw [← hqx] at HNqz ⊢
            have HBqz := Aside0.mk (show w.heap.size ≤ qz from by rw [hqx]; exact HGw8.out.size)
            have HDQqz := Aside0.mk (show q ≠ qz from by have := HQw8.out.lt; omega)
            have HDXqz := Aside0.mk (show qx ≠ qz from by have := HXw8.out.lt; omega)
            have HDYqz := Aside0.mk (show qy ≠ qz from by have := HYw8.out.lt; omega)
            clear hgx hqx HGw8 HQw8 HXw8 HYw8
            generalize (w8.alloc (.cells #[.int .i64 kind, .string key, .int .i64 id, .int .i64 no, .int .i64 size, .slice LA l.length lc, .slice BA b.length bc] 25)) = w9 at HNqz HGw9 HQw9 HXw9 HYw9 ⊢
            have f2 := HNqz.out.fr 2
            have e2 := HNqz.out.c2
            go_upto_region 11 with fail
            clear f2 e2
            have HZw10 := Aside0.mk (HNqz.out.set2 (-1))
            have HGw10 := Aside0.mk (grown_keep HGw9.out (grown_set w9 qz 2 (.int .i64 (-1))) HBqz.out)
            have HXw10 := Aside0.mk (rect_other HXw9.out qz 2 (.int .i64 (-1)) HDXqz.out)
            have HYw10 := Aside0.mk (rect_other HYw9.out qz 2 (.int .i64 (-1)) HDYqz.out)
            clear HGw9 HNqz HQw9 HXw9 HYw9
            generalize w9.setCell ⟨qz, 2, none⟩ (.int .i64 (-1)) = w10 at HZw10 HGw10 HXw10 HYw10 ⊢
            have d0 := HXw10.out.c0; have d1 := HXw10.out.c1; have d2 := HXw10.out.c2; have d3 := HXw10.out.c3; have d4 := HXw10.out.c4; have d5 := HXw10.out.c5; have d6 := HXw10.out.c6
            go_wp2_with (first
              | (go_at_call 13; with_reducible refine (right_c k key id no size (HR.out.grows HGw10.out)).mono ?_; rw [HLX.out]; rintro e y1 ⟨rfl, hg⟩; have HY1 := Aside0.mk (HGw10.out.trans hg); have HYy := Aside0.mk (HYw10.out.grows hg); have HYz := Aside0.mk (HZw10.out.grows hg); clear hg; clear d0 d1 d2 d3 d4 d5 d6; have d0 := HYy.out.c0; have d1 := HYy.out.c1; have d2 := HYy.out.c2; have d3 := HYy.out.c3; have d4 := HYy.out.c4; have d5 := HYy.out.c5; have d6 := HYy.out.c6)
              | (go_at_call 13; with_reducible refine (right_c kind key id no (size + 1) (HR.out.grows HY1.out)).mono ?_; rw [HRY.out]; rintro e y2 ⟨rfl, hg⟩; have HY2 := Aside0.mk (HY1.out.trans hg); have HZz := Aside0.mk (HYz.out.grows hg); clear hg; clear d0 d1 d2 d3 d4 d5 d6; have d0 := HZz.out.c0; have d1 := HZz.out.c1; have d2 := HZz.out.c2; have d3 := HZz.out.c3; have d4 := HZz.out.c4; have d5 := HZz.out.c5; have d6 := HZz.out.c6)
              | (go_at_call 13; with_reducible refine (right_c kind key (-1) no size (HR.out.grows HY2.out)).mono ?_; rw [HRZ.out]; rintro e y3 ⟨rfl, hg⟩; have HY3 := Aside0.mk (HY2.out.trans hg); clear hg))
            go_ret
            exact ⟨rfl, HY3.out⟩
    · have HRT := Aside0.mk (Bool.eq_false_iff.2 hrt)
      go_wp2_with (first
        | (go_at_call 10; with_reducible refine HGR.out.mono ?_; clear HGR; rintro e w3 ⟨rfl, hg⟩; have HG3 := Aside0.mk (HG2.out.trans hg); have HQ3 := Aside0.mk (HQ2.out.grows hg); clear hg; clear d0 d1 d2 d3 d4 d5 d6; have d0 := HQ3.out.c0; have d1 := HQ3.out.c1; have d2 := HQ3.out.c2; have d3 := HQ3.out.c3; have d4 := HQ3.out.c4; have d5 := HQ3.out.c5; have d6 := HQ3.out.c6)
        | (go_at_call 13; with_reducible refine (right_c kind key id no size (HR.out.grows HG3.out)).mono ?_; rw [HRT.out]; rintro e w4 ⟨rfl, hg⟩; have HG4 := Aside0.mk (HG3.out.trans hg); clear hg))
      go_ret
      exact ⟨rfl, HG4.out⟩
end Go.Proofs.Ytemnhgmgffdncaa.PRecBack
