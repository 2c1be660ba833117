/-
  Layer 4: bytes that are cut, or have one more: the walk.
-/
import Derived.Test.YtemnhgmgffdncaaLaws
import Derived.Test.YtemnhgmgffdncaaLike
namespace Go.Proofs.Ytemnhgmgffdncaa.PRecBack
set_option linter.unusedVariables false
set_option linter.unusedSimpArgs false
open Go.RowKit Go.Proofs.YtemnhgmgffdncaaW.PrintWords Go.Proofs.YtemnhgmgffdncaaW.PrintMore
attribute [local go_sem] max2_int
theorem hq1' {xs ys : List Int} {n : Nat} {r : Option (Int × Rec5)} (e : xs = ys) (h : getRec (xs.take n) = r) : getRec (ys.take n) = r := e ▸ h
theorem hq2' {xs ys zs : List Int} {r : Option (Int × Rec5)} (e : xs = ys) (h : getRec (xs ++ zs) = r) : getRec (ys ++ zs) = r := e ▸ h
theorem sums_more {x y u v : Nat} (h : x + y = u + v + 1) (h1 : v ≤ 64) (h2 : u ≤ 4096) : wrap64 ((x : Int) + (y : Int)) = (x : Int) + y ∧ wrap64 ((u : Int) + (v : Int)) = (u : Int) + v ∧ wrap64 ((u : Int) + (v : Int) + 1) = (u : Int) + v + 1 ∧ ((x : Int) + (y : Int) == (u : Int) + (v : Int) + 1) = true :=
  ⟨small_wrap (by omega) (by omega), small_wrap (by omega) (by omega), small_wrap (by omega) (by omega), beq_iff_eq.2 (by omega)⟩
theorem own_empty {W : World} {g : Nat} (h : W.heap[g]? = some (.cells #[] 5 (0, 0))) : W.ownsRow g 5 1 (.slice (some ⟨g, 0, none⟩) 0 0) ([] : List Int).length (nums .u8 []) :=
  ⟨rfl, .inr ⟨g, 0, _, rfl, Nat.le_refl _, h, Nat.le_refl _, by decide, rfl, rfl⟩⟩
theorem grown_own {W W1 W2 : World} {e sz n : Nat} {v : Value} {xs : List Value} (h : Grows W W1) (hk : W1.grownBy W2 v.ownBlock) (ho : W1.ownsRow W.heap.size e sz v n xs) : Grows W W2 :=
  ⟨hk.os.trans h.os, hk.tape.trans h.tape, hk.output.trans h.output, Nat.le_trans h.size hk.size, fun k hlt => (hk.block k (Nat.lt_of_lt_of_le hlt h.size) (fun e1 => by have := own_base ho k e1.symm; omega)).trans (h.block k hlt)⟩
set_option maxRecDepth 100000 in
set_option maxHeartbeats 4000000 in
theorem cut_calls (kind : Int) (key : ByteArray) (id no size : Int) (LA : Option Addr) (lc : Nat) (l : List S39) (BA : Option Addr) (bc : Nat) (b : List Int) (at_ more : Int) (w : World) (hr : RIn w LA lc l BA bc b) (hl : l.length < 4611686018427387904) (hu : u8s b) (ha : 0 ≤ at_ ∧ at_ < 65536) (hm : 0 ≤ more ∧ more < 256) :
    Calls Try.prog 5 #[.agg #[.int .i64 kind, .string key, .int .i64 id, .int .i64 no, .int .i64 size, .slice LA l.length lc, .slice BA b.length bc], .int .u16 at_, .int .u8 more] w fun e w' => e = .returned (.bool true) ∧ Below w.heap.size w w' := by
  have HU := Aside0.mk hu
  have HLB := Aside0.mk hl
  have HAT := Aside0.mk ha
  have HMO := Aside0.mk hm
  clear hu hl ha hm
  have HR := Aside0.mk hr
  clear hr
  go_enter Try.func5, Try.ntmps5
  go_upto_region 1 with fail
  have HG1 := Aside0.mk (show Grows w _ from (Below.refl w.heap.size w).alloc (Nat.le_refl _) (.cells #[.int .i64 kind, .string key, .int .i64 id, .int .i64 no, .int .i64 size, .slice LA l.length lc, .slice BA b.length bc] 25))
  have HQ1 := Aside0.mk (show RecT 25 _ _ kind key id no size (.slice LA l.length lc) (.slice BA b.length bc) from heap_alloc_new w (.cells #[.int .i64 kind, .string key, .int .i64 id, .int .i64 no, .int .i64 size, .slice LA l.length lc, .slice BA b.length bc] 25))
  generalize w.alloc (.cells #[.int .i64 kind, .string key, .int .i64 id, .int .i64 no, .int .i64 size, .slice LA l.length lc, .slice BA b.length bc] 25) = w1 at HG1 HQ1 ⊢
  generalize w.heap.size = q at HQ1 ⊢
  go_upto_region 2 with (go_at_call 9; refine (head_calls w1).mono ?_; rintro e w2 ⟨rfl, hg⟩; have HG2 := Aside0.mk (HG1.out.trans hg); have HQ2 := Aside0.mk (HQ1.out.grows hg); clear hg)
  clear HG1 HQ1
  have d0 := HQ2.out.c0; have d1 := HQ2.out.c1; have d2 := HQ2.out.c2; have d3 := HQ2.out.c3; have d4 := HQ2.out.c4; have d5 := HQ2.out.c5; have d6 := HQ2.out.c6
  obtain ⟨g, hg⟩ := great_f kind key id no size l b
  obtain ⟨p, hp⟩ : ∃ p, p = putRec kind key id no size (toL l) b := ⟨_, rfl⟩
  have HP := put_c kind key id no size (HR.out.grows HG2.out)
  rw [← hp] at HP
  replace HP := Aside0.mk HP
  have HPE := Aside0.mk hp
  clear hp
  go_upto_region 3 with (go_at_call 15; with_reducible refine HP.out.mono ?_; clear HP; rintro e w3 ⟨A, c, rfl, hle, ho, hg⟩; have HG3 := Aside0.mk (HG2.out.trans hg); have HQ3 := Aside0.mk (HQ2.out.grows hg); have HO3 := Aside0.mk ho; have HC3 := Aside0.mk hle; clear hg ho hle)
  clear d0 d1 d2 d3 d4 d5 d6
  have d0 := HQ3.out.c0; have d1 := HQ3.out.c1; have d2 := HQ3.out.c2; have d3 := HQ3.out.c3; have d4 := HQ3.out.c4; have d5 := HQ3.out.c5; have d6 := HQ3.out.c6
  have HGR : Aside0 (Calls Try.prog 10 #[.agg #[.int .i64 kind, .string key, .int .i64 id, .int .i64 no, .int .i64 size, .slice LA l.length lc, .slice BA b.length bc]] w3 fun e w' => e = .returned (.bool g) ∧ Grows w3 w') := ⟨great_c kind key id no size (HR.out.grows HG3.out) hg⟩
  clear hg HG2 HQ2
  cases g with
  | true =>
    go_wp2_with (go_at_call 10; refine HGR.out.mono ?_; clear HGR; rintro e w4 ⟨rfl, hg⟩; have HG4 := Aside0.mk (HG3.out.trans hg); clear hg)
    go_ret
    exact ⟨rfl, HG4.out⟩
  | false =>
    by_cases hrt : rightB kind key id no size (toL l) b.length = true
    · have hpe : p = putF kind key id no size (toL l) b := by rw [HPE.out]; unfold putRec; rw [if_pos hrt]
      have hpb := put_body hrt
      rw [← hpe] at hpb
      have HPU : Aside0 (u8s p) := ⟨by rw [hpe]; exact put_u8s HU.out hrt⟩
      have HPF := Aside0.mk hpe
      have HRT := Aside0.mk hrt
      have HPB := Aside0.mk hpb
      have p0 : ((p.length : Int) == 0) = false := beq_eq_false_iff_ne.2 (by have := hpb.1; omega)
      clear hpe hpb hrt HPE
      go_upto_region 5 with (go_at_call 10; refine HGR.out.mono ?_; clear HGR; rintro e w4 ⟨rfl, hg⟩; have HG4 := Aside0.mk (HG3.out.trans hg); have HQ4 := Aside0.mk (HQ3.out.grows hg); have HO4 := Aside0.mk (own_grows HO3.out hg); clear hg)
      clear d0 d1 d2 d3 d4 d5 d6
      clear HG3 HQ3 HO3
      have pz : ¬ (p.length : Int) = 0 := by have := HPB.out.1; omega
      have pz2 : ¬ p.length = 0 := by have := HPB.out.1; omega
      have hat : wrap64 at_ = at_ := small_wrap HAT.out.1 (by have := HAT.out.2; omega)
      obtain ⟨n, hn, hnl⟩ : ∃ n : Nat, at_.tmod (p.length : Int) = (n : Int) ∧ n < p.length := by
        refine ⟨(at_.tmod (p.length : Int)).toNat, ?_, ?_⟩
        · exact (Int.toNat_of_nonneg (Int.tmod_nonneg _ HAT.out.1)).symm
        · have h1 := Int.tmod_lt_of_pos at_ (show (0 : Int) < p.length by have := HPB.out.1; omega)
          have h2 := Int.tmod_nonneg (p.length : Int) HAT.out.1
          omega
      have n1 : (n : Int) ≤ (c : Int) := by have := HC3.out; omega
      have n2 : (0 : Int) ≤ (n : Int) := by omega
      have n3 : n ≤ c := by have := HC3.out; omega
      have HTN := Aside0.mk (show (p.take n).length = n by rw [List.length_take]; omega)
      go_upto_region 6 with fail
      clear pz pz2 hat hn
      generalize at_.tmod (p.length : Int) = tm
      by_cases hk2 : kind = 2
      · have hq1 : getRec (p.take n) = none := by rw [HPF.out]; have hrt := HRT.out; rw [HPF.out] at hnl; subst hk2; exact cut_root HU.out hrt n hnl
        have hq2 : getRec (p ++ [more]) = none := by rw [HPF.out]; have hrt := HRT.out; subst hk2; exact more_root hrt more
        have b2 : (kind == 2) = true := beq_iff_eq.2 hk2
        clear hk2
        have HGET : Aside0 (Calls Try.prog 11 #[.slice A n c] w4 fun e w' => e = .returned (.tuple #[.agg #[.int .i64 0, .string (⟨#[]⟩ : ByteArray), .int .i64 0, .int .i64 0, .int .i64 0, .slice none 0 0, .slice none 0 0], .bool false]) ∧ Grows w4 w') := ⟨by
          have h := get_none A c (p.take n) (W := w4) (by rw [HTN.out]; exact reads_take (own_reads' HO4.out) n (Nat.le_of_lt hnl)) (by rw [HTN.out]; omega) (u8s_take HPU.out n) (by rw [HTN.out]; have := HPB.out.2.1; omega) hq1
          rw [HTN.out] at h
          exact h⟩
        clear hq1
        go_upto_region 7 with (go_at_call 11; refine HGET.out.mono ?_; clear HGET; rintro e w5 ⟨rfl, hg⟩; have HG5 := Aside0.mk (HG4.out.trans hg); have HQ5 := Aside0.mk (HQ4.out.grows hg); have HO5 := Aside0.mk (own_grows HO4.out hg); clear hg)
        clear HG4 HQ4 HO4
        have hgx : Grows w5 (w5.alloc (.cells #[.int .i64 0, .string (⟨#[]⟩ : ByteArray), .int .i64 0, .int .i64 0, .int .i64 0, .slice none 0 0, .slice none 0 0] 25)) := (Below.refl w5.heap.size w5).alloc (Nat.le_refl _) (.cells #[.int .i64 0, .string (⟨#[]⟩ : ByteArray), .int .i64 0, .int .i64 0, .int .i64 0, .slice none 0 0, .slice none 0 0] 25)
        have HNqx := Aside0.mk (show RecT 25 _ _ 0 noKey 0 0 0 (.slice none 0 0) (.slice none 0 0) from heap_alloc_new w5 (.cells #[.int .i64 0, .string (⟨#[]⟩ : ByteArray), .int .i64 0, .int .i64 0, .int .i64 0, .slice none 0 0, .slice none 0 0] 25))
        have HG6 := Aside0.mk (HG5.out.trans hgx)
        have HQ6 := Aside0.mk (HQ5.out.grows hgx)
        have HO6 := Aside0.mk (own_grows HO5.out hgx)
        clear HO5
        clear hgx HG5 HQ5
        generalize (w5.alloc (.cells #[.int .i64 0, .string (⟨#[]⟩ : ByteArray), .int .i64 0, .int .i64 0, .int .i64 0, .slice none 0 0, .slice none 0 0] 25)) = w6 at HNqx HO6 HG6 HQ6 ⊢
        generalize w5.heap.size = qx at HNqx ⊢
        have he0 : Grows w6 (w6.alloc (.cells #[] 5)) := (Below.refl w6.heap.size w6).alloc (Nat.le_refl _) (.cells #[] 5)
        obtain ⟨v1, w7, hr1, ho1, hg1, _⟩ := bytes_run (t := 23) (u := 23) (ty := 23) Try.underlying23 Try.underlying23 w6.heap.size (.slice (some ⟨w6.heap.size, 0, none⟩) 0 0) [] p A p.length c (own_empty (heap_alloc_new w6 (.cells #[] 5))) (own_reads' (own_grows HO6.out he0)) he0.size (by have := HPB.out.2.1; simp; omega)
        have HE7 := Aside0.mk (grown_own he0 hg1 (own_empty (heap_alloc_new w6 (.cells #[] 5))))
        rw [List.nil_append] at ho1
        have he2 : Grows w7 (w7.alloc (.cells #[.int .u8 more] 5)) := (Below.refl w7.heap.size w7).alloc (Nat.le_refl _) (.cells #[.int .u8 more] 5)
        obtain ⟨v2, w8, hr2, ho2, hg2, _⟩ := bytes_run (t := 23) (u := 23) (ty := 23) Try.underlying23 Try.underlying23 w6.heap.size v1 p [more] (some ⟨w7.heap.size, 0, none⟩) 1 1 (own_grows ho1 he2) (lit_reads (xs := [more]) (by simp) (heap_alloc_new w7 (.cells #[.int .u8 more] 5))) (Nat.le_trans HE7.out.size he2.size) (by have := HPB.out.2.1; simp; omega)
        have HE8 := Aside0.mk (grown_own (HE7.out.trans he2) hg2 (own_grows ho1 he2))
        obtain ⟨A2, c2, rfl, hle2⟩ := own_slice ho2
        have hlm : (p ++ [more]).length = p.length + 1 := by rw [List.length_append, List.length_singleton]
        have HPM : Aside0 (u8s (p ++ [more])) := ⟨u8s_append HPU.out (fun x hx => by rw [List.mem_singleton.1 hx]; exact HMO.out)⟩
        have HGET : Aside0 (Calls Try.prog 11 #[.slice A2 (p.length + 1) c2] w8 fun e w' => e = .returned (.tuple #[.agg #[.int .i64 0, .string (⟨#[]⟩ : ByteArray), .int .i64 0, .int .i64 0, .int .i64 0, .slice none 0 0, .slice none 0 0], .bool false]) ∧ Grows w8 w') := ⟨hlm ▸ get_none A2 c2 (p ++ [more]) (own_reads' ho2) hle2 HPM.out (by rw [List.length_append, List.length_singleton]; have := HPB.out.2.1; omega) hq2⟩
        rw [hlm] at hr2
        clear hq2 ho1 ho2 hg1 hg2 he0 he2 hle2 hlm
        go_upto_region 8 with (first
          | (at_builtin; refine wpList_appendE (.tmp 38) (.tmp 39) 23 rfl rfl rfl rfl ⟨_, _, hr1, ?_⟩; clear hr1)
          | (at_builtin; refine wpList_appendE (.tmp 40) (.tmp 42) 23 rfl rfl rfl rfl ⟨_, _, hr2, ?_⟩; clear hr2)
          | (go_at_call 11; refine HGET.out.mono ?_; clear HGET; rintro e w9 ⟨rfl, hg⟩; have HG9 := Aside0.mk (HG6.out.trans (HE8.out.trans hg)); have HQ9 := Aside0.mk (HQ6.out.grows (HE8.out.trans hg)); have HNx9 := Aside0.mk (HNqx.out.grows (HE8.out.trans hg)); clear hg))
        clear HG6 HQ6 HNqx HE8 HE7 HO6
        have hgx : Grows w9 (w9.alloc (.cells #[.int .i64 0, .string (⟨#[]⟩ : ByteArray), .int .i64 0, .int .i64 0, .int .i64 0, .slice none 0 0, .slice none 0 0] 25)) := (Below.refl w9.heap.size w9).alloc (Nat.le_refl _) (.cells #[.int .i64 0, .string (⟨#[]⟩ : ByteArray), .int .i64 0, .int .i64 0, .int .i64 0, .slice none 0 0, .slice none 0 0] 25)
        have HNqy := Aside0.mk (show RecT 25 _ _ 0 noKey 0 0 0 (.slice none 0 0) (.slice none 0 0) from heap_alloc_new w9 (.cells #[.int .i64 0, .string (⟨#[]⟩ : ByteArray), .int .i64 0, .int .i64 0, .int .i64 0, .slice none 0 0, .slice none 0 0] 25))
        have HG10 := Aside0.mk (HG9.out.trans hgx)
        have HQ10 := Aside0.mk (HQ9.out.grows hgx)
        have HNx10 := Aside0.mk (HNx9.out.grows hgx)
        clear hgx HG9 HQ9 HNx9
        generalize (w9.alloc (.cells #[.int .i64 0, .string (⟨#[]⟩ : ByteArray), .int .i64 0, .int .i64 0, .int .i64 0, .slice none 0 0, .slice none 0 0] 25)) = w10 at HNqy HG10 HQ10 HNx10 ⊢
        generalize w9.heap.size = qy at HNqy ⊢
        have d0 := HQ10.out.c0
        go_wp2
        go_ret
        exact ⟨rfl, HG10.out⟩
      · have b2 : (kind == 2) = false := beq_eq_false_iff_ne.2 hk2
        have HK2 := Aside0.mk hk2
        cases hq1 : getRec (p.take n) with
        | none =>
          cases hq2 : getRec (p ++ [more]) with
          | none =>
            clear hk2
            have HGET : Aside0 (Calls Try.prog 11 #[.slice A n c] w4 fun e w' => e = .returned (.tuple #[.agg #[.int .i64 0, .string (⟨#[]⟩ : ByteArray), .int .i64 0, .int .i64 0, .int .i64 0, .slice none 0 0, .slice none 0 0], .bool false]) ∧ Grows w4 w') := ⟨by
              have h := get_none A c (p.take n) (W := w4) (by rw [HTN.out]; exact reads_take (own_reads' HO4.out) n (Nat.le_of_lt hnl)) (by rw [HTN.out]; omega) (u8s_take HPU.out n) (by rw [HTN.out]; have := HPB.out.2.1; omega) hq1
              rw [HTN.out] at h
              exact h⟩
            clear hq1
            go_upto_region 7 with (go_at_call 11; refine HGET.out.mono ?_; clear HGET; rintro e w5 ⟨rfl, hg⟩; have HG5 := Aside0.mk (HG4.out.trans hg); have HQ5 := Aside0.mk (HQ4.out.grows hg); have HO5 := Aside0.mk (own_grows HO4.out hg); clear hg)
            clear HG4 HQ4 HO4
            have hgx : Grows w5 (w5.alloc (.cells #[.int .i64 0, .string (⟨#[]⟩ : ByteArray), .int .i64 0, .int .i64 0, .int .i64 0, .slice none 0 0, .slice none 0 0] 25)) := (Below.refl w5.heap.size w5).alloc (Nat.le_refl _) (.cells #[.int .i64 0, .string (⟨#[]⟩ : ByteArray), .int .i64 0, .int .i64 0, .int .i64 0, .slice none 0 0, .slice none 0 0] 25)
            have HNqx := Aside0.mk (show RecT 25 _ _ 0 noKey 0 0 0 (.slice none 0 0) (.slice none 0 0) from heap_alloc_new w5 (.cells #[.int .i64 0, .string (⟨#[]⟩ : ByteArray), .int .i64 0, .int .i64 0, .int .i64 0, .slice none 0 0, .slice none 0 0] 25))
            have HG6 := Aside0.mk (HG5.out.trans hgx)
            have HQ6 := Aside0.mk (HQ5.out.grows hgx)
            have HO6 := Aside0.mk (own_grows HO5.out hgx)
            clear HO5
            clear hgx HG5 HQ5
            generalize (w5.alloc (.cells #[.int .i64 0, .string (⟨#[]⟩ : ByteArray), .int .i64 0, .int .i64 0, .int .i64 0, .slice none 0 0, .slice none 0 0] 25)) = w6 at HNqx HO6 HG6 HQ6 ⊢
            generalize w5.heap.size = qx at HNqx ⊢
            have he0 : Grows w6 (w6.alloc (.cells #[] 5)) := (Below.refl w6.heap.size w6).alloc (Nat.le_refl _) (.cells #[] 5)
            obtain ⟨v1, w7, hr1, ho1, hg1, _⟩ := bytes_run (t := 23) (u := 23) (ty := 23) Try.underlying23 Try.underlying23 w6.heap.size (.slice (some ⟨w6.heap.size, 0, none⟩) 0 0) [] p A p.length c (own_empty (heap_alloc_new w6 (.cells #[] 5))) (own_reads' (own_grows HO6.out he0)) he0.size (by have := HPB.out.2.1; simp; omega)
            have HE7 := Aside0.mk (grown_own he0 hg1 (own_empty (heap_alloc_new w6 (.cells #[] 5))))
            rw [List.nil_append] at ho1
            have he2 : Grows w7 (w7.alloc (.cells #[.int .u8 more] 5)) := (Below.refl w7.heap.size w7).alloc (Nat.le_refl _) (.cells #[.int .u8 more] 5)
            obtain ⟨v2, w8, hr2, ho2, hg2, _⟩ := bytes_run (t := 23) (u := 23) (ty := 23) Try.underlying23 Try.underlying23 w6.heap.size v1 p [more] (some ⟨w7.heap.size, 0, none⟩) 1 1 (own_grows ho1 he2) (lit_reads (xs := [more]) (by simp) (heap_alloc_new w7 (.cells #[.int .u8 more] 5))) (Nat.le_trans HE7.out.size he2.size) (by have := HPB.out.2.1; simp; omega)
            have HE8 := Aside0.mk (grown_own (HE7.out.trans he2) hg2 (own_grows ho1 he2))
            obtain ⟨A2, c2, rfl, hle2⟩ := own_slice ho2
            have hlm : (p ++ [more]).length = p.length + 1 := by rw [List.length_append, List.length_singleton]
            have HPM : Aside0 (u8s (p ++ [more])) := ⟨u8s_append HPU.out (fun x hx => by rw [List.mem_singleton.1 hx]; exact HMO.out)⟩
            have HGET : Aside0 (Calls Try.prog 11 #[.slice A2 (p.length + 1) c2] w8 fun e w' => e = .returned (.tuple #[.agg #[.int .i64 0, .string (⟨#[]⟩ : ByteArray), .int .i64 0, .int .i64 0, .int .i64 0, .slice none 0 0, .slice none 0 0], .bool false]) ∧ Grows w8 w') := ⟨hlm ▸ get_none A2 c2 (p ++ [more]) (own_reads' ho2) hle2 HPM.out (by rw [List.length_append, List.length_singleton]; have := HPB.out.2.1; omega) hq2⟩
            rw [hlm] at hr2
            clear hq2 ho1 ho2 hg1 hg2 he0 he2 hle2 hlm
            go_upto_region 8 with (first
              | (at_builtin; refine wpList_appendE (.tmp 38) (.tmp 39) 23 rfl rfl rfl rfl ⟨_, _, hr1, ?_⟩; clear hr1)
              | (at_builtin; refine wpList_appendE (.tmp 40) (.tmp 42) 23 rfl rfl rfl rfl ⟨_, _, hr2, ?_⟩; clear hr2)
              | (go_at_call 11; refine HGET.out.mono ?_; clear HGET; rintro e w9 ⟨rfl, hg⟩; have HG9 := Aside0.mk (HG6.out.trans (HE8.out.trans hg)); have HQ9 := Aside0.mk (HQ6.out.grows (HE8.out.trans hg)); have HNx9 := Aside0.mk (HNqx.out.grows (HE8.out.trans hg)); clear hg))
            clear HG6 HQ6 HNqx HE8 HE7 HO6
            have hgx : Grows w9 (w9.alloc (.cells #[.int .i64 0, .string (⟨#[]⟩ : ByteArray), .int .i64 0, .int .i64 0, .int .i64 0, .slice none 0 0, .slice none 0 0] 25)) := (Below.refl w9.heap.size w9).alloc (Nat.le_refl _) (.cells #[.int .i64 0, .string (⟨#[]⟩ : ByteArray), .int .i64 0, .int .i64 0, .int .i64 0, .slice none 0 0, .slice none 0 0] 25)
            have HNqy := Aside0.mk (show RecT 25 _ _ 0 noKey 0 0 0 (.slice none 0 0) (.slice none 0 0) from heap_alloc_new w9 (.cells #[.int .i64 0, .string (⟨#[]⟩ : ByteArray), .int .i64 0, .int .i64 0, .int .i64 0, .slice none 0 0, .slice none 0 0] 25))
            have HG10 := Aside0.mk (HG9.out.trans hgx)
            have HQ10 := Aside0.mk (HQ9.out.grows hgx)
            have HNx10 := Aside0.mk (HNx9.out.grows hgx)
            clear hgx HG9 HQ9 HNx9
            generalize (w9.alloc (.cells #[.int .i64 0, .string (⟨#[]⟩ : ByteArray), .int .i64 0, .int .i64 0, .int .i64 0, .slice none 0 0, .slice none 0 0] 25)) = w10 at HNqy HG10 HQ10 HNx10 ⊢
            generalize w9.heap.size = qy at HNqy ⊢
            have d0 := HQ10.out.c0
            go_upto_region 10 with fail
            go_quiet (fail)
            have hgq : Grows w10 (w10.drewN nq) := pw_below_drewN (Below.refl _ _) nq
            have HGq := Aside0.mk (HG10.out.trans hgq)
            have HQq := Aside0.mk (HQ10.out.grows hgq)
            have HYq := Aside0.mk (HNqy.out.grows hgq)
            clear hgq HG10 HQ10 HNqy HNx10 d0
            generalize w10.drewN nq = wq at HGq HQq HYq ⊢
            go_wp2
            go_ret
            exact ⟨rfl, HGq.out⟩
          | some y3 =>
            obtain ⟨k3, key3, id3, no3, size3, ls3, b3⟩ := y3
            have hms := more_some HU.out HRT.out hk2 more HMO.out (hq2' HPF.out hq2)
            clear hk2
            obtain ⟨hke, HML⟩ := hms
            replace hke := hke.symm
            subst hke
            replace HML := Aside0.mk HML
            have HGET : Aside0 (Calls Try.prog 11 #[.slice A n c] w4 fun e w' => e = .returned (.tuple #[.agg #[.int .i64 0, .string (⟨#[]⟩ : ByteArray), .int .i64 0, .int .i64 0, .int .i64 0, .slice none 0 0, .slice none 0 0], .bool false]) ∧ Grows w4 w') := ⟨by
              have h := get_none A c (p.take n) (W := w4) (by rw [HTN.out]; exact reads_take (own_reads' HO4.out) n (Nat.le_of_lt hnl)) (by rw [HTN.out]; omega) (u8s_take HPU.out n) (by rw [HTN.out]; have := HPB.out.2.1; omega) hq1
              rw [HTN.out] at h
              exact h⟩
            clear hq1
            go_upto_region 7 with (go_at_call 11; refine HGET.out.mono ?_; clear HGET; rintro e w5 ⟨rfl, hg⟩; have HG5 := Aside0.mk (HG4.out.trans hg); have HQ5 := Aside0.mk (HQ4.out.grows hg); have HO5 := Aside0.mk (own_grows HO4.out hg); clear hg)
            clear HG4 HQ4 HO4
            have hgx : Grows w5 (w5.alloc (.cells #[.int .i64 0, .string (⟨#[]⟩ : ByteArray), .int .i64 0, .int .i64 0, .int .i64 0, .slice none 0 0, .slice none 0 0] 25)) := (Below.refl w5.heap.size w5).alloc (Nat.le_refl _) (.cells #[.int .i64 0, .string (⟨#[]⟩ : ByteArray), .int .i64 0, .int .i64 0, .int .i64 0, .slice none 0 0, .slice none 0 0] 25)
            have HNqx := Aside0.mk (show RecT 25 _ _ 0 noKey 0 0 0 (.slice none 0 0) (.slice none 0 0) from heap_alloc_new w5 (.cells #[.int .i64 0, .string (⟨#[]⟩ : ByteArray), .int .i64 0, .int .i64 0, .int .i64 0, .slice none 0 0, .slice none 0 0] 25))
            have HG6 := Aside0.mk (HG5.out.trans hgx)
            have HQ6 := Aside0.mk (HQ5.out.grows hgx)
            have HO6 := Aside0.mk (own_grows HO5.out hgx)
            clear HO5
            clear hgx HG5 HQ5
            generalize (w5.alloc (.cells #[.int .i64 0, .string (⟨#[]⟩ : ByteArray), .int .i64 0, .int .i64 0, .int .i64 0, .slice none 0 0, .slice none 0 0] 25)) = w6 at HNqx HO6 HG6 HQ6 ⊢
            generalize w5.heap.size = qx at HNqx ⊢
            have he0 : Grows w6 (w6.alloc (.cells #[] 5)) := (Below.refl w6.heap.size w6).alloc (Nat.le_refl _) (.cells #[] 5)
            obtain ⟨v1, w7, hr1, ho1, hg1, _⟩ := bytes_run (t := 23) (u := 23) (ty := 23) Try.underlying23 Try.underlying23 w6.heap.size (.slice (some ⟨w6.heap.size, 0, none⟩) 0 0) [] p A p.length c (own_empty (heap_alloc_new w6 (.cells #[] 5))) (own_reads' (own_grows HO6.out he0)) he0.size (by have := HPB.out.2.1; simp; omega)
            have HE7 := Aside0.mk (grown_own he0 hg1 (own_empty (heap_alloc_new w6 (.cells #[] 5))))
            rw [List.nil_append] at ho1
            have he2 : Grows w7 (w7.alloc (.cells #[.int .u8 more] 5)) := (Below.refl w7.heap.size w7).alloc (Nat.le_refl _) (.cells #[.int .u8 more] 5)
            obtain ⟨v2, w8, hr2, ho2, hg2, _⟩ := bytes_run (t := 23) (u := 23) (ty := 23) Try.underlying23 Try.underlying23 w6.heap.size v1 p [more] (some ⟨w7.heap.size, 0, none⟩) 1 1 (own_grows ho1 he2) (lit_reads (xs := [more]) (by simp) (heap_alloc_new w7 (.cells #[.int .u8 more] 5))) (Nat.le_trans HE7.out.size he2.size) (by have := HPB.out.2.1; simp; omega)
            have HE8 := Aside0.mk (grown_own (HE7.out.trans he2) hg2 (own_grows ho1 he2))
            obtain ⟨A2, c2, rfl, hle2⟩ := own_slice ho2
            have hlm : (p ++ [more]).length = p.length + 1 := by rw [List.length_append, List.length_singleton]
            have HPM : Aside0 (u8s (p ++ [more])) := ⟨u8s_append HPU.out (fun x hx => by rw [List.mem_singleton.1 hx]; exact HMO.out)⟩
            have HGET : Aside0 (Calls Try.prog 11 #[.slice A2 (p.length + 1) c2] w8 fun e w' => ∃ LA3 lc3 BA3 bc3, e = .returned (.tuple #[.agg #[.int .i64 kind, .string key3, .int .i64 id3, .int .i64 no3, .int .i64 size3, .slice LA3 (ofL ls3).length lc3, .slice BA3 b3.length bc3], .bool true]) ∧ RIn w' LA3 lc3 (ofL ls3) BA3 bc3 b3 ∧ Grows w8 w') := ⟨hlm ▸ get_some A2 c2 (p ++ [more]) (own_reads' ho2) hle2 HPM.out (by rw [List.length_append, List.length_singleton]; have := HPB.out.2.1; omega) hq2⟩
            rw [hlm] at hr2
            clear hq2 ho1 ho2 hg1 hg2 he0 he2 hle2 hlm
            go_upto_region 8 with (first
              | (at_builtin; refine wpList_appendE (.tmp 38) (.tmp 39) 23 rfl rfl rfl rfl ⟨_, _, hr1, ?_⟩; clear hr1)
              | (at_builtin; refine wpList_appendE (.tmp 40) (.tmp 42) 23 rfl rfl rfl rfl ⟨_, _, hr2, ?_⟩; clear hr2)
              | (go_at_call 11; refine HGET.out.mono ?_; clear HGET; rintro e w9 ⟨LA3, lc3, BA3, bc3, rfl, hri, hg⟩; have HG9 := Aside0.mk (HG6.out.trans (HE8.out.trans hg)); have HQ9 := Aside0.mk (HQ6.out.grows (HE8.out.trans hg)); have HNx9 := Aside0.mk (HNqx.out.grows (HE8.out.trans hg)); have HY9 := Aside0.mk hri; clear hg hri))
            clear HG6 HQ6 HNqx HE8 HE7 HO6
            have hgx : Grows w9 (w9.alloc (.cells #[.int .i64 kind, .string key3, .int .i64 id3, .int .i64 no3, .int .i64 size3, .slice LA3 (ofL ls3).length lc3, .slice BA3 b3.length bc3] 25)) := (Below.refl w9.heap.size w9).alloc (Nat.le_refl _) (.cells #[.int .i64 kind, .string key3, .int .i64 id3, .int .i64 no3, .int .i64 size3, .slice LA3 (ofL ls3).length lc3, .slice BA3 b3.length bc3] 25)
            have HNqy := Aside0.mk (show RecT 25 _ _ kind key3 id3 no3 size3 (.slice LA3 (ofL ls3).length lc3) (.slice BA3 b3.length bc3) from heap_alloc_new w9 (.cells #[.int .i64 kind, .string key3, .int .i64 id3, .int .i64 no3, .int .i64 size3, .slice LA3 (ofL ls3).length lc3, .slice BA3 b3.length bc3] 25))
            have HG10 := Aside0.mk (HG9.out.trans hgx)
            have HQ10 := Aside0.mk (HQ9.out.grows hgx)
            have HNx10 := Aside0.mk (HNx9.out.grows hgx)
            have HY10 := Aside0.mk (HY9.out.grows hgx)
            clear hgx HG9 HQ9 HNx9 HY9
            generalize (w9.alloc (.cells #[.int .i64 kind, .string key3, .int .i64 id3, .int .i64 no3, .int .i64 size3, .slice LA3 (ofL ls3).length lc3, .slice BA3 b3.length bc3] 25)) = w10 at HNqy HG10 HQ10 HNx10 HY10 ⊢
            generalize w9.heap.size = qy at HNqy ⊢
            have d0 := HQ10.out.c0
            go_upto_region 10 with fail
            go_quiet (fail)
            have hgq : Grows w10 (w10.drewN nq) := pw_below_drewN (Below.refl _ _) nq
            have HGq := Aside0.mk (HG10.out.trans hgq)
            have HQq := Aside0.mk (HQ10.out.grows hgq)
            have HYq := Aside0.mk (HNqy.out.grows hgq)
            clear hgq HG10 HQ10 HNqy HNx10 HY10 d0
            generalize w10.drewN nq = wq at HGq HQq HYq ⊢
            have d0 := HQq.out.c0; have d1 := HQq.out.c1; have d6 := HQq.out.c6
            have e0 := HYq.out.c0; have e1 := HYq.out.c1; have e6 := HYq.out.c6
            obtain ⟨m1, m2, m3, m4⟩ := sums_more (x := b3.length) (y := key3.size) (u := b.length) (v := key.size) HML.out.1 HPB.out.2.2.1 HPB.out.2.2.2.1
            go_wp2
            go_ret
            exact ⟨rfl, HGq.out⟩
        | some y2 =>
          obtain ⟨k2, key2, id2, no2, size2, ls2, b2'⟩ := y2
          have hcs := cut_some HU.out HRT.out hk2 n (hq1' HPF.out hq1)
          obtain ⟨hke, HCS⟩ := hcs
          replace hke := hke.symm
          subst hke
          replace HCS := Aside0.mk HCS
          cases hq2 : getRec (p ++ [more]) with
          | none =>
            clear hk2
            have HGET : Aside0 (Calls Try.prog 11 #[.slice A n c] w4 fun e w' => ∃ LA2 lc2 BA2 bc2, e = .returned (.tuple #[.agg #[.int .i64 kind, .string key2, .int .i64 id2, .int .i64 no2, .int .i64 size2, .slice LA2 (ofL ls2).length lc2, .slice BA2 b2'.length bc2], .bool true]) ∧ RIn w' LA2 lc2 (ofL ls2) BA2 bc2 b2' ∧ Grows w4 w') := ⟨by
              have h := get_some A c (p.take n) (W := w4) (by rw [HTN.out]; exact reads_take (own_reads' HO4.out) n (Nat.le_of_lt hnl)) (by rw [HTN.out]; omega) (u8s_take HPU.out n) (by rw [HTN.out]; have := HPB.out.2.1; omega) hq1
              rw [HTN.out] at h
              exact h⟩
            clear hq1
            go_upto_region 7 with (go_at_call 11; refine HGET.out.mono ?_; clear HGET; rintro e w5 ⟨LA2, lc2, BA2, bc2, rfl, hri, hg⟩; have HG5 := Aside0.mk (HG4.out.trans hg); have HQ5 := Aside0.mk (HQ4.out.grows hg); have HO5 := Aside0.mk (own_grows HO4.out hg); have HX5 := Aside0.mk hri; clear hg hri)
            clear HG4 HQ4 HO4
            have hgx : Grows w5 (w5.alloc (.cells #[.int .i64 kind, .string key2, .int .i64 id2, .int .i64 no2, .int .i64 size2, .slice LA2 (ofL ls2).length lc2, .slice BA2 b2'.length bc2] 25)) := (Below.refl w5.heap.size w5).alloc (Nat.le_refl _) (.cells #[.int .i64 kind, .string key2, .int .i64 id2, .int .i64 no2, .int .i64 size2, .slice LA2 (ofL ls2).length lc2, .slice BA2 b2'.length bc2] 25)
            have HNqx := Aside0.mk (show RecT 25 _ _ kind key2 id2 no2 size2 (.slice LA2 (ofL ls2).length lc2) (.slice BA2 b2'.length bc2) from heap_alloc_new w5 (.cells #[.int .i64 kind, .string key2, .int .i64 id2, .int .i64 no2, .int .i64 size2, .slice LA2 (ofL ls2).length lc2, .slice BA2 b2'.length bc2] 25))
            have HG6 := Aside0.mk (HG5.out.trans hgx)
            have HQ6 := Aside0.mk (HQ5.out.grows hgx)
            have HX6 := Aside0.mk (HX5.out.grows hgx)
            have HO6 := Aside0.mk (own_grows HO5.out hgx)
            clear HO5
            clear hgx HG5 HQ5 HX5
            generalize (w5.alloc (.cells #[.int .i64 kind, .string key2, .int .i64 id2, .int .i64 no2, .int .i64 size2, .slice LA2 (ofL ls2).length lc2, .slice BA2 b2'.length bc2] 25)) = w6 at HNqx HO6 HG6 HQ6 HX6 ⊢
            generalize w5.heap.size = qx at HNqx ⊢
            have he0 : Grows w6 (w6.alloc (.cells #[] 5)) := (Below.refl w6.heap.size w6).alloc (Nat.le_refl _) (.cells #[] 5)
            obtain ⟨v1, w7, hr1, ho1, hg1, _⟩ := bytes_run (t := 23) (u := 23) (ty := 23) Try.underlying23 Try.underlying23 w6.heap.size (.slice (some ⟨w6.heap.size, 0, none⟩) 0 0) [] p A p.length c (own_empty (heap_alloc_new w6 (.cells #[] 5))) (own_reads' (own_grows HO6.out he0)) he0.size (by have := HPB.out.2.1; simp; omega)
            have HE7 := Aside0.mk (grown_own he0 hg1 (own_empty (heap_alloc_new w6 (.cells #[] 5))))
            rw [List.nil_append] at ho1
            have he2 : Grows w7 (w7.alloc (.cells #[.int .u8 more] 5)) := (Below.refl w7.heap.size w7).alloc (Nat.le_refl _) (.cells #[.int .u8 more] 5)
            obtain ⟨v2, w8, hr2, ho2, hg2, _⟩ := bytes_run (t := 23) (u := 23) (ty := 23) Try.underlying23 Try.underlying23 w6.heap.size v1 p [more] (some ⟨w7.heap.size, 0, none⟩) 1 1 (own_grows ho1 he2) (lit_reads (xs := [more]) (by simp) (heap_alloc_new w7 (.cells #[.int .u8 more] 5))) (Nat.le_trans HE7.out.size he2.size) (by have := HPB.out.2.1; simp; omega)
            have HE8 := Aside0.mk (grown_own (HE7.out.trans he2) hg2 (own_grows ho1 he2))
            obtain ⟨A2, c2, rfl, hle2⟩ := own_slice ho2
            have hlm : (p ++ [more]).length = p.length + 1 := by rw [List.length_append, List.length_singleton]
            have HPM : Aside0 (u8s (p ++ [more])) := ⟨u8s_append HPU.out (fun x hx => by rw [List.mem_singleton.1 hx]; exact HMO.out)⟩
            have HGET : Aside0 (Calls Try.prog 11 #[.slice A2 (p.length + 1) c2] w8 fun e w' => e = .returned (.tuple #[.agg #[.int .i64 0, .string (⟨#[]⟩ : ByteArray), .int .i64 0, .int .i64 0, .int .i64 0, .slice none 0 0, .slice none 0 0], .bool false]) ∧ Grows w8 w') := ⟨hlm ▸ get_none A2 c2 (p ++ [more]) (own_reads' ho2) hle2 HPM.out (by rw [List.length_append, List.length_singleton]; have := HPB.out.2.1; omega) hq2⟩
            rw [hlm] at hr2
            clear hq2 ho1 ho2 hg1 hg2 he0 he2 hle2 hlm
            go_upto_region 8 with (first
              | (at_builtin; refine wpList_appendE (.tmp 38) (.tmp 39) 23 rfl rfl rfl rfl ⟨_, _, hr1, ?_⟩; clear hr1)
              | (at_builtin; refine wpList_appendE (.tmp 40) (.tmp 42) 23 rfl rfl rfl rfl ⟨_, _, hr2, ?_⟩; clear hr2)
              | (go_at_call 11; refine HGET.out.mono ?_; clear HGET; rintro e w9 ⟨rfl, hg⟩; have HG9 := Aside0.mk (HG6.out.trans (HE8.out.trans hg)); have HQ9 := Aside0.mk (HQ6.out.grows (HE8.out.trans hg)); have HNx9 := Aside0.mk (HNqx.out.grows (HE8.out.trans hg)); have HX9 := Aside0.mk (HX6.out.grows (HE8.out.trans hg)); clear hg))
            clear HG6 HQ6 HNqx HE8 HE7 HO6 HX6
            have hgx : Grows w9 (w9.alloc (.cells #[.int .i64 0, .string (⟨#[]⟩ : ByteArray), .int .i64 0, .int .i64 0, .int .i64 0, .slice none 0 0, .slice none 0 0] 25)) := (Below.refl w9.heap.size w9).alloc (Nat.le_refl _) (.cells #[.int .i64 0, .string (⟨#[]⟩ : ByteArray), .int .i64 0, .int .i64 0, .int .i64 0, .slice none 0 0, .slice none 0 0] 25)
            have HNqy := Aside0.mk (show RecT 25 _ _ 0 noKey 0 0 0 (.slice none 0 0) (.slice none 0 0) from heap_alloc_new w9 (.cells #[.int .i64 0, .string (⟨#[]⟩ : ByteArray), .int .i64 0, .int .i64 0, .int .i64 0, .slice none 0 0, .slice none 0 0] 25))
            have HG10 := Aside0.mk (HG9.out.trans hgx)
            have HQ10 := Aside0.mk (HQ9.out.grows hgx)
            have HNx10 := Aside0.mk (HNx9.out.grows hgx)
            have HX10 := Aside0.mk (HX9.out.grows hgx)
            clear hgx HG9 HQ9 HNx9 HX9
            generalize (w9.alloc (.cells #[.int .i64 0, .string (⟨#[]⟩ : ByteArray), .int .i64 0, .int .i64 0, .int .i64 0, .slice none 0 0, .slice none 0 0] 25)) = w10 at HNqy HG10 HQ10 HNx10 HX10 ⊢
            generalize w9.heap.size = qy at HNqy ⊢
            have d0 := HQ10.out.c0; have d1 := HQ10.out.c1; have d2 := HQ10.out.c2; have d3 := HQ10.out.c3; have d6 := HQ10.out.c6
            have e0 := HNx10.out.c0; have e1 := HNx10.out.c1; have e2 := HNx10.out.c2; have e3 := HNx10.out.c3; have e6 := HNx10.out.c6
            have kk : (kind != kind) = false := bne_self_eq_false kind
            by_cases h4 : kind = 4
            · have k4 : (kind != 4) = false := bne_eq_false_iff_eq.2 h4
              clear h4
              go_upto_region 10 with fail
              go_quiet (fail)
              have hgq : Grows w10 (w10.drewN nq) := pw_below_drewN (Below.refl _ _) nq
              have HGq := Aside0.mk (HG10.out.trans hgq)
              have HQq := Aside0.mk (HQ10.out.grows hgq)
              have HYq := Aside0.mk (HNqy.out.grows hgq)
              clear hgq HG10 HQ10 HNqy HNx10 HX10 d0 d1 d2 d3 d6 e0 e1 e2 e3 e6
              generalize w10.drewN nq = wq at HGq HQq HYq ⊢
              go_wp2
              go_ret
              exact ⟨rfl, HGq.out⟩
            · have k4 : (kind != 4) = true := bne_iff_ne.2 h4
              obtain ⟨i1, i2, i3, hble, hbt⟩ := HCS.out h4
              clear h4
              replace i1 := i1.symm
              replace i2 := i2.symm
              replace i3 := i3.symm
              subst i1 i2 i3
              have hx1 := (in_bytes HX10.out.rb).rd
              have hx2 := reads_take (in_bytes (HR.out.grows HG10.out).rb).rd b2'.length hble
              rw [← hbt] at hx2
              have h93 : ∀ m, (convert 23 9 (.slice BA2 b2'.length bc2)).run Try.prog (w10.drewN m) = .ok (.string (strOfNums b2')) (w10.drewN m) := fun m => conv_str Try.underlying23 (hx1.drewN m) bc2
              have h100 : ∀ m, (convert 23 9 (.slice BA b2'.length bc)).run Try.prog (w10.drewN m) = .ok (.string (strOfNums b2')) (w10.drewN m) := fun m => conv_str Try.underlying23 (hx2.drewN m) bc
              have hc1 := HR.out.bcap
              have hc2 : (b2'.length : Int) ≤ (bc : Int) := by omega
              have hc3 : b2'.length ≤ bc := by omega
              have hc4 : (0 : Int) ≤ (b2'.length : Int) := by omega
              have kid : (id != id) = false := bne_self_eq_false id
              have kno : (no != no) = false := bne_self_eq_false no
              clear hx1 hx2 hbt hble hc1
              go_upto_region 10 with fail
              go_quiet (fail)
              have hgq : Grows w10 (w10.drewN nq) := pw_below_drewN (Below.refl _ _) nq
              have HGq := Aside0.mk (HG10.out.trans hgq)
              have HQq := Aside0.mk (HQ10.out.grows hgq)
              have HYq := Aside0.mk (HNqy.out.grows hgq)
              clear hgq HG10 HQ10 HNqy HNx10 HX10 d0 d1 d2 d3 d6 e0 e1 e2 e3 e6 h93 h100
              generalize w10.drewN nq = wq at HGq HQq HYq ⊢
              go_wp2
              go_ret
              exact ⟨rfl, HGq.out⟩
          | some y3 =>
            obtain ⟨k3, key3, id3, no3, size3, ls3, b3⟩ := y3
            have hms := more_some HU.out HRT.out hk2 more HMO.out (hq2' HPF.out hq2)
            clear hk2
            obtain ⟨hke, HML⟩ := hms
            replace hke := hke.symm
            subst hke
            replace HML := Aside0.mk HML
            have HGET : Aside0 (Calls Try.prog 11 #[.slice A n c] w4 fun e w' => ∃ LA2 lc2 BA2 bc2, e = .returned (.tuple #[.agg #[.int .i64 kind, .string key2, .int .i64 id2, .int .i64 no2, .int .i64 size2, .slice LA2 (ofL ls2).length lc2, .slice BA2 b2'.length bc2], .bool true]) ∧ RIn w' LA2 lc2 (ofL ls2) BA2 bc2 b2' ∧ Grows w4 w') := ⟨by
              have h := get_some A c (p.take n) (W := w4) (by rw [HTN.out]; exact reads_take (own_reads' HO4.out) n (Nat.le_of_lt hnl)) (by rw [HTN.out]; omega) (u8s_take HPU.out n) (by rw [HTN.out]; have := HPB.out.2.1; omega) hq1
              rw [HTN.out] at h
              exact h⟩
            clear hq1
            go_upto_region 7 with (go_at_call 11; refine HGET.out.mono ?_; clear HGET; rintro e w5 ⟨LA2, lc2, BA2, bc2, rfl, hri, hg⟩; have HG5 := Aside0.mk (HG4.out.trans hg); have HQ5 := Aside0.mk (HQ4.out.grows hg); have HO5 := Aside0.mk (own_grows HO4.out hg); have HX5 := Aside0.mk hri; clear hg hri)
            clear HG4 HQ4 HO4
            have hgx : Grows w5 (w5.alloc (.cells #[.int .i64 kind, .string key2, .int .i64 id2, .int .i64 no2, .int .i64 size2, .slice LA2 (ofL ls2).length lc2, .slice BA2 b2'.length bc2] 25)) := (Below.refl w5.heap.size w5).alloc (Nat.le_refl _) (.cells #[.int .i64 kind, .string key2, .int .i64 id2, .int .i64 no2, .int .i64 size2, .slice LA2 (ofL ls2).length lc2, .slice BA2 b2'.length bc2] 25)
            have HNqx := Aside0.mk (show RecT 25 _ _ kind key2 id2 no2 size2 (.slice LA2 (ofL ls2).length lc2) (.slice BA2 b2'.length bc2) from heap_alloc_new w5 (.cells #[.int .i64 kind, .string key2, .int .i64 id2, .int .i64 no2, .int .i64 size2, .slice LA2 (ofL ls2).length lc2, .slice BA2 b2'.length bc2] 25))
            have HG6 := Aside0.mk (HG5.out.trans hgx)
            have HQ6 := Aside0.mk (HQ5.out.grows hgx)
            have HX6 := Aside0.mk (HX5.out.grows hgx)
            have HO6 := Aside0.mk (own_grows HO5.out hgx)
            clear HO5
            clear hgx HG5 HQ5 HX5
            generalize (w5.alloc (.cells #[.int .i64 kind, .string key2, .int .i64 id2, .int .i64 no2, .int .i64 size2, .slice LA2 (ofL ls2).length lc2, .slice BA2 b2'.length bc2] 25)) = w6 at HNqx HO6 HG6 HQ6 HX6 ⊢
            generalize w5.heap.size = qx at HNqx ⊢
            have he0 : Grows w6 (w6.alloc (.cells #[] 5)) := (Below.refl w6.heap.size w6).alloc (Nat.le_refl _) (.cells #[] 5)
            obtain ⟨v1, w7, hr1, ho1, hg1, _⟩ := bytes_run (t := 23) (u := 23) (ty := 23) Try.underlying23 Try.underlying23 w6.heap.size (.slice (some ⟨w6.heap.size, 0, none⟩) 0 0) [] p A p.length c (own_empty (heap_alloc_new w6 (.cells #[] 5))) (own_reads' (own_grows HO6.out he0)) he0.size (by have := HPB.out.2.1; simp; omega)
            have HE7 := Aside0.mk (grown_own he0 hg1 (own_empty (heap_alloc_new w6 (.cells #[] 5))))
            rw [List.nil_append] at ho1
            have he2 : Grows w7 (w7.alloc (.cells #[.int .u8 more] 5)) := (Below.refl w7.heap.size w7).alloc (Nat.le_refl _) (.cells #[.int .u8 more] 5)
            obtain ⟨v2, w8, hr2, ho2, hg2, _⟩ := bytes_run (t := 23) (u := 23) (ty := 23) Try.underlying23 Try.underlying23 w6.heap.size v1 p [more] (some ⟨w7.heap.size, 0, none⟩) 1 1 (own_grows ho1 he2) (lit_reads (xs := [more]) (by simp) (heap_alloc_new w7 (.cells #[.int .u8 more] 5))) (Nat.le_trans HE7.out.size he2.size) (by have := HPB.out.2.1; simp; omega)
            have HE8 := Aside0.mk (grown_own (HE7.out.trans he2) hg2 (own_grows ho1 he2))
            obtain ⟨A2, c2, rfl, hle2⟩ := own_slice ho2
            have hlm : (p ++ [more]).length = p.length + 1 := by rw [List.length_append, List.length_singleton]
            have HPM : Aside0 (u8s (p ++ [more])) := ⟨u8s_append HPU.out (fun x hx => by rw [List.mem_singleton.1 hx]; exact HMO.out)⟩
            have HGET : Aside0 (Calls Try.prog 11 #[.slice A2 (p.length + 1) c2] w8 fun e w' => ∃ LA3 lc3 BA3 bc3, e = .returned (.tuple #[.agg #[.int .i64 kind, .string key3, .int .i64 id3, .int .i64 no3, .int .i64 size3, .slice LA3 (ofL ls3).length lc3, .slice BA3 b3.length bc3], .bool true]) ∧ RIn w' LA3 lc3 (ofL ls3) BA3 bc3 b3 ∧ Grows w8 w') := ⟨hlm ▸ get_some A2 c2 (p ++ [more]) (own_reads' ho2) hle2 HPM.out (by rw [List.length_append, List.length_singleton]; have := HPB.out.2.1; omega) hq2⟩
            rw [hlm] at hr2
            clear hq2 ho1 ho2 hg1 hg2 he0 he2 hle2 hlm
            go_upto_region 8 with (first
              | (at_builtin; refine wpList_appendE (.tmp 38) (.tmp 39) 23 rfl rfl rfl rfl ⟨_, _, hr1, ?_⟩; clear hr1)
              | (at_builtin; refine wpList_appendE (.tmp 40) (.tmp 42) 23 rfl rfl rfl rfl ⟨_, _, hr2, ?_⟩; clear hr2)
              | (go_at_call 11; refine HGET.out.mono ?_; clear HGET; rintro e w9 ⟨LA3, lc3, BA3, bc3, rfl, hri, hg⟩; have HG9 := Aside0.mk (HG6.out.trans (HE8.out.trans hg)); have HQ9 := Aside0.mk (HQ6.out.grows (HE8.out.trans hg)); have HNx9 := Aside0.mk (HNqx.out.grows (HE8.out.trans hg)); have HX9 := Aside0.mk (HX6.out.grows (HE8.out.trans hg)); have HY9 := Aside0.mk hri; clear hg hri))
            clear HG6 HQ6 HNqx HE8 HE7 HO6 HX6
            have hgx : Grows w9 (w9.alloc (.cells #[.int .i64 kind, .string key3, .int .i64 id3, .int .i64 no3, .int .i64 size3, .slice LA3 (ofL ls3).length lc3, .slice BA3 b3.length bc3] 25)) := (Below.refl w9.heap.size w9).alloc (Nat.le_refl _) (.cells #[.int .i64 kind, .string key3, .int .i64 id3, .int .i64 no3, .int .i64 size3, .slice LA3 (ofL ls3).length lc3, .slice BA3 b3.length bc3] 25)
            have HNqy := Aside0.mk (show RecT 25 _ _ kind key3 id3 no3 size3 (.slice LA3 (ofL ls3).length lc3) (.slice BA3 b3.length bc3) from heap_alloc_new w9 (.cells #[.int .i64 kind, .string key3, .int .i64 id3, .int .i64 no3, .int .i64 size3, .slice LA3 (ofL ls3).length lc3, .slice BA3 b3.length bc3] 25))
            have HG10 := Aside0.mk (HG9.out.trans hgx)
            have HQ10 := Aside0.mk (HQ9.out.grows hgx)
            have HNx10 := Aside0.mk (HNx9.out.grows hgx)
            have HX10 := Aside0.mk (HX9.out.grows hgx)
            have HY10 := Aside0.mk (HY9.out.grows hgx)
            clear hgx HG9 HQ9 HNx9 HX9 HY9
            generalize (w9.alloc (.cells #[.int .i64 kind, .string key3, .int .i64 id3, .int .i64 no3, .int .i64 size3, .slice LA3 (ofL ls3).length lc3, .slice BA3 b3.length bc3] 25)) = w10 at HNqy HG10 HQ10 HNx10 HX10 HY10 ⊢
            generalize w9.heap.size = qy at HNqy ⊢
            have d0 := HQ10.out.c0; have d1 := HQ10.out.c1; have d2 := HQ10.out.c2; have d3 := HQ10.out.c3; have d6 := HQ10.out.c6
            have e0 := HNx10.out.c0; have e1 := HNx10.out.c1; have e2 := HNx10.out.c2; have e3 := HNx10.out.c3; have e6 := HNx10.out.c6
            have kk : (kind != kind) = false := bne_self_eq_false kind
            by_cases h4 : kind = 4
            · have k4 : (kind != 4) = false := bne_eq_false_iff_eq.2 h4
              clear h4
              go_upto_region 10 with fail
              go_quiet (fail)
              have hgq : Grows w10 (w10.drewN nq) := pw_below_drewN (Below.refl _ _) nq
              have HGq := Aside0.mk (HG10.out.trans hgq)
              have HQq := Aside0.mk (HQ10.out.grows hgq)
              have HYq := Aside0.mk (HNqy.out.grows hgq)
              clear hgq HG10 HQ10 HNqy HNx10 HX10 HY10 d0 d1 d2 d3 d6 e0 e1 e2 e3 e6
              generalize w10.drewN nq = wq at HGq HQq HYq ⊢
              have d0 := HQq.out.c0; have d1 := HQq.out.c1; have d6 := HQq.out.c6
              have e0 := HYq.out.c0; have e1 := HYq.out.c1; have e6 := HYq.out.c6
              obtain ⟨m1, m2, m3, m4⟩ := sums_more (x := b3.length) (y := key3.size) (u := b.length) (v := key.size) HML.out.1 HPB.out.2.2.1 HPB.out.2.2.2.1
              go_wp2
              go_ret
              exact ⟨rfl, HGq.out⟩
            · have k4 : (kind != 4) = true := bne_iff_ne.2 h4
              obtain ⟨i1, i2, i3, hble, hbt⟩ := HCS.out h4
              clear h4
              replace i1 := i1.symm
              replace i2 := i2.symm
              replace i3 := i3.symm
              subst i1 i2 i3
              have hx1 := (in_bytes HX10.out.rb).rd
              have hx2 := reads_take (in_bytes (HR.out.grows HG10.out).rb).rd b2'.length hble
              rw [← hbt] at hx2
              have h93 : ∀ m, (convert 23 9 (.slice BA2 b2'.length bc2)).run Try.prog (w10.drewN m) = .ok (.string (strOfNums b2')) (w10.drewN m) := fun m => conv_str Try.underlying23 (hx1.drewN m) bc2
              have h100 : ∀ m, (convert 23 9 (.slice BA b2'.length bc)).run Try.prog (w10.drewN m) = .ok (.string (strOfNums b2')) (w10.drewN m) := fun m => conv_str Try.underlying23 (hx2.drewN m) bc
              have hc1 := HR.out.bcap
              have hc2 : (b2'.length : Int) ≤ (bc : Int) := by omega
              have hc3 : b2'.length ≤ bc := by omega
              have hc4 : (0 : Int) ≤ (b2'.length : Int) := by omega
              have kid : (id != id) = false := bne_self_eq_false id
              have kno : (no != no) = false := bne_self_eq_false no
              clear hx1 hx2 hbt hble hc1
              go_upto_region 10 with fail
              go_quiet (fail)
              have hgq : Grows w10 (w10.drewN nq) := pw_below_drewN (Below.refl _ _) nq
              have HGq := Aside0.mk (HG10.out.trans hgq)
              have HQq := Aside0.mk (HQ10.out.grows hgq)
              have HYq := Aside0.mk (HNqy.out.grows hgq)
              clear hgq HG10 HQ10 HNqy HNx10 HX10 HY10 d0 d1 d2 d3 d6 e0 e1 e2 e3 e6 h93 h100
              generalize w10.drewN nq = wq at HGq HQq HYq ⊢
              have d0 := HQq.out.c0; have d1 := HQq.out.c1; have d6 := HQq.out.c6
              have e0 := HYq.out.c0; have e1 := HYq.out.c1; have e6 := HYq.out.c6
              obtain ⟨m1, m2, m3, m4⟩ := sums_more (x := b3.length) (y := key3.size) (u := b.length) (v := key.size) HML.out.1 HPB.out.2.2.1 HPB.out.2.2.2.1
              go_wp2
              go_ret
              exact ⟨rfl, HGq.out⟩
    · have hpe : p = [] := by rw [HPE.out]; unfold putRec; rw [if_neg hrt]
      have p0 : ((p.length : Int) == 0) = true := by rw [hpe]; rfl
      clear hpe
      go_wp2_with (go_at_call 10; refine HGR.out.mono ?_; clear HGR; rintro e w4 ⟨rfl, hg⟩; have HG4 := Aside0.mk (HG3.out.trans hg); clear hg)
      go_ret
      exact ⟨rfl, HG4.out⟩
end Go.Proofs.Ytemnhgmgffdncaa.PRecBack
