/-
  Layer 17: the live question.
-/
import Derived.Test.YtdfjacpfmjgfiaaTB
namespace Go.Proofs.Ytdfjacpfmjgfiaa
set_option linter.unusedVariables false
set_option linter.unusedSimpArgs false
open Go.Shelf Go.RowKit Go.Proofs.YtdfjacpfmjgfiaaW.PrintWords Go.Proofs.YtdfjacpfmjgfiaaW.PrintMore
attribute [local go_sem] max2_int
theorem lits_reads {W : World} {g : Nat} {xs : List Int} (hm : xs.length ≤ 9223372036854775807) (h : W.heap[g]? = some (Obj.cells (xs.map (Value.int .i64)).toArray 3 (0, 0))) : ReadsInt W .i64 (some ⟨g, 0, none⟩) xs.length xs := by
  refine ⟨rfl, hm, fun _ => ⟨_, rfl, fun j hj => ?_⟩⟩
  have hadd : (⟨g, 0, none⟩ : Addr).add j = ⟨g, j, none⟩ := by unfold Addr.add; split <;> simp_all
  rw [hadd, cell_of_row W g j _ 3 (0, 0) h]
  simp [List.getD_eq_getElem?_getD, List.getElem?_eq_getElem hj]
theorem keep_on {w W W' : World} {R : Nat → Prop} (h : KeepS (fun k => w.heap.size ≤ k) w W) (hk : KeepS (fun k => ¬ R k) W W') (hR : ∀ k, k < w.heap.size → R k) : KeepS (fun k => w.heap.size ≤ k) w W' :=
  ⟨hk.os.trans h.os, hk.tape.trans h.tape, hk.output.trans h.output, Nat.le_trans h.size hk.size, fun k hlt hn => (hk.block k (Nat.lt_of_lt_of_le hlt h.size) fun h2 => h2 (hR k hlt)).trans (h.block k hlt hn)⟩
structure HeadOf (w w9 : World) (t : Nat) (wA : World) (A : Option Addr) (c : Nat) : Prop where
  same : Calls Try.prog 23 #[.slice A 1 c, .slice (some ⟨wA.heap.size, 0, none⟩) 1 1] (wA.alloc (.cells #[.int .i64 3] 3)) fun e w' => e = .returned (.bool true) ∧ ∃ q, w' = (wA.alloc (.cells #[.int .i64 3] 3)).drewN q
  many : ∀ q, Calls Try.prog 19 #[.pointer (some ⟨t, 0, none⟩)] ((wA.alloc (.cells #[.int .i64 3] 3)).drewN q) fun e w' => e = .returned (.int .i64 2) ∧ w' = (wA.alloc (.cells #[.int .i64 3] 3)).drewN q
  pin : ∀ q, Calls Try.prog 13 #[.pointer (some ⟨t, 0, none⟩), .int .i64 1, .int .i64 1] ((wA.alloc (.cells #[.int .i64 3] 3)).drewN q) fun e w' => e = .returned (.bool false) ∧ w' = (wA.alloc (.cells #[.int .i64 3] 3)).drewN q
  below : ∀ q, Below w.heap.size w ((wA.alloc (.cells #[.int .i64 3] 3)).drewN q)
theorem head_of {w w9 : World} {t : Nat} (HT : TB (fun k => k < w.heap.size) w9 t 2 4 [(2, [3]), (3, [])]) (HK : KeepS (fun k => w.heap.size ≤ k) w w9) :
    Calls Try.prog 24 #[.pointer (some ⟨t, 0, none⟩), .int .i64 2] w9 fun e wA => ∃ A c, e = .returned (.slice A 1 c) ∧ HeadOf w w9 t wA A c := by
  refine (of_tb HT 2 (by decide)).mono ?_
  rintro e wA ⟨v', rfl, ho, hg⟩
  replace ho : wA.ownsRow w9.heap.size 3 1 v' ([3] : List Int).length (nums .i64 [3]) := ho
  obtain ⟨A, c, rfl, hc⟩ := own_slice ho
  have ga : Grows wA (wA.alloc (.cells #[.int .i64 3] 3)) := (Below.refl wA.heap.size wA).alloc (Nat.le_refl _) _
  have gw := Grows.trans hg ga
  have gK : ∀ q, KeepS (fun k => k < w.heap.size) w9 ((wA.alloc (.cells #[.int .i64 3] 3)).drewN q) := fun q => ⟨gw.os, gw.tape, gw.output, gw.size, fun k hk _ => gw.block k hk⟩
  refine ⟨A, c, rfl, ?_, fun q => ?_, fun q => ?_, fun q => ?_⟩
  · exact same_calls (xs := [3]) (ys := [3]) (own_reads' (own_grows ho ga)) (lits_reads (by decide) (heap_alloc_new wA _)) hc (by decide) (by decide)
  · exact many_tb (HT.other (gK q))
  · exact pinq_tb (HT.other (gK q)) 1 1 rfl
  · exact ⟨gw.os.trans HK.os, gw.tape.trans HK.tape, gw.output.trans HK.output, Nat.le_trans HK.size gw.size, fun k hk => (gw.block k (Nat.lt_of_lt_of_le hk HK.size)).trans (HK.block k hk (by omega))⟩
set_option maxRecDepth 100000 in
set_option maxHeartbeats 4000000 in
theorem head_calls (w : World) : Calls Try.prog 9 #[] w fun e w' => e = .returned (.bool true) ∧ Below w.heap.size w w' := by
  go_enter Try.func9, Try.ntmps9
  go_upto_region 2 with (go_at_call 10; refine (new_tb _ 2 (by decide)).mono ?_; rintro e w1 ⟨t, rfl, hT, hg⟩; have HT := Aside0.mk hT; have HK := Aside0.mk (show KeepS (fun k => w.heap.size ≤ k) w w1 from KeepS.of_grows hg); clear hT hg)
  go_upto_region 4 with (go_at_call 10; (first | (with_reducible refine (new_none _ 0 (by decide)).mono ?_) | (with_reducible refine (new_none _ 1025 (by decide)).mono ?_)); rintro e w2 ⟨rfl, rfl⟩)
  have g2 : Grows w2 (w2.alloc (.cells #[.int .i64 5, .int .i64 3, .int .i64 5] 3)) := (Below.refl w2.heap.size w2).alloc (Nat.le_refl _) _
  have s2 : (w2.alloc (.cells #[.int .i64 5, .int .i64 3, .int .i64 5] 3)).heap.size = w2.heap.size + 1 := by show (w2.heap.push _).size = _; rw [Array.size_push]
  have HC := Aside0.mk (open_tb (HT.out.with (KeepS.of_grows g2)) (by decide) (fun x hx => (by cases hx)) (by decide) (by decide) (by decide) (A := some ⟨w2.heap.size, 0, none⟩) (m := 3) (c := 3) (xs := [5, 3, 5]) (ReadsR.of (lits_reads (by decide) (heap_alloc_new w2 _)) fun k hk ad e1 e2 => by injection e1 with e1; subst e1; subst e2; exact .inr ⟨Nat.le_refl _, hk⟩) (by decide))
  have HK1 := Aside0.mk (HK.out.trans (KeepS.of_grows g2))
  have hle := HK.out.size
  clear HT g2 HK
  go_upto_region 5 with (go_at_call 17; refine HC.out.mono ?_; clear HC; rintro e w3 ⟨rfl, hT, hK⟩; have HT := Aside0.mk (show TB (fun k => k < w.heap.size) w3 t 2 2 [(1, [3, 5])] from hT.sub fun k hk => .inl hk); have HK := Aside0.mk (keep_on HK1.out hK fun k hk => .inl hk); clear hT hK HK1 s2 hle)
  have HC := Aside0.mk (show Calls Try.prog 17 #[.pointer (some ⟨t, 0, none⟩), .slice none 0 0] w3 (TBPost (fun k => k < w.heap.size) w3 t 2 3 [(1, [3, 5]), (2, [])] (.tuple #[.int .i64 2, .int .i64 0])) from open_tb HT.out (by decide) (by decide) (by decide) (by decide) (by decide) (c := 0) ReadsR.none (by decide))
  clear HT
  go_upto_region 6 with (go_at_call 17; refine HC.out.mono ?_; clear HC; rintro e w4 ⟨rfl, hT, hK⟩; have HT := Aside0.mk hT; have HK2 := Aside0.mk (keep_on HK.out hK fun k hk => hk); clear hT hK HK)
  have HK := HK2
  clear HK2
  have HC := Aside0.mk (show Calls Try.prog 17 #[.pointer (some ⟨t, 0, none⟩), .slice none 0 0] w4 (TBPost (fun k => k < w.heap.size) w4 t 2 3 [(1, [3, 5]), (2, [])] (.tuple #[.int .i64 0, .int .i64 5])) from full_tb HT.out (by decide) (.slice none 0 0))
  clear HT
  go_upto_region 7 with (go_at_call 17; refine HC.out.mono ?_; clear HC; rintro e w5 ⟨rfl, hT, hK⟩; have HT := Aside0.mk hT; have HK2 := Aside0.mk (keep_on HK.out hK fun k hk => hk); clear hT hK HK)
  have HK := HK2
  clear HK2
  have HC := Aside0.mk (show Calls Try.prog 13 #[.pointer (some ⟨t, 0, none⟩), .int .i64 2, .int .i64 3] w5 (TBPost (fun k => k < w.heap.size) w5 t 2 3 [(1, [3, 5]), (2, [3])] (.bool true)) from pin_tb HT.out (by decide) (by decide) 2 3)
  clear HT
  go_upto_region 8 with (go_at_call 13; refine HC.out.mono ?_; clear HC; rintro e w6 ⟨rfl, hT, hK⟩; have HT := Aside0.mk hT; have HK2 := Aside0.mk (keep_on HK.out hK fun k hk => hk); clear hT hK HK)
  have HK := HK2
  clear HK2
  have HC := Aside0.mk (show Calls Try.prog 15 #[.pointer (some ⟨t, 0, none⟩), .int .i64 1] w6 (TBPost (fun k => k < w.heap.size) w6 t 2 3 [(2, [3])] (.bool true)) from close_tb HT.out (by decide) (by decide) 1)
  clear HT
  go_upto_region 9 with (go_at_call 15; refine HC.out.mono ?_; clear HC; rintro e w7 ⟨rfl, hT, hK⟩; have HT := Aside0.mk hT; have HK2 := Aside0.mk (keep_on HK.out hK fun k hk => hk); clear hT hK HK)
  have HK := HK2
  clear HK2
  have HC := Aside0.mk (closeq_tb HT.out 1 rfl)
  go_upto_region 10 with (go_at_call 15; refine HC.out.mono ?_; clear HC; rintro e w8 ⟨rfl, rfl⟩)
  have HC := Aside0.mk (show Calls Try.prog 17 #[.pointer (some ⟨t, 0, none⟩), .slice none 0 0] w8 (TBPost (fun k => k < w.heap.size) w8 t 2 4 [(2, [3]), (3, [])] (.tuple #[.int .i64 3, .int .i64 0])) from open_tb HT.out (by decide) (by decide) (by decide) (by decide) (by decide) (c := 0) ReadsR.none (by decide))
  clear HT
  go_upto_region 11 with (go_at_call 17; refine HC.out.mono ?_; clear HC; rintro e w9 ⟨rfl, hT, hK⟩; have HT := Aside0.mk hT; have HK2 := Aside0.mk (keep_on HK.out hK fun k hk => hk); clear hT hK HK)
  have HK := HK2
  clear HK2
  have P3 := Aside0.mk (show Calls Try.prog 26 #[.pointer (some ⟨t, 0, none⟩), .int .i64 3] w9 fun e w' => e = .returned (.bool true) ∧ w' = w9 from pinned_tb HT.out 3)
  have P5 := Aside0.mk (show Calls Try.prog 26 #[.pointer (some ⟨t, 0, none⟩), .int .i64 5] w9 fun e w' => e = .returned (.bool false) ∧ w' = w9 from pinned_tb HT.out 5)
  have I1 := Aside0.mk (show Calls Try.prog 21 #[.pointer (some ⟨t, 0, none⟩), .int .i64 1] w9 fun e w' => e = .returned (.bool false) ∧ w' = w9 from is_tb HT.out 1)
  have I2 := Aside0.mk (show Calls Try.prog 21 #[.pointer (some ⟨t, 0, none⟩), .int .i64 2] w9 fun e w' => e = .returned (.bool true) ∧ w' = w9 from is_tb HT.out 2)
  have O2 := Aside0.mk (head_of HT.out HK.out)
  go_wp2_with (first
    | (go_at_call 26; (first | (with_reducible refine P3.out.mono ?_) | (with_reducible refine P5.out.mono ?_)); rintro e w2 ⟨rfl, rfl⟩)
    | (go_at_call 21; (first | (with_reducible refine I1.out.mono ?_) | (with_reducible refine I2.out.mono ?_)); rintro e w2 ⟨rfl, rfl⟩)
    | (go_at_call 24; refine O2.out.mono ?_; rintro e wA ⟨A, c, rfl, hO⟩; have HO := Aside0.mk hO; clear hO)
    | (go_at_call 23; refine HO.out.same.mono ?_; rintro e wB ⟨rfl, q, rfl⟩)
    | (go_at_call 19; refine (HO.out.many _).mono ?_; rintro e wB ⟨rfl, rfl⟩)
    | (go_at_call 13; refine (HO.out.pin _).mono ?_; rintro e wB ⟨rfl, rfl⟩))
  go_ret
  exact ⟨rfl, HO.out.below _⟩
end Go.Proofs.Ytdfjacpfmjgfiaa
