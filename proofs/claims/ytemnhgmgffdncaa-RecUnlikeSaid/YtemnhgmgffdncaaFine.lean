/-
  Layer 4: is a record fine?
-/
import Derived.Test.YtemnhgmgffdncaaHas
import Derived.Test.YtemnhgmgffdncaaPRecTellsx4
namespace Go.Proofs.Ytemnhgmgffdncaa
set_option linter.unusedVariables false
set_option linter.unusedSimpArgs false
open Go.RowKit Go.Proofs.YtemnhgmgffdncaaW.PrintWords Go.Proofs.YtemnhgmgffdncaaW.PrintMore
attribute [local go_sem] max2_int

def withinB (n least most : Int) : Bool := decide (least ≤ n ∧ n ≤ most)
def keyB (s : ByteArray) : Bool := withinB (s.size : Int) 1 64
theorem drawn_grows {w w' : World} (h : Drawn0 w w') : Grows w w' := by
  obtain ⟨n, rfl⟩ := h
  exact pw_below_drewN (Below.refl _ _) n
theorem within_f (a b c : Int) : PRecTells.rec_within.f a b c = some (withinB a b c) := by
  unfold PRecTells.rec_within.f withinB
  by_cases h : a ≥ b
  · rw [if_pos h]
    by_cases h2 : a ≤ c
    · rw [decide_eq_true h2, decide_eq_true (show b ≤ a ∧ a ≤ c from ⟨h, h2⟩)]
    · rw [decide_eq_false h2, decide_eq_false (show ¬ (b ≤ a ∧ a ≤ c) from fun e => h2 e.2)]
  · rw [if_neg h, decide_eq_false (show ¬ (b ≤ a ∧ a ≤ c) from fun e => h e.1)]
theorem within_calls (a b c : Int) (w : World) : Calls Try.prog 22 #[.int .i64 a, .int .i64 b, .int .i64 c] w fun e w' => e = .returned (.bool (withinB a b c)) ∧ Grows w w' :=
  (PRecTells.rec_within.calls a b c _ w (within_f a b c)).mono fun e w' h => ⟨h.1, drawn_grows h.2⟩
theorem key_calls (s : ByteArray) (w : World) : Calls Try.prog 18 #[.string s] w fun e w' => e = .returned (.bool (keyB s)) ∧ Grows w w' :=
  (PRecTells.rec_Key.calls s _ w (by unfold PRecTells.rec_Key.f; rw [within_f]; rfl)).mono fun e w' h => ⟨h.1, drawn_grows h.2⟩
structure WinIs (a b c : Int) (r : Bool) : Prop where
  run : ∀ w, Calls Try.prog 22 #[.int .i64 a, .int .i64 b, .int .i64 c] w fun e w' => e = .returned (.bool r) ∧ Grows w w'
theorem win_is (a b c : Int) : WinIs a b c (withinB a b c) := ⟨fun w => within_calls a b c w⟩
structure KyIs (s : ByteArray) (r : Bool) : Prop where
  run : ∀ w, Calls Try.prog 18 #[.string s] w fun e w' => e = .returned (.bool r) ∧ Grows w w'
theorem ky_is (s : ByteArray) : KyIs s (keyB s) := ⟨fun w => key_calls s w⟩
theorem Grows.trans {a b c : World} (h : Grows a b) (k : Grows b c) : Grows a c :=
  ⟨k.os.trans h.os, k.tape.trans h.tape, k.output.trans h.output, Nat.le_trans h.size k.size, fun i hi => (k.block i (Nat.lt_of_lt_of_le hi h.size)).trans (h.block i hi)⟩
set_option maxRecDepth 100000 in
set_option maxHeartbeats 4000000 in
theorem tombFine_calls (g : Nat) (kind : Int) (key : ByteArray) (id no size : Int) (vL vB : Value) (w : World) (hr : RecIs w g kind key id no size vL vB) :
    Calls Try.prog 38 #[.pointer (some ⟨g, 0, none⟩)] w fun e w' => e = .returned (.bool (keyB key)) ∧ Grows w w' := by
  have HR := Aside0.mk hr
  have c1 := hr.c1
  clear hr
  go_enter Try.func38, Try.ntmps38
  go_wp2_with (go_at_call 18; refine (key_calls key _).mono ?_; rintro e w1 ⟨rfl, hg⟩; have HG1 := Aside0.mk hg; clear hg)
  go_ret
  exact ⟨rfl, HG1.out⟩
set_option maxRecDepth 100000 in
set_option maxHeartbeats 4000000 in
theorem inlineFine_calls (g : Nat) (kind : Int) (key : ByteArray) (id no size : Int) (vL : Value) (A : Option Addr) (m c : Nat) (w : World) (hr : RecIs w g kind key id no size vL (.slice A m c)) :
    Calls Try.prog 34 #[.pointer (some ⟨g, 0, none⟩)] w fun e w' => e = .returned (.bool (keyB key && decide ((m : Int) ≤ 4096))) ∧ Grows w w' := by
  have HR := Aside0.mk hr
  have c1 := hr.c1
  have HK := Aside0.mk (ky_is key)
  generalize keyB key = k at HK ⊢
  clear hr
  cases k with
  | false =>
    go_enter Try.func34, Try.ntmps34
    go_wp2_with (go_at_call 18; refine (HK.out.run _).mono ?_; rintro e w1 ⟨rfl, hg⟩; have HG1 := Aside0.mk hg; clear hg)
    go_ret
    exact ⟨rfl, HG1.out⟩
  | true =>
    go_enter Try.func34, Try.ntmps34
    go_wp2_with (go_at_call 18; refine (HK.out.run _).mono ?_; rintro e w1 ⟨rfl, hg⟩; have HG1 := Aside0.mk hg; have c6 := (HR.out.grows hg).c6; clear hg)
    go_ret
    exact ⟨rfl, HG1.out⟩
set_option maxRecDepth 100000 in
set_option maxHeartbeats 4000000 in
theorem pieceFine_calls (g : Nat) (kind : Int) (key : ByteArray) (id no size : Int) (vL : Value) (A : Option Addr) (m c : Nat) (w : World) (hr : RecIs w g kind key id no size vL (.slice A m c)) :
    Calls Try.prog 26 #[.pointer (some ⟨g, 0, none⟩)] w fun e w' => e = .returned (.bool (withinB no 0 511 && withinB (m : Int) 1 4096)) ∧ Grows w w' := by
  have HR := Aside0.mk hr
  have c3 := hr.c3
  have H1 := Aside0.mk (win_is no 0 511)
  have H2 := Aside0.mk (win_is (m : Int) 1 4096)
  generalize withinB no 0 511 = k at H1 ⊢
  generalize withinB (m : Int) 1 4096 = k2 at H2 ⊢
  clear hr
  cases k with
  | false =>
    go_enter Try.func26, Try.ntmps26
    go_wp2_with (go_at_call 22; refine (H1.out.run _).mono ?_; rintro e w1 ⟨rfl, hg⟩; have HG1 := Aside0.mk hg; clear hg)
    go_ret
    exact ⟨rfl, HG1.out⟩
  | true =>
    go_enter Try.func26, Try.ntmps26
    go_wp2_with (first
      | (go_at_call 22; ((with_reducible refine (H1.out.run _).mono ?_)); rintro e w1 ⟨rfl, hg⟩; have HG1 := Aside0.mk hg; have c6 := (HR.out.grows hg).c6; clear hg)
      | (go_at_call 22; ((with_reducible refine (H2.out.run _).mono ?_)); rintro e w2 ⟨rfl, hg⟩; have HG2 := Aside0.mk (HG1.out.trans hg); clear hg))
    go_ret
    exact ⟨rfl, HG2.out⟩
def locFine (x : Loc3) : Bool := withinB x.1 0 99999999 && (withinB x.2.1 0 1073741824 && withinB x.2.2 1 4096)
def sumL : List Loc3 → Int → Option Int
  | [], s => some s
  | x :: l, s => if locFine x then sumL l (wrap64 (s + x.2.2)) else none
def rootFineB (key : ByteArray) (size : Int) (ls : List Loc3) : Bool :=
  match sumL ls 0 with
  | none => false
  | some s => keyB key && (decide ((ls.length : Int) ≤ 512) && ((s == size) && withinB s 1 65536))
set_option maxRecDepth 100000 in
set_option maxHeartbeats 4000000 in
theorem rootFine_calls {B : Nat} (g : Nat) (kind : Int) (key : ByteArray) (id no size : Int) (LA : Option Addr) (lc : Nat) (ls : List Loc3) (vB : Value) (w : World) (hr : RecIs w g kind key id no size (.slice LA ls.length lc) vB) (hlo : LowL w B LA ls) :
    Calls Try.prog 30 #[.pointer (some ⟨g, 0, none⟩)] w fun e w' => e = .returned (.bool (rootFineB key size ls)) ∧ Grows w w' := by
  have HR := Aside0.mk hr
  have HLO := Aside0.mk hlo
  have c5 := hr.c5
  obtain ⟨res, hres⟩ : ∃ res, res = rootFineB key size ls := ⟨_, rfl⟩
  rw [← hres]
  have HF := Aside0.mk hres
  have HLL := Aside0.mk hlo.len
  clear hr hlo hres
  go_enter Try.func30, Try.ntmps30
  go_wp2
  go_loopg [3, 5, 11] ls.length (fun f v3 v5 v11 wz => ∃ (i : Nat) (s : Int), Aside0 (f + i = ls.length) ∧ i ≤ ls.length ∧ v3 = .int .i64 s ∧ v11 = .int .i64 i ∧ Aside0 (sumL (ls.drop i) s = sumL ls 0) ∧ Aside0 (Grows w wz))
  case atStart => exact ⟨0, 0, ⟨rfl⟩, Nat.zero_le _, rfl, rfl, ⟨rfl⟩, ⟨Grows.refl _⟩⟩
  case round =>
    obtain ⟨i, s, HFi, hi, rfl, rfl, HS, HG⟩ := hrel
    by_cases hlt : i < ls.length
    · have hlt2 : (i : Int) < (ls.length : Int) := by omega
      have h0i : (0 : Int) ≤ (i : Int) := by omega
      obtain ⟨ad, x, hA, hx, hx0, hx1, hx2⟩ := (HLO.out.keep (fun k _ hk => HG.out.block k hk)).at i hlt
      subst hA
      have htn : ((i : Int)).toNat = i := Int.toNat_natCast i
      have hi9 : i ≤ 9223372036854775806 := by have := HLL.out; omega
      have HST := Aside0.mk (show sumL ls 0 = if locFine x then sumL (ls.drop (i + 1)) (wrap64 (s + x.2.2)) else none by
        rw [← HS.out, List.drop_eq_getElem_cons hlt]
        obtain ⟨_, hx⟩ := List.getElem?_eq_some_iff.1 hx
        rw [hx]; rfl)
      obtain ⟨q1, q2, q3⟩ := x
      simp only at hx0 hx1 hx2
      clear hx
      go_upto_region 5 with fail
      have hgr : Grows wr (wr.alloc (.cells #[.int .i64 q1, .int .i64 q2, .int .i64 q3] 39)) := (Below.refl _ _).alloc (Nat.le_refl _) _
      have HG9 := Aside0.mk (HG.out.trans hgr)
      have HL9 := Aside0.mk (heap_alloc_new wr (.cells #[.int .i64 q1, .int .i64 q2, .int .i64 q3] 39))
      clear hgr hx0 hx1 hx2
      generalize wr.alloc (.cells #[.int .i64 q1, .int .i64 q2, .int .i64 q3] 39) = u4 at HG9 HL9 ⊢
      generalize wr.heap.size = lb at HL9 ⊢
      have l0 := cell_of_row u4 lb 0 _ 39 (0, 0) HL9.out
      have H1 := Aside0.mk (win_is q1 0 99999999)
      have H2 := Aside0.mk (win_is q2 0 1073741824)
      have H3 := Aside0.mk (win_is q3 1 4096)
      unfold locFine at HST
      simp only at HST
      generalize withinB q1 0 99999999 = b1 at H1 HST
      generalize withinB q2 0 1073741824 = b2 at H2 HST
      generalize withinB q3 1 4096 = b3 at H3 HST
      cases b1 with
      | false =>
        go_wp2_with (go_at_call 22; refine (H1.out.run _).mono ?_; rintro e u5 ⟨rfl, hg⟩; have HG10 := Aside0.mk (HG9.out.trans hg); clear hg)
        go_ret
        exact ⟨by rw [HF.out]; unfold rootFineB; rw [HST.out]; rfl, HG10.out⟩
      | true =>
        cases b2 with
        | false =>
          go_wp2_with (first
            | (go_at_call 22; ((with_reducible refine (H1.out.run _).mono ?_)); rintro e u5 ⟨rfl, hg⟩; have HG10 := Aside0.mk (HG9.out.trans hg); have l1 := cell_of_row u5 lb 1 _ 39 (0, 0) ((hg.block lb (lt_heap HL9.out)).trans HL9.out); have HL10 := Aside0.mk ((hg.block lb (lt_heap HL9.out)).trans HL9.out); clear hg)
            | (go_at_call 22; ((with_reducible refine (H2.out.run _).mono ?_)); rintro e u6 ⟨rfl, hg⟩; have HG11 := Aside0.mk (HG10.out.trans hg); clear hg))
          go_ret
          exact ⟨by rw [HF.out]; unfold rootFineB; rw [HST.out]; rfl, HG11.out⟩
        | true =>
          cases b3 with
          | false =>
            go_wp2_with (first
              | (go_at_call 22; ((with_reducible refine (H1.out.run _).mono ?_)); rintro e u5 ⟨rfl, hg⟩; have HG10 := Aside0.mk (HG9.out.trans hg); have l1 := cell_of_row u5 lb 1 _ 39 (0, 0) ((hg.block lb (lt_heap HL9.out)).trans HL9.out); have HL10 := Aside0.mk ((hg.block lb (lt_heap HL9.out)).trans HL9.out); clear hg)
              | (go_at_call 22; ((with_reducible refine (H2.out.run _).mono ?_)); rintro e u6 ⟨rfl, hg⟩; have HG11 := Aside0.mk (HG10.out.trans hg); have l2 := cell_of_row u6 lb 2 _ 39 (0, 0) ((hg.block lb (lt_heap HL10.out)).trans HL10.out); have HL11 := Aside0.mk ((hg.block lb (lt_heap HL10.out)).trans HL10.out); clear hg)
              | (go_at_call 22; ((with_reducible refine (H3.out.run _).mono ?_)); rintro e u7 ⟨rfl, hg⟩; have HG12 := Aside0.mk (HG11.out.trans hg); clear hg))
            go_ret
            exact ⟨by rw [HF.out]; unfold rootFineB; rw [HST.out]; rfl, HG12.out⟩
          | true =>
            go_upto_region 7 with (first
              | (go_at_call 22; ((with_reducible refine (H1.out.run _).mono ?_)); rintro e u5 ⟨rfl, hg⟩; have HG10 := Aside0.mk (HG9.out.trans hg); have l1 := cell_of_row u5 lb 1 _ 39 (0, 0) ((hg.block lb (lt_heap HL9.out)).trans HL9.out); have HL10 := Aside0.mk ((hg.block lb (lt_heap HL9.out)).trans HL9.out); clear hg)
              | (go_at_call 22; ((with_reducible refine (H2.out.run _).mono ?_)); rintro e u6 ⟨rfl, hg⟩; have HG11 := Aside0.mk (HG10.out.trans hg); have l2 := cell_of_row u6 lb 2 _ 39 (0, 0) ((hg.block lb (lt_heap HL10.out)).trans HL10.out); have HL11 := Aside0.mk ((hg.block lb (lt_heap HL10.out)).trans HL10.out); clear hg)
              | (go_at_call 22; ((with_reducible refine (H3.out.run _).mono ?_)); rintro e u7 ⟨rfl, hg⟩; have HG12 := Aside0.mk (HG11.out.trans hg); have l3 := cell_of_row u7 lb 2 _ 39 (0, 0) ((hg.block lb (lt_heap HL11.out)).trans HL11.out); clear hg))
            go_wp2
            go_roundg (ls.length - (i + 1))
            case measure => have := HFi.out; omega
            case rel => exact ⟨i + 1, wrap64 (s + q3), ⟨by have := HFi.out; omega⟩, by omega, (by first | rfl | simp only [i64_w]), by go_num, ⟨HST.out.symm⟩, HG12⟩
    · obtain rfl : i = ls.length := by omega
      have HSE := Aside0.mk (show sumL ls 0 = some s by rw [← HS.out, List.drop_length]; rfl)
      have HR2 := Aside0.mk (HR.out.grows HG.out)
      have k1 := HR2.out.c1
      have HRE := Aside0.mk (show res = (keyB key && (decide ((ls.length : Int) ≤ 512) && ((s == size) && withinB s 1 65536))) by rw [HF.out]; unfold rootFineB; rw [HSE.out])
      have H1 := Aside0.mk (ky_is key)
      have H2 := Aside0.mk (win_is s 1 65536)
      generalize keyB key = b1 at H1 HRE
      generalize withinB s 1 65536 = b4 at H2 HRE
      clear c5
      cases b1 with
      | false =>
        go_wp2_with (go_at_call 18; refine (H1.out.run _).mono ?_; rintro e u5 ⟨rfl, hg⟩; have HG10 := Aside0.mk (HG.out.trans hg); clear hg)
        go_ret
        exact ⟨by rw [HRE.out]; rfl, HG10.out⟩
      | true =>
        by_cases h5 : ls.length ≤ 512
        · have d5 : decide ((ls.length : Int) ≤ 512) = true := decide_eq_true (by omega)
          have HD5 := Aside0.mk d5
          by_cases hs : s = size
          · subst hs
            go_wp2_with (first
              | (go_at_call 18; ((with_reducible refine (H1.out.run _).mono ?_)); rintro e u5 ⟨rfl, hg⟩; have HG10 := Aside0.mk (HG.out.trans hg); have k5 := (HR2.out.grows hg).c5; have k4 := (HR2.out.grows hg).c4; clear hg)
              | (go_at_call 22; ((with_reducible refine (H2.out.run _).mono ?_)); rintro e u6 ⟨rfl, hg⟩; have HG11 := Aside0.mk (HG10.out.trans hg); clear hg))
            go_ret
            exact ⟨by rw [HRE.out, HD5.out]; simp, HG11.out⟩
          · have ds : (s == size) = false := beq_eq_false_iff_ne.2 hs
            have HDS := Aside0.mk ds
            go_wp2_with (go_at_call 18; refine (H1.out.run _).mono ?_; rintro e u5 ⟨rfl, hg⟩; have HG10 := Aside0.mk (HG.out.trans hg); have k5 := (HR2.out.grows hg).c5; have k4 := (HR2.out.grows hg).c4; clear hg)
            go_ret
            exact ⟨by rw [HRE.out, HD5.out, HDS.out]; rfl, HG10.out⟩
        · have d5 : decide ((ls.length : Int) ≤ 512) = false := decide_eq_false (by omega)
          have HD5 := Aside0.mk d5
          go_wp2_with (go_at_call 18; refine (H1.out.run _).mono ?_; rintro e u5 ⟨rfl, hg⟩; have HG10 := Aside0.mk (HG.out.trans hg); have k5 := (HR2.out.grows hg).c5; clear hg)
          go_ret
          exact ⟨by rw [HRE.out, HD5.out]; rfl, HG10.out⟩
end Go.Proofs.Ytemnhgmgffdncaa
