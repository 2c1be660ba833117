/-
  The law PinOnce: no number is a handle twice; no more are there than may be; what is closed is none.
-/
import Derived.Test.YtdfjacpfmjgfiaaLaws
namespace Go.Proofs.Ytdfjacpfmjgfiaa
set_option linter.unusedVariables false
set_option linter.unusedSimpArgs false
open Go.Shelf Go.RowKit Go.Proofs.YtdfjacpfmjgfiaaW.PrintWords Go.Proofs.YtdfjacpfmjgfiaaW.PrintMore PPinPlays
attribute [local go_sem] max2_int
/-- The state of a law over calls: so many are done. -/
structure OpSt (w W : World) (t : Nat) (most next : Int) (hl : HL) (B : Nat) : Prop where
  tab : AtR (fun k => k < w.heap.size) w W t most next hl
  bound : ∀ x ∈ hl, x.2.length ≤ B
/-- The box of one call, the law's own. -/
structure OpBox (R : Nat → Prop) (W : World) (b : Nat) (what hd sg : Int) (v : Value) : Prop where
  blk : W.heap[b]? = some (.cells #[.int .i64 what, .int .i64 hd, .int .i64 sg, v] 31 (0, 0))
  mine : R b
section
variable {R : Nat → Prop} {W : World} {b : Nat} {what hd sg : Int} {v : Value}
theorem OpBox.keep {W' : World} (h : OpBox R W b what hd sg v) (hk : KeepS (fun k => ¬ R k) W W') : OpBox R W' b what hd sg v := ⟨(hk.block b (lt_heap h.blk) fun hn => hn h.mine).trans h.blk, h.mine⟩
theorem OpBox.c0 (h : OpBox R W b what hd sg v) : W.cell? ⟨b, 0, none⟩ = some (.int .i64 what) := cell_of_row W b 0 _ 31 (0, 0) h.blk
theorem OpBox.c1 (h : OpBox R W b what hd sg v) : W.cell? ⟨b, 1, none⟩ = some (.int .i64 hd) := cell_of_row W b 1 _ 31 (0, 0) h.blk
theorem OpBox.c2 (h : OpBox R W b what hd sg v) : W.cell? ⟨b, 2, none⟩ = some (.int .i64 sg) := cell_of_row W b 2 _ 31 (0, 0) h.blk
theorem OpBox.c3 (h : OpBox R W b what hd sg v) : W.cell? ⟨b, 3, none⟩ = some v := cell_of_row W b 3 _ 31 (0, 0) h.blk
end
theorem AtR.less {R R' : Nat → Prop} {w W : World} {t : Nat} {most next : Int} {hl : HL} (h : AtR R w W t most next hl) (hs : ∀ k, R' k → R k) (hw : ∀ k, k < w.heap.size → R' k) : AtR R' w W t most next hl := ⟨h.tb.sub hs, h.keep, hw⟩
/-- A call's box is made. -/
theorem AtR.box {R : Nat → Prop} {w W : World} {t : Nat} {most next : Int} {hl : HL} (h : AtR R w W t most next hl) (what hd sg : Int) (v : Value) :
    ∃ R', AtR R' w (W.alloc (.cells #[.int .i64 what, .int .i64 hd, .int .i64 sg, v] 31)) t most next hl ∧ OpBox R' (W.alloc (.cells #[.int .i64 what, .int .i64 hd, .int .i64 sg, v] 31)) W.heap.size what hd sg v ∧ ∀ k, R k → R' k := by
  have g1 : Grows W (W.alloc (.cells #[.int .i64 what, .int .i64 hd, .int .i64 sg, v] 31)) := (Below.refl W.heap.size W).alloc (Nat.le_refl _) _
  have n1 := heap_alloc_new W (.cells #[.int .i64 what, .int .i64 hd, .int .i64 sg, v] 31)
  exact ⟨_, h.with (KeepS.of_grows g1) (keep_grows h.keep g1), ⟨n1, .inr ⟨Nat.le_refl _, lt_heap n1⟩⟩, fun k hk => .inl hk⟩
theorem del_bound {hl : HL} {B : Nat} (h : ∀ x ∈ hl, x.2.length ≤ B) (k : Int) : ∀ x ∈ delL hl k, x.2.length ≤ B := fun x hx => h x (List.mem_filter.1 hx).1
theorem pin_bound {hl : HL} {B : Nat} (h : ∀ x ∈ hl, x.2.length ≤ B) (k n : Int) : ∀ x ∈ pinL hl k n, x.2.length ≤ B + 1 := fun x hx => by
  obtain ⟨y, hy, rfl⟩ := List.mem_map.1 hx
  have h1 := h y hy
  have h2 := (ins_len y.2 n).1
  by_cases e : y.1 = k
  · rw [if_pos e]; show (ins y.2 n).length ≤ B + 1; omega
  · rw [if_neg e]; omega
theorem open_bound {hl : HL} {B : Nat} (h : ∀ x ∈ hl, x.2.length ≤ B) (k : Int) (xs : List Int) : ∀ x ∈ hl ++ [(k, insAll [] xs)], x.2.length ≤ B + xs.length := fun x hx => by
  rcases List.mem_append.1 hx with hx | hx
  · have := h x hx; omega
  · obtain rfl := List.mem_singleton.1 hx
    have := insAll_len xs []
    simp only [List.length_nil] at this
    show (insAll [] xs).length ≤ B + xs.length
    omega
theorem tot_take {l : List S31} {i : Nat} (hi : i < l.length) : tot (l.take (i + 1)) = tot (l.take i) + l[i].f3.length := by
  unfold tot; rw [List.take_succ_eq_append_getElem hi, List.map_append, List.sum_append]; simp
theorem tot_le (l : List S31) (i : Nat) : tot (l.take i) ≤ tot l := by
  conv => rhs; rw [← List.take_append_drop i l]
  unfold tot; rw [List.map_append, List.sum_append]; omega
theorem tot_at {l : List S31} {i : Nat} (hi : i < l.length) : tot (l.take i) + l[i].f3.length ≤ tot l := by rw [← tot_take hi]; exact tot_le l (i + 1)
theorem del_gone (hl : HL) (k : Int) : getL (delL hl k) k = none := getL_none.2 fun x hx => by have := (List.mem_filter.1 hx).2; simpa using this
/-- Whether a number is a handle, whatever else turns. -/
def IsAs (R : Nat → Prop) (w : World) (t : Nat) (most next hd : Int) (bb : Bool) (W : World) : Prop := ∃ hl', AtR R w W t most next hl' ∧ (getL hl' hd).isSome = bb
def OnceK (R : Nat → Prop) (w : World) (t : Nat) (most next hd : Int) (bb : Bool) (a b : World) : Prop := KeepS (fun k => ¬ R k) a b ∧ (IsAs R w t most next hd bb a → IsAs R w t most next hd bb b)
theorem onceK_phase (R : Nat → Prop) (w : World) (t : Nat) (most next hd : Int) (bb : Bool) : PhaseK Grows (OnceK R w t most next hd bb) :=
  ⟨fun a => ⟨KeepS.refl _ _, id⟩, fun h k => ⟨h.1.trans k.1, fun x => k.2 (h.2 x)⟩, fun h => ⟨KeepS.of_grows h, fun ⟨hl', h1, h2⟩ => ⟨hl', h1.grows h, h2⟩⟩, fun a => (Below.refl a.heap.size a).drew⟩
theorem pin_isSome {hl : HL} (h : Keyed' hl) (k n : Int) : (getL (pinL hl k n) k).isSome = (getL hl k).isSome := by
  rw [Bool.eq_iff_iff, getL_some, getL_some, pinL_keys]
set_option maxRecDepth 100000 in
set_option maxHeartbeats 4000000 in
theorem once_calls (w : World) (m : Nat) (hm : m < 256) {A1 : Option Addr} {c1 : Nat} (l : List S31) (hr : Kd.C k31 w A1 l.length l) (hc1 : l.length ≤ c1) (hl : l.length ≤ 4611686018427387904) :
    Calls Try.prog 5 #[.int .u8 m, .slice A1 l.length c1] w fun e w' => e = .returned (.bool true) ∧ Below w.heap.size w w' := by
  obtain ⟨kg, rg, hgr, hgf⟩ := great_tells l hl
  have HR := Aside0.mk hr
  have HGR := Aside0.mk hgr
  have HGF := Aside0.mk hgf
  clear hr hgr hgf
  have hu : IntKind.i64.wrap (m : Int) = m := IntWalk.i64_in _ ⟨by omega, by omega⟩
  go_enter Try.func5, Try.ntmps5
  go_upto_region 2 with (go_at_call 9; refine (head_calls _).mono ?_; rintro e w1 ⟨rfl, hb⟩; have HB := Aside0.mk hb; clear hb)
  go_upto_region 4 with (go_at_call 10; refine (atR_new w _ HB.out (1 + (m : Int)) (by omega)).mono ?_; rintro e w2 ⟨t, rfl, hA⟩; have HA := Aside0.mk hA; clear hA)
  clear HB
  cases rg with
  | true =>
    go_wp2_with (go_at_call 12; refine (souterrainlaw17_great.calls kg A1 c1 l true _ (Kd.C_below HR.out HA.out.below) hc1 HGR.out).mono ?_; rintro e w3 ⟨rfl, hb2⟩; have HB2 := Aside0.mk (HA.out.grows hb2); clear hb2)
    go_ret
    exact ⟨rfl, HB2.out.below⟩
  | false =>
    have HTOT := Aside0.mk (HGF.out rfl).1
    have hl3 := (HGF.out rfl).2
    go_upto_region 6 with (go_at_call 12; refine (souterrainlaw17_great.calls kg A1 c1 l false _ (Kd.C_below HR.out HA.out.below) hc1 HGR.out).mono ?_; rintro e w3 ⟨rfl, hb2⟩; have HA3 := Aside0.mk (HA.out.grows hb2); clear hb2 HA)
    go_wp2
    go_loopg [8, 9, 10] l.length (fun f v8 v9 v10 wr => ∃ (i : Nat) (last : Int) (hl : HL) (next : Int), Aside0 (f + i = l.length) ∧ i ≤ l.length ∧ v10 = .int .i64 i ∧ v9 = .int .i64 hl.length ∧ v8 = .int .i64 last ∧ last < next ∧ 1 ≤ next ∧ next ≤ i + 1 ∧ hl.length ≤ i ∧ Aside0 (OpSt w wr t (1 + (m : Int)) next hl (i + tot (l.take i)) ∧ 0 ≤ last))
    case atStart => exact ⟨0, 0, [], 1, ⟨by omega⟩, by omega, rfl, rfl, rfl, by omega, by omega, by omega, by simp, ⟨⟨HA3.out, fun x hx => by cases hx⟩, by omega⟩⟩
    case round =>
      clear HA3
      obtain ⟨i, last, hl, next, HF, hi, rfl, rfl, rfl, hn1, hn2, hn3, hhl, HS⟩ := hrel
      by_cases hlt : i < l.length
      · obtain ⟨ad, A3, c3, rfl, h0, h1, h2, h3, hcc, hrr⟩ := op_at HR.out HS.out.1.tab.below hlt
        obtain ⟨x, hx⟩ : ∃ x, x = l[i] := ⟨_, rfl⟩
        rw [← hx] at h0 h1 h2 h3 hcc hrr
        have HX := Aside0.mk hx
        clear hx
        obtain ⟨what, hd, sg, sgs⟩ := x
        simp only at h0 h1 h2 h3 hcc hrr
        have HRR := Aside0.mk hrr
        clear hrr
        have HT := Aside0.mk HS.out.1.tab
        have HB := Aside0.mk HS.out.1.bound
        have HLo := Aside0.mk HS.out.2
        have HTA := Aside0.mk (tot_at hlt)
        have HTT := Aside0.mk (tot_take hlt)
        rw [← HX.out] at HTA HTT
        clear HS
        have hB9 : i + tot (l.take i) ≤ 9000 := by have := HTA.out; have := HTOT.out; omega
        have hX9 : sgs.length ≤ 9000 := by have h1 := HTA.out; have h2 := HTOT.out; dsimp only at h1; omega
        go_upto_region 12 with fail
        obtain ⟨R, hA, hX, _⟩ := HT.out.box what hd sg (.slice A3 sgs.length c3)
        generalize wr.alloc (Obj.cells #[Value.int IntKind.i64 what, Value.int IntKind.i64 hd, Value.int IntKind.i64 sg, Value.slice A3 sgs.length c3] 31) = W1 at hA hX ⊢
        generalize wr.heap.size = b at hX ⊢
        have HA := Aside0.mk hA
        have HBX := Aside0.mk hX
        have c0 := hX.c0
        have c1' := hX.c1
        clear hA hX h0 h1 h2 h3 HT
        by_cases hw3 : what = 3
        · have hw3b : (what == 3) = true := beq_iff_eq.2 hw3
          clear hw3
          cases hbb : (getL hl hd).isSome with
          | false =>
            have hg : getL hl hd = none := by cases h : getL hl hd with | none => rfl | some q => rw [h] at hbb; cases hbb
            have HIs := Aside0.mk (is_tb HA.out.tb hd)
            rw [hbb] at HIs
            have HC := Aside0.mk (closeq_tb HA.out.tb hd hg)
            have HM := Aside0.mk (many_tb HA.out.tb)
            clear hg hbb
            go_wp2_with (first
              | (go_at_call 21; refine HIs.out.mono ?_; rintro e w4 ⟨rfl, rfl⟩)
              | (go_at_call 15; refine HC.out.mono ?_; rintro e w4 ⟨rfl, rfl⟩)
              | (go_at_call 19; refine HM.out.mono ?_; rintro e w4 ⟨rfl, rfl⟩))
            go_roundg (l.length - (i + 1))
            case measure => have := HF.out; omega
            case rel => exact ⟨i + 1, last, hl, next, ⟨by omega⟩, by omega, by go_num, rfl, rfl, hn1, hn2, by omega, by omega, ⟨⟨HA.out.less HA.out.sub (fun k h => h), fun x hx => by have := HB.out x hx; have := HTT.out; omega⟩, HLo.out⟩⟩
          | true =>
            have HIs := Aside0.mk (is_tb HA.out.tb hd)
            rw [hbb] at HIs
            have HC := Aside0.mk (atR_close HA.out (fun x hx => Nat.le_trans (HB.out x hx) (by omega)) (by omega) hd)
            rw [hbb] at HC
            have hdl := del_len HA.out.tb.hok.keyed hbb
            have hne : (((delL hl hd).length : Int) != (hl.length : Int) - 1) = false := by simp; omega
            have HDL := Aside0.mk hdl
            clear hdl hbb
            go_upto_region 14 with (go_at_call 21; refine HIs.out.mono ?_; rintro e w4 ⟨rfl, rfl⟩)
            clear HIs
            go_wp2_with (first
              | (go_at_call 15; refine HC.out.mono ?_; rintro e w4 ⟨rfl, hA4, hK4⟩; have HA4 := Aside0.mk hA4; have q1 := (HBX.out.keep hK4).c1; have HIs := Aside0.mk (is_tb hA4.tb hd); rw [del_gone] at HIs; have HM := Aside0.mk (many_tb hA4.tb); clear hA4 hK4)
              | (go_at_call 21; refine HIs.out.mono ?_; rintro e w5 ⟨rfl, rfl⟩)
              | (go_at_call 19; refine HM.out.mono ?_; rintro e w5 ⟨rfl, rfl⟩))
            go_roundg (l.length - (i + 1))
            case measure => have := HF.out; omega
            case rel => exact ⟨i + 1, last, delL hl hd, next, ⟨by omega⟩, by omega, by go_num, (by have := HDL.out; exact congrArg (Value.int .i64) (by omega)), rfl, hn1, hn2, by omega, by have := HDL.out; omega, ⟨⟨HA4.out.less HA4.out.sub (fun k h => h), fun x hx => by have := del_bound HB.out hd x hx; have := HTT.out; omega⟩, HLo.out⟩⟩
        · have hw3b : (what == 3) = false := beq_eq_false_iff_ne.2 hw3
          clear hw3
          by_cases hw2 : what = 2
          · have hw2b : (what == 2) = true := beq_iff_eq.2 hw2
            clear hw2
            obtain ⟨bb, hbb⟩ : ∃ bb, (getL hl hd).isSome = bb := ⟨_, rfl⟩
            have HBB := Aside0.mk hbb
            clear hbb
            go_upto_region 19 with fail
            apply wp_region_phase Grows (OnceK R w t (1 + (m : Int)) next hd bb) (onceK_phase R w t (1 + (m : Int)) next hd bb) (fun W => AtR R w W t (1 + (m : Int)) next hl) HA.out (fun a c h hh => hh.grows h) (hm := by kernel_rfl) (hB := by kernel_rfl)
            case h =>
              iterate 2
                apply phase_fixed
                case hw => simp [Region.wanted, yielded]
                case ho =>
                  intro w' hk hf
                  clear hf
                  refine ⟨?_⟩
                  go_simp
                  exact ⟨Grows.refl _, rfl⟩
                simp only [Act.put, List.setIfInBounds_toArray, List.set_cons_zero, List.set_cons_succ]
              iterate 1
                apply phase_fixed
                case hw => simp [Region.wanted, yielded]
                case ho =>
                  intro w' hk hf
                  clear hf
                  have q1 := (HBX.out.keep hk.1).c1
                  refine ⟨?_⟩
                  go_simp
                  exact ⟨Grows.refl _, rfl⟩
                simp only [Act.put, List.setIfInBounds_toArray, List.set_cons_zero, List.set_cons_succ]
              iterate 1
                apply phase_fixed
                case hw => simp [Region.wanted, yielded]
                case ho =>
                  intro w' hk hf
                  clear hf
                  refine ⟨?_⟩
                  go_simp
                  exact ⟨Grows.refl _, rfl⟩
                simp only [Act.put, List.setIfInBounds_toArray, List.set_cons_zero, List.set_cons_succ]
              iterate 1
                apply phase_fixed
                case hw => simp [Region.wanted, yielded]
                case ho =>
                  intro w' hk hf
                  clear hf
                  have q2 := (HBX.out.keep hk.1).c2
                  refine ⟨?_⟩
                  go_simp
                  exact ⟨Grows.refl _, rfl⟩
                simp only [Act.put, List.setIfInBounds_toArray, List.set_cons_zero, List.set_cons_succ]
              apply phase_turn (c := .bool bb) (J := (fun W => AtR R w W t (1 + (m : Int)) next (pinL hl hd sg)))
              case hw => simp [Region.wanted, yielded]
              case ho =>
                intro w' hk hf hI
                clear hf
                have HI := Aside0.mk hI
                clear hI
                refine ⟨?_⟩
                go_simp
                refine (atR_pin HI.out (fun x hx => Nat.le_trans (HB.out x hx) (by omega)) (by omega) hd sg).mono fun e w2 h => ⟨_, h.1, ⟨h.2.2, fun _ => ⟨_, h.2.1, ?_⟩⟩, h.2.1, by rw [HBB.out]⟩
                rw [pin_isSome HI.out.tb.hok.keyed]; exact HBB.out
              case hJ => exact fun a c h hh => hh.grows h
              simp only [Act.put, List.setIfInBounds_toArray, List.set_cons_zero, List.set_cons_succ]
              iterate 2
                apply phase_fixed
                case hw => simp [Region.wanted, yielded]
                case ho =>
                  intro w' hk hf
                  clear hf
                  refine ⟨?_⟩
                  go_simp
                  exact ⟨Grows.refl _, rfl⟩
                simp only [Act.put, List.setIfInBounds_toArray, List.set_cons_zero, List.set_cons_succ]
              iterate 1
                apply phase_fixed
                case hw => simp [Region.wanted, yielded]
                case ho =>
                  intro w' hk hf
                  clear hf
                  have q1 := (HBX.out.keep hk.1).c1
                  refine ⟨?_⟩
                  go_simp
                  exact ⟨Grows.refl _, rfl⟩
                simp only [Act.put, List.setIfInBounds_toArray, List.set_cons_zero, List.set_cons_succ]
              apply phase_fixed (c := .bool bb)
              case hw => simp [Region.wanted, yielded]
              case ho =>
                intro w' hk hf
                clear hf
                obtain ⟨hl', h1, h2⟩ := hk.2 ⟨hl, HA.out, HBB.out⟩
                have H1 := Aside0.mk h1
                clear h1
                refine ⟨?_⟩
                go_simp
                exact (is_tb H1.out.tb hd).mono fun e w2 h => ⟨_, h.1, by rw [h.2]; exact Grows.refl _, by rw [h2]⟩
              simp only [Act.put, List.setIfInBounds_toArray, List.set_cons_zero, List.set_cons_succ]
              apply phase_fixed (c := .bool false)
              case hw => simp [Region.wanted, yielded]
              case ho =>
                intro w' hk hf
                clear hf
                refine ⟨?_⟩
                go_simp
                exact ⟨Grows.refl _, by simp⟩
              simp only [Act.put, List.setIfInBounds_toArray, List.set_cons_zero, List.set_cons_succ]
              refine phase_nil fun w4 hk hI hf => ?_
              have HA4 := Aside0.mk hI
              clear hk hI hf
              have HM := Aside0.mk (many_tb HA4.out.tb)
              rw [show (pinL hl hd sg).length = hl.length by unfold pinL; rw [List.length_map]] at HM
              go_wp2_with (go_at_call 19; refine HM.out.mono ?_; rintro e w5 ⟨rfl, rfl⟩)
              go_roundg (l.length - (i + 1))
              case measure => have := HF.out; omega
              case rel => exact ⟨i + 1, last, pinL hl hd sg, next, ⟨by omega⟩, by omega, by go_num, (by unfold pinL; rw [List.length_map]), rfl, hn1, hn2, by omega, (by unfold pinL; rw [List.length_map]; omega), ⟨⟨HA4.out.less HA4.out.sub (fun k h => h), fun x hx => by have := pin_bound HB.out hd sg x hx; have := HTT.out; omega⟩, HLo.out⟩⟩
            case ht => kernel_rfl

          · have hw2b : (what == 2) = false := beq_eq_false_iff_ne.2 hw2
            clear hw2
            have hX3 := HBX.out.c3
            by_cases hfl : hl.length < 1 + m
            · have hfd : decide ((hl.length : Int) < 1 + (m : Int)) = true := by simp; omega
              have HC := Aside0.mk (atR_open (c := c3) HA.out (by omega) (fun x hx => Nat.le_trans (HB.out x hx) (by omega)) (by omega) hn2 (by omega) (HA.out.reads HRR.out).2 (by omega))
              have hdl : decide (next ≤ last) = false := by simp; omega
              clear hfl
              go_upto_region 22 with (go_at_call 17; refine HC.out.mono ?_; clear HC; rintro e w4 ⟨rfl, hA4, hK4⟩; have HA4 := Aside0.mk hA4; clear hA4 hK4)
              have HIs := Aside0.mk (is_tb HA4.out.tb next)
              rw [show (getL (hl ++ [(next, insAll [] sgs)]) next).isSome = true from getL_some.2 (by simp)] at HIs
              have HM := Aside0.mk (many_tb HA4.out.tb)
              rw [show (hl ++ [(next, insAll [] sgs)]).length = hl.length + 1 by simp] at HM
              go_wp2_with (first
                | (go_at_call 21; refine HIs.out.mono ?_; rintro e w5 ⟨rfl, rfl⟩)
                | (go_at_call 19; refine HM.out.mono ?_; rintro e w5 ⟨rfl, rfl⟩))
              go_roundg (l.length - (i + 1))
              case measure => have := HF.out; omega
              case rel => exact ⟨i + 1, next, hl ++ [(next, insAll [] sgs)], next + 1, ⟨by omega⟩, by omega, by go_num, (by rw [List.length_append]; rfl), rfl, by omega, by omega, by omega, by simp; omega, ⟨⟨HA4.out.less HA4.out.sub (fun k h => h), fun x hx => by have := open_bound HB.out next sgs x hx; have := HTT.out; omega⟩, by omega⟩⟩
            · have hfd : decide ((hl.length : Int) < 1 + (m : Int)) = false := by simp; omega
              have HC := Aside0.mk (atR_full HA.out (by omega) (.slice A3 sgs.length c3))
              clear hfl
              go_upto_region 22 with (go_at_call 17; refine HC.out.mono ?_; clear HC; rintro e w4 ⟨rfl, hA4, hK4⟩; have HA4 := Aside0.mk hA4; clear hA4 hK4)
              have HM := Aside0.mk (many_tb HA4.out.tb)
              go_wp2_with (go_at_call 19; refine HM.out.mono ?_; rintro e w5 ⟨rfl, rfl⟩)
              go_roundg (l.length - (i + 1))
              case measure => have := HF.out; omega
              case rel => exact ⟨i + 1, last, hl, next, ⟨by omega⟩, by omega, by go_num, rfl, rfl, hn1, hn2, by omega, by omega, ⟨⟨HA4.out.less HA4.out.sub (fun k h => h), fun x hx => by have := HB.out x hx; have := HTT.out; omega⟩, HLo.out⟩⟩
      · go_wp2
        go_ret
        exact ⟨rfl, HS.out.1.tab.below⟩
end Go.Proofs.Ytdfjacpfmjgfiaa
