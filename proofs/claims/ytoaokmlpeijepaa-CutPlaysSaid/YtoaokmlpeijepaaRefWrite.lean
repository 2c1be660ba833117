/-
  Layer 6: the document's Write: its walk.
-/
import Derived.Test.YtoaokmlpeijepaaRefRows
namespace Go.Proofs.Ytoaokmlpeijepaa
set_option linter.unusedVariables false
set_option linter.unusedSimpArgs false
open Go.RowKit Go.Proofs.YtoaokmlpeijepaaW.PrintWords

/-- Bytes that were just made. -/
def Made5 (B each : Nat) (ch : List Int) (v : Value) (W : World) : Prop := ∃ x : Nat × Nat, v = hdr each x ∧ Row5 W B x ch
/-- A row of their header alone. -/
def Made29 (B each : Nat) (ch : List Int) (v : Value) (W : World) : Prop := ∃ (q : Nat) (x : Nat × Nat), v = .slice (some ⟨q, 0, none⟩) 1 1 ∧ B ≤ q ∧ W.heap[q]? = some (.cells #[hdr each x] 29 (0, 0)) ∧ Row5 W B x ch
/-- The header is put behind the others. -/
def Put29 (B B0 each : Nat) (ch : List Int) (xs : List (Nat × Nat)) (v : Value) (W : World) : Prop := ∃ x : Nat × Nat, Row5 W B x ch ∧ OwnE W B0 29 1 v (xs ++ [x]).length ((xs ++ [x]).map (hdr each))
theorem Made5.keep {B each : Nat} {ch : List Int} {v : Value} {W W' : World} (h : Made5 B each ch v W) (hk : ∀ (k : Nat) (o : Obj), B ≤ k → W.heap[k]? = some o → W'.heap[k]? = some o) : Made5 B each ch v W' :=
  h.elim fun x h => ⟨x, h.1, h.2.kept fun cs fr hc => hk _ _ h.2.1 hc⟩
theorem Made29.keep {B each : Nat} {ch : List Int} {v : Value} {W W' : World} (h : Made29 B each ch v W) (hk : ∀ (k : Nat) (o : Obj), B ≤ k → W.heap[k]? = some o → W'.heap[k]? = some o) : Made29 B each ch v W' :=
  h.elim fun q h => h.elim fun x h => ⟨q, x, h.1, h.2.1, hk q _ h.2.1 h.2.2.1, h.2.2.2.kept fun cs fr hc => hk _ _ h.2.2.2.1 hc⟩
theorem Put29.grows {B B0 each : Nat} {ch : List Int} {xs : List (Nat × Nat)} {v : Value} {W W' : World} (h : Put29 B B0 each ch xs v W) (hg : Grows W W') : Put29 B B0 each ch xs v W' :=
  h.elim fun x hx => ⟨x, hx.1.kept (fun cs fr hc => (hg.block _ (lt_heap hc)).trans hc), hx.2.grows hg⟩
set_option maxRecDepth 100000 in
set_option maxHeartbeats 4000000 in
theorem rwrite_calls (g each : Nat) (all : Int) (L : List Int) (Ab : Option Addr) (m cb : Nat) (b : List Int) (w : World) (hc : RCut w g each all L) (hb : ReadsInt w .u8 Ab m b) (hu : u8s (L ++ b)) (he : 1 ≤ each) (he2 : each ≤ 4096)
    (hl : L.length + m ≤ 100000) (ha0 : 0 ≤ all) (ha1 : all ≤ 4611686018427387904) :
    Calls Try.prog 15 #[.pointer (some ⟨g, 0, none⟩), .slice Ab m cb] w fun e W' => ∃ v xs, e = .returned v ∧ RowsR W' w.heap.size v each xs ((List.range xs.length).map (chunk (L ++ b) each)) ∧ RCut W' g each (all + m) ((L ++ b).drop (each * xs.length)) ∧ each * xs.length ≤ (L ++ b).length ∧ (L ++ b).length < each * (xs.length + 1) ∧ w.grownBy W' (some g) := by
  have hgl := hc.lt
  have k1 := hc.c1
  have f1 := hc.fr 1
  have hwr : wrap64 (all + (m : Int)) = all + (m : Int) := IntWalk.wrap64_in _ ⟨by omega, by omega⟩
  have HC1 := Aside0.mk (hc.set1 (all + (m : Int)))
  have HG1 := Aside0.mk (grown_set w g 1 (.int .i64 (all + (m : Int))))
  have HB1 := Aside0.mk (reads_set (u := .int .i64 (all + (m : Int))) hb hc.c1 (fun z h => by cases h))
  have HBL := Aside0.mk hb.1
  have HU := Aside0.mk hu
  have HL := Aside0.mk hl
  clear hc hb hu
  go_enter Try.func15, Try.ntmps15
  go_upto_region 3 with fail
  clear k1 f1 hwr
  generalize w.setCell ⟨g, 1, none⟩ (.int .i64 (all + (m : Int))) = w1 at HC1 HG1 HB1 ⊢
  have hss : ¬ 9223372036854775807 < (strOfNums L).size + (strOfNums b).size := by rw [str_size, str_size, HBL.out]; omega
  have hsa := str_append L b
  apply wp_region_last (hL := by rfl) (hm := by kernel_rfl) (hB := by kernel_rfl) (hB2 := by kernel_rfl)
  case h =>
    simp only [List.dropLast_cons_cons, List.dropLast_singleton]
    iterate 10
      apply grow_fixed
      case hw => simp [Region.wanted, yielded]
      case ho =>
        intro w' hb hf
        clear hf
        have q2 := (HC1.out.grows hb).c2
        have hcs := conv_str (HB1.out.below hb) cb
        refine ⟨?_⟩
        go_simp
        exact ⟨Ext.refl _ _, rfl⟩
      simp only [Act.put, List.setIfInBounds_toArray, List.set_cons_zero, List.set_cons_succ]
    refine grow_nil (fun w2 hb hf => ?_)
    clear hf
    have HC2 := Aside0.mk ((HC1.out.grows hb).set2 (L ++ b))
    have HG2 := Aside0.mk (grown_trans HG1.out (grown_trans (grown_of_below hb (some g)) (grown_set w2 g 2 (.string (strOfNums (L ++ b))))))
    have q2 := (HC1.out.grows hb).c2
    have f2 := (HC1.out.grows hb).fr 2
    refine ⟨by simp [Region.wanted, yielded], ⟨?_⟩⟩
    go_simp
    simp only [growUpon]
    clear hss hsa q2 f2 hb
    generalize w2.setCell ⟨g, 2, none⟩ (.string (strOfNums (L ++ b))) = w3 at HC2 HG2 ⊢
    have HML := Aside0.mk (show (L ++ b).length = L.length + m by rw [List.length_append, HBL.out])
    generalize hM : L ++ b = M at HC2 HU HML ⊢
    have HMQ := Aside0.mk hM
    clear hM
    go_wp2
    go_loopg [5] M.length (fun f v5 wz => ∃ (xs : List (Nat × Nat)) (A5 : Option Addr) (c5 : Nat), v5 = .slice A5 xs.length c5 ∧ Aside0 (f = M.length - each * xs.length) ∧ Aside0 (each * xs.length ≤ M.length) ∧ Aside0 (RowsR wz w.heap.size (.slice A5 xs.length c5) each xs ((List.range xs.length).map (chunk M each))) ∧ Aside0 (RCut wz g each (all + (m : Int)) (M.drop (each * xs.length))) ∧ Aside0 (w.grownBy wz (some g)) ∧ Aside0 (∀ k, (Value.slice A5 xs.length c5).ownBlock = some k → w.heap.size ≤ k ∧ k < wz.heap.size))
    case atStart => exact ⟨[], none, 0, rfl, ⟨by simp⟩, ⟨by simp⟩, ⟨⟨OwnE.nil none, rfl, fun j x ch e => by simp at e⟩⟩, ⟨by simpa using HC2.out⟩, HG2, ⟨fun k h => by cases h⟩⟩
    case round =>
      obtain ⟨xs, A5, c5, rfl, HF, HLE, HR, HC, HG, HOB⟩ := hrel
      obtain ⟨LL, hLL⟩ : ∃ LL, LL = M.drop (each * xs.length) := ⟨_, rfl⟩
      have HLL := Aside0.mk hLL
      have hLLl : LL.length = M.length - each * xs.length := by rw [hLL, List.length_drop]
      rw [← hLL] at HC
      have hxl : xs.length ≤ each * xs.length := Nat.le_mul_of_pos_left _ (by omega)
      have hxs : (xs.length + 1) * 24 ≤ 140737488355328 := Nat.le_trans (Nat.mul_le_mul_right 24 (show xs.length + 1 ≤ 100001 by have := HLE.out; have := HML.out; omega)) (by decide)
      have HXS := Aside0.mk hxs
      have hLb : LL.length ≤ 9223372036854775807 := by have := HML.out; omega
      have HLLL := Aside0.mk hLLl
      have hsz := str_size LL
      clear hLL hLLl hxl hxs
      by_cases hge : each ≤ LL.length
      · have hd1 : decide (each ≤ LL.length) = true := by simpa using hge
        have hd2 : decide ((LL.length : Int) ≥ (each : Int)) = true := by simp; omega
        go_upto_region 4 with fail
        apply wp_region_phase Grows (KeepS (fun _ => False)) (phaseK _) (fun _ => True) trivial (fun _ _ _ _ => trivial) (hm := by kernel_rfl) (hB := by kernel_rfl)
        case h =>
          iterate 10
            apply phase_fixed
            case hw => simp [Region.wanted, yielded]
            case ho =>
              intro w' hk hf
              clear hf
              have q0 := (HC.out.keep hk (fun h => h)).c0
              have q2 := (HC.out.keep hk (fun h => h)).c2
              refine ⟨?_⟩
              go_simp
              exact ⟨Grows.refl _, rfl⟩
            simp only [Act.put, List.setIfInBounds_toArray, List.set_cons_zero, List.set_cons_succ]
          refine phase_nil (fun w4 hk _ hf => ?_)
          clear hf hd1 hd2
          have HC4 := Aside0.mk (HC.out.keep hk (fun h => h))
          have HR4 := Aside0.mk (HR.out.kept fun k cs t fr _ hc _ => (hk.block k (lt_heap hc) (fun h => h)).trans hc)
          have HG4 := Aside0.mk (show w.grownBy w4 (some g) from grown_trans HG.out ⟨hk.os, hk.tape, hk.output, hk.size, fun i hi _ => hk.block i hi (fun h => h)⟩)
          have HOB4 := Aside0.mk (show ∀ k, (Value.slice A5 xs.length c5).ownBlock = some k → w.heap.size ≤ k ∧ k < w4.heap.size from fun k e => ⟨(HOB.out k e).1, Nat.lt_of_lt_of_le (HOB.out k e).2 hk.size⟩)
          clear hk HC HR HG HOB
          go_upto_region 5 with fail
          have HUL := Aside0.mk (show u8s (LL.take each) from u8s_take (by rw [HLL.out]; exact u8s_drop HU.out _) _)
          have HTK := Aside0.mk (show (LL.take each).length = each by rw [List.length_take]; omega)
          have HCH := Aside0.mk (show LL.take each = chunk M each xs.length by rw [HLL.out]; rfl)
          have hbase : w.heap.size ≤ w4.heap.size := HG4.out.size
          have HNG := Aside0.mk (show ¬ (some g = (Value.slice A5 xs.length c5).ownBlock ∧ ∃ cs, w4.heap[g]? = some (Obj.cells cs 29 (0, 0))) from fun e => by
            obtain ⟨_, cs, e⟩ := e
            have h := HC4.out
            unfold RCut at h
            rw [h] at e
            injection e with e
            injection e with _ e
            cases e)
          apply wp_region_phase Grows (KeepS (fun k => some k = (Value.slice A5 xs.length c5).ownBlock ∧ ∃ cs, w4.heap[k]? = some (.cells cs 29 (0, 0)))) (phaseK _) (fun w' => OwnE w' w.heap.size 29 1 (.slice A5 xs.length c5) xs.length (xs.map (hdr each))) HR4.out.row (fun a c h hh => hh.grows h) (hm := by kernel_rfl) (hB := by kernel_rfl)
          case h =>
            iterate 9
              apply phase_fixed
              case hw => simp [Region.wanted, yielded]
              case ho =>
                intro w' hk hf
                clear hf
                have q0 := (HC4.out.keep hk HNG.out).c0
                have q2 := (HC4.out.keep hk HNG.out).c2
                refine ⟨?_⟩
                go_simp
                exact ⟨Grows.refl _, rfl⟩
              simp only [Act.put, List.setIfInBounds_toArray, List.set_cons_zero, List.set_cons_succ]
            apply phase_fixed (c := .string (strOfNums (LL.take each)))
            case hw => simp [Region.wanted, yielded]
            case ho =>
              intro w' hk hf
              clear hf
              have hcut := cut_to LL each hge w'
              refine ⟨?_⟩
              go_simp
              exact ⟨Grows.refl _, rfl⟩
            simp only [Act.put, List.setIfInBounds_toArray, List.set_cons_zero, List.set_cons_succ]
            apply phase_free (G := Made5 w4.heap.size each (LL.take each))
            case hw => simp [Region.wanted, yielded]
            case ho =>
              intro w' hk hf
              clear hf
              obtain ⟨c, w1', hr, hrow, hgr⟩ := conv_bytes w' (LL.take each) HUL.out
              rw [HTK.out] at hr
              refine ⟨?_⟩
              go_simp
              exact ⟨hgr, (w'.heap.size, c), rfl, ⟨Nat.le_trans hk.size hrow.1, hrow.2⟩⟩
            case hm => exact fun v a c h hk => h.keep (fun k o hB hc => (hk.block k (lt_heap hc) (fun e => by obtain ⟨_, cs', e⟩ := e; have := lt_heap e; omega)).trans hc)
            intro v46
            simp only [Act.put, List.setIfInBounds_toArray, List.set_cons_zero, List.set_cons_succ]
            apply phase_free (G := Made29 w4.heap.size each (LL.take each))
            case hw => simp [Region.wanted, yielded]
            case ho =>
              intro w' hk hf
              have h46 : Made5 w4.heap.size each (LL.take each) v46 w' := hf _ (List.Mem.head _) (by kernel_rfl)
              clear hf
              obtain ⟨x, e46, hx⟩ := h46
              subst e46
              refine ⟨?_⟩
              simp only [hdr]
              go_simp
              exact ⟨(Below.refl _ _).alloc (Nat.le_refl _) _, _, x, rfl, hk.size, heap_alloc_new w' _, hx.kept fun cs fr hc => (Below.heap_alloc _ _ _ (lt_heap hc)).trans hc⟩
            case hm => exact fun v a c h hk => h.keep (fun k o hB hc => (hk.block k (lt_heap hc) (fun e => by obtain ⟨_, cs', e⟩ := e; have := lt_heap e; omega)).trans hc)
            intro v47
            simp only [Act.put, List.setIfInBounds_toArray, List.set_cons_zero, List.set_cons_succ]
            apply phase_turn_free (G := fun v W => True) (J := Put29 w4.heap.size w.heap.size each (LL.take each) xs)
            case hw => simp [Region.wanted, yielded]
            case ho =>
              intro w' hk hf hI
              have h47 : Made29 w4.heap.size each (LL.take each) v47 w' := hf _ (List.Mem.head _) (by kernel_rfl)
              clear hf
              obtain ⟨q, x, e47, hq1, hq2, hx⟩ := h47
              subst e47
              have hqo : OwnE w' 0 29 1 (.slice (some ⟨q, 0, none⟩) 1 1) [x].length ([x].map (hdr each)) := .inr ⟨rfl, .inr ⟨q, 1, #[hdr each x], rfl, Nat.zero_le _, hq2, Nat.le_refl _, by decide, rfl, rfl⟩⟩
              obtain ⟨v', w'', hr, h3, h4⟩ := append_rows (B := w.heap.size) (each := each) (xs := xs) (ys := [x]) 33 hI hqo HXS.out (Nat.le_trans hbase hk.size)
              refine growAt_append (.tmp 36) (.tmp 47) 33 rfl rfl rfl ⟨v', w'', hr, h4.mono (fun k hlt e => ⟨e.2.1, ?_⟩), ⟨x, hx.kept fun cs fr hc => (h4.block _ (lt_heap hc) (fun e => ?_)).trans hc, h3⟩, trivial⟩
              · rcases Nat.lt_or_ge k w4.heap.size with h | h
                · by_cases hs : ∃ cs, w4.heap[k]? = some (Obj.cells cs 29 (0, 0))
                  · exact hs
                  · obtain ⟨_, _, cs, hcs⟩ := e
                    exact ⟨cs, (hk.block k h (fun e => hs e.2)).symm.trans hcs⟩
                · have := (HOB4.out k e.2.1.symm).2; omega
              · obtain ⟨_, _, cs', e⟩ := e
                rw [hc] at e
                injection e with e
                injection e with _ e
                cases e
            case hJ => exact fun v a c h hh => hh.grows h
            case hm => exact fun _ _ _ _ _ => trivial
            intro v48
            simp only [Act.put, List.setIfInBounds_toArray, List.set_cons_zero, List.set_cons_succ]
            apply phase_turn_free (G := fun v W => True) (J := Put29 w4.heap.size w.heap.size each (LL.take each) xs)
            case hw => simp [Region.wanted, yielded]
            case ho =>
              intro w' hk hf hI
              clear hf
              have HI := Aside0.mk hI
              clear hI
              refine ⟨?_⟩
              go_simp
              exact ⟨KeepS.refl _ _, HI.out⟩
            case hJ => exact fun v a c h hh => hh.grows h
            case hm => exact fun _ _ _ _ _ => trivial
            intro v5
            simp only [Act.put, List.setIfInBounds_toArray, List.set_cons_zero, List.set_cons_succ]
            refine phase_nil (fun w5 hk hI hf => ?_)
            clear hf
            obtain ⟨x, hx5, ho5⟩ := hI
            have HC5 := Aside0.mk (HC4.out.keep hk HNG.out)
            have HG5 := Aside0.mk (show w.grownBy w5 (some g) from ⟨hk.os.trans HG4.out.os, hk.tape.trans HG4.out.tape, hk.output.trans HG4.out.output, Nat.le_trans HG4.out.size hk.size, fun i hi hne => by
              rw [hk.block i (Nat.lt_of_lt_of_le hi HG4.out.size) (fun e => by have := (HOB4.out i e.1.symm).1; omega), HG4.out.block i hi hne]⟩)
            have HR5 := Aside0.mk (show RowsR w5 w.heap.size v5 each (xs ++ [x]) ((List.range (xs ++ [x]).length).map (chunk M each)) from by
              refine ⟨ho5, by simp, fun j y ch e1 e2 => ?_⟩
              have hjl : j < (xs ++ [x]).length := by
                rcases Nat.lt_or_ge j (xs ++ [x]).length with h | h
                · exact h
                · rw [List.getElem?_eq_none h] at e1; cases e1
              rw [List.getElem?_map, List.getElem?_range hjl] at e2
              obtain rfl := Option.some.inj e2
              rcases Nat.lt_or_ge j xs.length with hj | hj
              · rw [List.getElem?_append_left hj] at e1
                obtain ⟨h1, h2⟩ := HR4.out.piece j y (chunk M each j) e1 (by rw [List.getElem?_map, List.getElem?_range hj]; rfl)
                refine ⟨h1.kept fun cs fr hc => (hk.block _ (lt_heap hc) (fun e => ?_)).trans hc, h2⟩
                obtain ⟨_, cs', e⟩ := e
                rw [hc] at e
                injection e with e
                injection e with _ e
                cases e
              · rw [List.length_append, List.length_singleton] at hjl
                have hjx : j = xs.length := by omega
                subst hjx
                rw [List.getElem?_append_right (Nat.le_refl _), Nat.sub_self] at e1
                obtain rfl := Option.some.inj e1
                rw [← HCH.out]
                exact ⟨⟨Nat.le_trans hbase hx5.1, hx5.2⟩, HTK.out⟩)
            obtain ⟨A5', c5', rfl, hc5⟩ := ho5.slice
            have HOB5 := Aside0.mk (show ∀ k, (Value.slice A5' (xs ++ [x]).length c5').ownBlock = some k → w.heap.size ≤ k ∧ k < w5.heap.size from fun k e => by
              rcases ho5 with ⟨a, _, h0, _⟩ | h
              · simp at h0
              · exact h.lt k e)
            obtain ⟨n5, hn5⟩ : ∃ n5, n5 = (xs ++ [x]).length := ⟨_, rfl⟩
            have HN5 := Aside0.mk hn5
            rw [← hn5] at HR5 HOB5 ⊢
            clear hx5 ho5 hk hn5 hc5
            go_upto_region 6 with fail
            apply wp_region_last (hL := by rfl) (hm := by kernel_rfl) (hB := by kernel_rfl) (hB2 := by kernel_rfl)
            case h =>
              simp only [List.dropLast_cons_cons, List.dropLast_singleton]
              iterate 12
                apply grow_fixed
                case hw => simp [Region.wanted, yielded]
                case ho =>
                  intro w' hb hf
                  clear hf
                  have q0 := (HC5.out.grows hb).c0
                  have q2 := (HC5.out.grows hb).c2
                  have hcut := cut_off LL each hge w'
                  refine ⟨?_⟩
                  go_simp
                  exact ⟨Ext.refl _ _, rfl⟩
                simp only [Act.put, List.setIfInBounds_toArray, List.set_cons_zero, List.set_cons_succ]
              refine grow_nil (fun w6 hb hf => ?_)
              clear hf
              have HC6 := Aside0.mk ((HC5.out.grows hb).set2 (LL.drop each))
              have HG6 := Aside0.mk (grown_trans HG5.out (grown_trans (grown_of_below hb (some g)) (grown_set w6 g 2 (.string (strOfNums (LL.drop each))))))
              have HR6 := Aside0.mk (show RowsR (w6.setCell ⟨g, 2, none⟩ (.string (strOfNums (LL.drop each)))) w.heap.size _ each (xs ++ [x]) _ from (HR5.out.grows hb).kept fun k cs t fr _ hc ht => set_other w6 g 2 _ hc (fun e => by
                subst e
                have h := HC5.out.grows hb
                unfold RCut at h
                rw [h] at hc
                injection hc with hc
                injection hc with _ hc
                subst hc
                rcases ht with h | h <;> cases h))
              have HOB6 := Aside0.mk (show ∀ k, (Value.slice A5' n5 c5').ownBlock = some k → w.heap.size ≤ k ∧ k < (w6.setCell ⟨g, 2, none⟩ (.string (strOfNums (LL.drop each)))).heap.size from fun k e => ⟨(HOB5.out k e).1, by rw [World.size_setCell]; exact Nat.lt_of_lt_of_le (HOB5.out k e).2 hb.size⟩)
              have q2 := (HC5.out.grows hb).c2
              have f2 := (HC5.out.grows hb).fr 2
              refine ⟨by simp [Region.wanted, yielded], ⟨?_⟩⟩
              go_simp
              simp only [growUpon]
              clear q2 f2 hb
              generalize w6.setCell ⟨g, 2, none⟩ (.string (strOfNums (LL.drop each))) = w7 at HC6 HG6 HR6 HOB6 ⊢
              rw [HN5.out] at HR6 HOB6 ⊢
              go_wp2
              go_roundg (M.length - each * (xs.length + 1))
              case measure =>
                have h1 := HF.out
                have h2 := HLLL.out
                have h3 := HLE.out
                rw [Nat.mul_succ]
                omega
              case rel =>
                have hlen : (xs ++ [x]).length = xs.length + 1 := by simp
                refine ⟨xs ++ [x], A5', c5', rfl, ⟨by rw [hlen]⟩, ⟨?_⟩, HR6, ⟨?_⟩, HG6, HOB6⟩
                · rw [hlen, Nat.mul_succ]
                  have h2 := HLLL.out
                  have h3 := HLE.out
                  omega
                · have h := HC6.out
                  rw [HLL.out, List.drop_drop, ← Nat.mul_succ] at h
                  rw [hlen]; exact h
            case hsp => simp [monoAll]
          case ht => kernel_rfl
        case ht => kernel_rfl
      · have hd1 : decide (each ≤ LL.length) = false := by simpa using hge
        have hd2 : decide ((LL.length : Int) ≥ (each : Int)) = false := by simp; omega
        go_upto_region 4 with fail
        apply wp_region_phase Grows (KeepS (fun _ => False)) (phaseK _) (fun _ => True) trivial (fun _ _ _ _ => trivial) (hm := by kernel_rfl) (hB := by kernel_rfl)
        case h =>
          iterate 10
            apply phase_fixed
            case hw => simp [Region.wanted, yielded]
            case ho =>
              intro w' hk hf
              clear hf
              have q0 := (HC.out.keep hk (fun h => h)).c0
              have q2 := (HC.out.keep hk (fun h => h)).c2
              refine ⟨?_⟩
              go_simp
              exact ⟨Grows.refl _, rfl⟩
            simp only [Act.put, List.setIfInBounds_toArray, List.set_cons_zero, List.set_cons_succ]
          refine phase_nil (fun w4 hk _ hf => ?_)
          clear hf
          have HC4 := Aside0.mk (HC.out.keep hk (fun h => h))
          have HR4 := Aside0.mk (HR.out.kept fun k cs t fr _ hc _ => (hk.block k (lt_heap hc) (fun h => h)).trans hc)
          have HG4 := Aside0.mk (show w.grownBy w4 (some g) from grown_trans HG.out ⟨hk.os, hk.tape, hk.output, hk.size, fun i hi _ => hk.block i hi (fun h => h)⟩)
          clear hk
          go_wp2
          go_ret
          rw [HMQ.out]
          refine ⟨.slice A5 xs.length c5, xs, rfl, HR4.out, by rw [← HLL.out]; exact HC4.out, HLE.out, ?_, HG4.out⟩
          have h2 := HLLL.out
          have h3 := HLE.out
          rw [Nat.mul_succ]
          omega
        case ht => kernel_rfl
  case hsp => simp [monoAll]
end Go.Proofs.Ytoaokmlpeijepaa
