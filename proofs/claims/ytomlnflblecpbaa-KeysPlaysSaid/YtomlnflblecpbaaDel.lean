/-
  Layer 13: slices.Delete of one place (under way).
-/
import Derived.Test.YtomlnflblecpbaaPut
import Derived.Laws.OwnMore
namespace Go.Proofs.Ytomlnflblecpbaa
set_option linter.unusedVariables false
set_option linter.unusedSimpArgs false
open Go.RowKit Go.Proofs.YtomlnflblecpbaaW.PrintWords Go.Proofs.YtomlnflblecpbaaW.PrintMore
attribute [local go_sem] max2_int min2_int
theorem own_take {W : World} {b c : Nat} {l : List Pl} (h : W.ownsRow 0 32 5 (.slice (some ⟨b, 0, none⟩) l.length c) l.length (flatP l)) (i : Nat) (hi : i ≤ l.length) :
    W.ownsRow 0 32 5 (.slice (some ⟨b, 0, none⟩) i c) i (flatP (l.take i)) := by
  rcases h.2 with ⟨h, _⟩ | ⟨b', cap, cur, hv, hBb, hb, hc, hcm, hcs, hcur⟩
  · cases h
  · obtain ⟨e1, e2⟩ := slice_inj hv
    subst e1 e2
    refine ⟨by rw [flatP_len, List.length_take, Nat.min_eq_left hi], .inr ⟨b, c, cur, rfl, hBb, hb, by omega, hcm, hcs, ?_⟩⟩
    rw [flatP_take, ← hcur, List.take_take, Nat.min_eq_left (by omega)]
/-- append(s[:i], s[i+1:]...) of a row of one's own. -/
theorem close_run {W : World} {b c : Nat} {l : List Pl} (h : W.ownsRow 0 32 5 (.slice (some ⟨b, 0, none⟩) l.length c) l.length (flatP l)) {i : Nat} (hi : i < l.length) (a : Addr) (c2 : Nat) (ha : i + 1 < l.length → a = ⟨b, (i + 1) * 5, none⟩) :
    ∃ w', (Builtin.append_ #[48, 48] 48 #[.slice (some ⟨b, 0, none⟩) i c, .slice (some a) (l.length - (i + 1)) c2]).run Try.prog W = .ok (.slice (some ⟨b, 0, none⟩) (l.length - 1) c) w' ∧
      w'.ownsRow 0 32 5 (.slice (some ⟨b, 0, none⟩) (l.length - 1) c) (l.length - 1) (flatP (l.take i ++ l.drop (i + 1))) ∧ W.grownBy w' (some b) := by
  obtain ⟨i0, hi0, hz0, hz1, hz2⟩ := parts3 info32
  obtain ⟨A, c', e, hc, hr⟩ := reads_of_own h
  obtain ⟨_, e2⟩ : some (⟨b, 0, none⟩ : Addr) = A ∧ c = c' := by injection e with e1 _ e3; exact ⟨e1, e3⟩
  have hcells : ∀ j u, (flatP l)[j]? = some u → W.cell? ⟨b, j, none⟩ = some u := by
    rcases h.2 with ⟨h, _⟩ | ⟨b', cap, cur, hv, hBb, hb, hc, hcm, hcs, hcur⟩
    · cases h
    · obtain ⟨e1, e2⟩ := slice_inj hv
      subst e1 e2
      intro j u hu
      rw [cell_of_row W b j cur 32 (0, 0) hb, ← Array.getElem?_toList]
      rw [← hcur, List.getElem?_take] at hu
      split at hu
      · exact hu
      · cases hu
  obtain ⟨w1, hrun, ho, hg⟩ := run_append_fits (P := Try.prog) W 0 48 48 32 i0 5 Try.underlying48 hi0 hz1 b i c (flatP (l.take i)) (own_take h i (by omega)) a (l.length - (i + 1)) c2 (flatP (l.drop (i + 1)))
    (by rw [flatP_len, List.length_drop]) (fun j u hu => by
      have hlt : i + 1 < l.length := by
        rcases Nat.lt_or_ge (i + 1) l.length with h | h
        · exact h
        · rw [List.drop_eq_nil_of_le h] at hu; simp [flatP] at hu
      rw [ha hlt]
      have hadd : (⟨b, (i + 1) * 5, none⟩ : Addr).add j = ⟨b, (i + 1) * 5 + j, none⟩ := by unfold Addr.add; split <;> simp_all
      rw [hadd]
      rw [flatP_drop, List.getElem?_drop] at hu
      exact hcells _ _ hu) (flatP_one _) (by omega)
  have e3 : i + (l.length - (i + 1)) = l.length - 1 := by omega
  rw [e3] at hrun ho
  rw [← flatP_app] at ho
  exact ⟨w1, hrun, ho, hg⟩
theorem zero32 (w : World) : (zeroValue 32).run Try.prog w = .ok (.agg zeroPl.cells) w := by
  have e : (Try.prog.info? 32).map (fun i => i.zero) = some (some (.agg zeroPl.cells)) := by kernel_rfl
  obtain ⟨i, hi, hz⟩ := Option.map_eq_some_iff.1 e
  simp [zeroValue, typeInfo, hi, hz]
/-- clear of the last place of what was a row. -/
theorem clear_run {W : World} {b k c cc : Nat} {l : List Pl} (h : W.ownsRow 0 32 5 (.slice (some ⟨b, 0, none⟩) k c) k (flatP l)) (hk : k + 1 ≤ c) :
    ∃ w', (Builtin.clear_ #[48] 0 #[.slice (some ⟨b, k * 5, none⟩) 1 cc]).run Try.prog W = .ok (.tuple #[]) w' ∧ w'.ownsRow 0 32 5 (.slice (some ⟨b, 0, none⟩) k c) k (flatP l) ∧ W.grownBy w' (some b) := by
  rcases h.2 with ⟨h, _⟩ | ⟨b', cap, cur, hv, hBb, hb, hc, hcm, hcs, hcur⟩
  · cases h
  · obtain ⟨e1, e2⟩ := slice_inj hv
    subst e1 e2
    have hfit : k * 5 + zeroPl.vals.length ≤ cur.size := by rw [hcs, show zeroPl.vals.length = 5 from rfl]; omega
    have hst := run_storeCells_at Try.prog b (k * 5) 32 zeroPl.vals 0 cur W hb (by simpa using hfit) (fun u hu => flatP_one [zeroPl] u (by simpa [flatP] using hu))
    simp only [Nat.add_zero] at hst
    have hz5 : (Builtin.zeroCells zeroPl.cells 1).toList = zeroPl.vals := by kernel_rfl
    have hz6 : (Builtin.zeroCells (Value.agg zeroPl.cells).cells 1).toList = zeroPl.vals := by kernel_rfl
    obtain ⟨R, hR⟩ : ∃ R, R = (List.take (k * 5) cur.toList ++ zeroPl.vals ++ List.drop (k * 5 + zeroPl.vals.length) cur.toList).toArray := ⟨_, rfl⟩
    rw [← hR] at hst
    refine ⟨W.setRow b R, ?_, ⟨h.1, .inr ⟨b, c, R, rfl, hBb, setRow_heap W b cur R 32 _ hb, hc, hcm, ?_, ?_⟩⟩, ⟨rfl, rfl, rfl, by simp, fun k _ hk => setRow_other W b k _ (fun e => hk (by simp [e]))⟩⟩
    rotate_left
    · rw [hR]
      simp only [List.size_toArray, List.length_append, List.length_take, List.length_drop, Array.length_toList]
      omega
    · rw [hR]
      show List.take (k * 5) (List.take (k * 5) cur.toList ++ zeroPl.vals ++ List.drop (k * 5 + zeroPl.vals.length) cur.toList) = flatP l
      rw [List.append_assoc, List.take_append_of_le_length (by rw [List.length_take, Array.length_toList]; omega), List.take_take, Nat.min_self]
      exact hcur
    · simp only [Builtin.clear_, run_underlying Try.underlying48, Sem.run_bind, Result.andThen_ok]
      simp [run_underlying Try.underlying48, zero32, hz6, hst, Result.andThen]
      rw [show (Builtin.zeroCells (Value.agg #[.int .i64 0, .int .i64 0, .string ⟨#[]⟩, .int .i64 0, .int .i64 0]).cells 1).toList = zeroPl.vals by kernel_rfl, hst]
end Go.Proofs.Ytomlnflblecpbaa

/-
  Layer 13: slices.Delete of one place: its walk.
-/
namespace Go.Proofs.Ytomlnflblecpbaa
set_option linter.unusedVariables false
set_option linter.unusedSimpArgs false
open Go.RowKit Go.Proofs.YtomlnflblecpbaaW.PrintWords Go.Proofs.YtomlnflblecpbaaW.PrintMore
attribute [local go_sem] max2_int min2_int
set_option maxRecDepth 100000 in
set_option maxHeartbeats 2000000 in
theorem delete_calls {W : World} {b c : Nat} {l : List Pl} (h : W.ownsRow 0 32 5 (.slice (some ⟨b, 0, none⟩) l.length c) l.length (flatP l)) {i : Nat} (hi : i < l.length) (hl : l.length ≤ 1000000) (hc : l.length ≤ c) :
    Calls Try.prog 28 #[.slice (some ⟨b, 0, none⟩) l.length c, .int .i64 i, .int .i64 ((i : Int) + 1)] W fun e w' => e = .returned (.slice (some ⟨b, 0, none⟩) (l.length - 1) c) ∧
      w'.ownsRow 0 32 5 (.slice (some ⟨b, 0, none⟩) (l.length - 1) c) (l.length - 1) (flatP (l.take i ++ l.drop (i + 1))) ∧ W.grownBy w' (some b) := by
  have H := Aside0.mk h
  clear h
  have hik : i + 1 ≤ l.length := by omega
  have hic : i ≤ c := by omega
  have hic1 : i + 1 ≤ c := by omega
  have hw2 : (0 : Int) ≤ (i : Int) + 1 := by omega
  have hw3 : ((i : Int) + 1).toNat = i + 1 := by omega
  have hw4 : (i : Int) + 1 ≤ (l.length : Int) := by omega
  have hw5 : (i : Int) ≤ (i : Int) + 1 := by omega
  have hne : ((i : Int) == (i : Int) + 1) = false := by rw [beq_eq_false_iff_ne]; omega
  have hw6 : (l.length : Int) ≤ (c : Int) := by omega
  go_enter Try.func28, Try.ntmps28
  obtain ⟨a, ha⟩ : ∃ a : Addr, a = (if c = i + 1 then ⟨b, 0, none⟩ else ⟨b, (i + 1) * 5, none⟩) := ⟨_, rfl⟩
  have HA := Aside0.mk (show i + 1 < l.length → a = ⟨b, (i + 1) * 5, none⟩ from fun h => by rw [ha, if_neg (by omega)])
  have hA2 : (if c = i + 1 then some (⟨b, 0, none⟩ : Addr) else some ⟨b, (i + 1) * 5, none⟩) = some a := by rw [ha]; split <;> rfl
  clear ha
  go_upto_region 5 with fail
  apply wp_region_phase_last (K0 := Grows) (K := KeepS (fun k => k = b)) (hK := phaseK _) (I0 := fun W' => W'.ownsRow 0 32 5 (.slice (some ⟨b, 0, none⟩) l.length c) l.length (flatP l)) (h0 := H.out) (hI := fun _ _ h hg => own_grows hg h) (hL := by rfl) (hm := by kernel_rfl) (hB := by kernel_rfl) (hB2 := by kernel_rfl)
  case h =>
    simp only [List.dropLast_cons_cons, List.dropLast_singleton]
    apply phase_fixed
    case hw => simp [Region.wanted, yielded]
    case ho =>
      intro w3 hk hf
      clear hf
      refine ⟨?_⟩
      go_simp
      exact ⟨Grows.refl _, rfl⟩
    simp only [Act.put, List.setIfInBounds_toArray, List.set_cons_zero, List.set_cons_succ]
    apply phase_fixed
    case hw => simp [Region.wanted, yielded]
    case ho =>
      intro w3 hk hf
      clear hf
      refine ⟨?_⟩
      go_simp
      exact ⟨Grows.refl _, rfl⟩
    simp only [Act.put, List.setIfInBounds_toArray, List.set_cons_zero, List.set_cons_succ]
    apply phase_fixed (c := .slice (some ⟨b, 0, none⟩) i c)
    case hw => simp [Region.wanted, yielded]
    case ho =>
      intro w3 hk hf
      clear hf
      refine ⟨?_⟩
      go_simp
      exact ⟨Grows.refl _, rfl⟩
    simp only [Act.put, List.setIfInBounds_toArray, List.set_cons_zero, List.set_cons_succ]
    apply phase_fixed
    case hw => simp [Region.wanted, yielded]
    case ho =>
      intro w3 hk hf
      clear hf
      refine ⟨?_⟩
      go_simp
      exact ⟨Grows.refl _, rfl⟩
    simp only [Act.put, List.setIfInBounds_toArray, List.set_cons_zero, List.set_cons_succ]
    apply phase_fixed
    case hw => simp [Region.wanted, yielded]
    case ho =>
      intro w3 hk hf
      clear hf
      refine ⟨?_⟩
      go_simp
      exact ⟨Grows.refl _, rfl⟩
    simp only [Act.put, List.setIfInBounds_toArray, List.set_cons_zero, List.set_cons_succ]
    apply phase_fixed (c := .slice (some a) (l.length - (i + 1)) (c - (i + 1)))
    case hw => simp [Region.wanted, yielded]
    case ho =>
      intro w3 hk hf
      clear hf
      refine ⟨?_⟩
      go_simp
      exact ⟨Grows.refl _, by simp⟩
    simp only [Act.put, List.setIfInBounds_toArray, List.set_cons_zero, List.set_cons_succ]
    apply phase_turn (c := .slice (some ⟨b, 0, none⟩) (l.length - 1) c) (J := fun W' => W'.ownsRow 0 32 5 (.slice (some ⟨b, 0, none⟩) (l.length - 1) c) (l.length - 1) (flatP (l.take i ++ l.drop (i + 1))))
    case hw => simp [Region.wanted, yielded]
    case ho =>
      intro w3 hk hf hI
      clear hf
      obtain ⟨w1, hrun, ho, hg⟩ := close_run hI hi a (c - (i + 1)) HA.out
      exact growAt_append (.tmp 22) (.tmp 25) 48 rfl rfl rfl ⟨_, w1, hrun, KeepS.of_grown hg (fun k e => by injection e with e; exact e.symm), ho, rfl⟩
    case hJ => exact fun a c h hh => own_grows hh h
    simp only [Act.put, List.setIfInBounds_toArray, List.set_cons_zero, List.set_cons_succ]
    refine phase_nil fun w9 hk hI hf => ?_
    clear hf
    obtain ⟨k, hk1⟩ : ∃ k, l.length - 1 = k := ⟨_, rfl⟩
    rw [hk1] at hI ⊢
    have hkn : l.length = k + 1 := by omega
    have hL2 : (l.take i ++ l.drop (i + 1)).length = k := by rw [List.length_append, List.length_take, List.length_drop]; omega
    obtain ⟨w10, hrun, ho, hg⟩ := clear_run (cc := c - k) hI (by omega)
    have HF := Aside0.mk (show w10.ownsRow 0 32 5 (.slice (some ⟨b, 0, none⟩) k c) k (flatP (l.take i ++ l.drop (i + 1))) ∧ W.grownBy w10 (some b) from
      ⟨ho, ⟨hg.os.trans hk.os, hg.tape.trans hk.tape, hg.output.trans hk.output, Nat.le_trans hk.size hg.size, fun j hj hne => (hg.block j (Nat.lt_of_lt_of_le hj hk.size) hne).trans (hk.block j hj fun e => hne (by rw [e]))⟩⟩)
    have hs1 : k ≤ c := by omega
    have hs2 : (k : Int) ≤ (l.length : Int) := by omega
    have hs3 : k ≤ l.length := by omega
    have hs4 : l.length - k = 1 := by omega
    have hs5 : (if c = k then some (⟨b, 0, none⟩ : Addr) else some ⟨b, k * 5, none⟩) = some ⟨b, k * 5, none⟩ := if_neg (by omega)
    have hs6 : (l.length : Int) ≤ (c : Int) := by omega
    have HKN := Aside0.mk hk1
    clear ho hg hk hI hA2 hL2 hkn hk1
    refine ⟨by simp [Region.wanted, yielded], ⟨?_⟩⟩
    go_simp
    simp only [growUpon]
    go_wp2
    go_ret
    rw [HKN.out]
    exact ⟨rfl, HF.out⟩
  case ht => kernel_rfl
end Go.Proofs.Ytomlnflblecpbaa

/-
  Layer 13: Del.
-/
namespace Go.Proofs.Ytomlnflblecpbaa
set_option linter.unusedVariables false
set_option linter.unusedSimpArgs false
open Go.RowKit Go.Proofs.YtomlnflblecpbaaW.PrintWords Go.Proofs.YtomlnflblecpbaaW.PrintMore
attribute [local go_sem] max2_int min2_int
set_option maxRecDepth 100000 in
set_option maxHeartbeats 4000000 in
theorem del_calls {W : World} {O : Nat → Prop} {d : Nat} {m : List Pl} (h : DirM W O d m) (hOW : ∀ k, O k → k < W.heap.size) (key : ByteArray) (hn : key.size ≤ 1000000) (hm : m.length ≤ 100000) :
    Calls Try.prog 13 #[.pointer (some ⟨d, 0, none⟩), .string key] W (DPost W O d (delM m key) (.tuple #[.agg ((getM m key).getD zeroPl).cells, .bool (getM m key).isSome])) := by
  obtain ⟨rs, vs, hB, hR⟩ := h
  have hrow := (rowOf_eq key).2
  have g0 : Grows W (W.alloc (.cells zeroPl.cells 32)) := (Below.refl W.heap.size W).alloc (Nat.le_refl _) _
  have hB1 := hB.grows g0
  obtain ⟨A, c, ev, hc, hr⟩ := reads_of_own (hB1.row _ hrow)
  have hcell := hB1.cell _ hrow
  rw [ev] at hcell
  have HQ := Aside0.mk (PBox.new W zeroPl)
  have HG := Aside0.mk g0
  have HR := Aside0.mk hR
  have HB1 := Aside0.mk hB1
  have HO := Aside0.mk hOW
  have hll : (rs (rowOf key)).length ≤ m.length := hR.row_le hrow
  have HC := Aside0.mk (of_calls (c := c) hn hcell hr (by omega))
  have HRD := Aside0.mk hr
  have HEV := Aside0.mk ev
  have hget := hR.get key hrow
  have hkeys := hR.rows.keys _ hrow
  obtain ⟨l, hl⟩ : ∃ l, rs (rowOf key) = l := ⟨_, rfl⟩
  rw [hl] at hcell HC HRD HEV hc hget hkeys hll
  have HLE := Aside0.mk hl
  clear hB hB1 ev hr g0 hR hl hOW
  go_enter Try.func13, Try.ntmps13
  go_upto_region 1 with fail
  change Code.wp _ _ _ _ (W.alloc (.cells zeroPl.cells 32))
  generalize W.alloc (.cells zeroPl.cells 32) = W1 at *
  have HQS := Aside0.mk (Nat.le_refl W.heap.size)
  generalize hq : W.heap.size = q at HQ ⊢
  have HE1 := Aside0.mk hq
  clear hq HQS
  go_upto_region 2 with (go_at_call 27; refine HC.out.mono ?_; clear HC; rintro e w2 ⟨⟨j, rfl, hA⟩, hg⟩; have HA := Aside0.mk hA; have HG2 := Aside0.mk hg; clear hA hg)
  have HB2 := Aside0.mk (HB1.out.grows HG2.out)
  have HQ2 := Aside0.mk (HQ.out.grows HG2.out)
  have HGG := Aside0.mk (show Grows W w2 from HG.out.trans (HG2.out.mono HG.out.size))
  have hcell2 := cell_grows HG2.out hcell
  have hrd2 := HRD.out.grows HG2.out
  clear hcell HRD HB1 HG HG2 HQ
  rcases HA.out.cases hkeys with ⟨i, hi, rfl, hg⟩ | ⟨rfl, hg⟩
  · rw [hget] at hg
    obtain ⟨b, ea, hp⟩ := hrd2 (by omega)
    obtain ⟨k0, k1, k2, k3, k4⟩ := hp i hi
    subst ea
    have HGM := Aside0.mk hg
    have HHI := Aside0.mk hi
    obtain ⟨old, hold⟩ : ∃ x, l[i] = x := ⟨_, rfl⟩
    rw [hold] at k0 k1 k2 k3 k4 HGM
    have HOLD := Aside0.mk hold
    clear hg hget hkeys HA hrd2 hp hold
    obtain ⟨a1, a2, a3, a4, a5⟩ := old
    dsimp only at k0 k1 k2 k3 k4
    go_upto_region 5 with fail
    change Code.wp _ _ _ _ (w2.alloc (.cells (Pl.cells ⟨a1, a2, a3, a4, a5⟩) 32))
    have g3 : Grows w2 (w2.alloc (.cells (Pl.cells ⟨a1, a2, a3, a4, a5⟩) 32)) := (Below.refl w2.heap.size w2).alloc (Nat.le_refl _) _
    have HB3 := Aside0.mk (HB2.out.grows g3)
    have HG3 := Aside0.mk (HGG.out.trans (g3.mono HGG.out.size))
    have HP23 := Aside0.mk (HQ2.out.grows g3)
    have HP8 := Aside0.mk (PBox.new w2 ⟨a1, a2, a3, a4, a5⟩)
    have HQ8 := Aside0.mk (lt_heap HQ2.out.blk)
    have hcell3 := cell_grows g3 hcell2
    clear HB2 HGG HQ2 hcell2 g3 k0 k1 k2 k3 k4
    generalize w2.alloc (.cells (Pl.cells ⟨a1, a2, a3, a4, a5⟩) 32) = w3 at *
    generalize w2.heap.size = q8 at HP8 HQ8 ⊢
    have hrowown := HB3.out.row _ hrow
    rw [HLE.out, HEV.out] at hrowown
    have HBB := Aside0.mk (show O b ∧ b ≠ d from HB3.out.mine _ hrow b (by rw [HEV.out]; rfl))
    have HD := Aside0.mk (delete_calls hrowown hi (by omega) hc)
    have hw1 : IntKind.i64.wrap ((i : Int) + 1) = (i : Int) + 1 := IntWalk.i64_in _ ⟨by omega, by omega⟩
    have hwm : IntKind.i64.wrap ((m.length : Int) - 1) = (m.length : Int) - 1 := IntWalk.i64_in _ ⟨by omega, by omega⟩
    obtain ⟨k, hk1⟩ : ∃ k, l.length - 1 = k := ⟨_, rfl⟩
    have hL2 : (l.take i ++ l.drop (i + 1)).length = k := by rw [List.length_append, List.length_take, List.length_drop]; omega
    have HL2 := Aside0.mk hL2
    rw [hk1] at HD
    have HCLL := Aside0.mk hll
    clear hrowown hL2 hk1 hll
    go_upto_region 6 with (go_at_call 28; refine HD.out.mono ?_; clear HD; rintro e w4 ⟨rfl, ho, hg⟩; have HOW := Aside0.mk ho; have HGW := Aside0.mk hg; have q1 : w4.cell? ⟨d, rowOf key, none⟩ = some (.slice (some ⟨b, 0, none⟩) l.length c) := (World.cell?_of_block (hg.block d HB3.out.lt fun e => HBB.out.2 (by injection e with e; exact e.symm))).trans hcell3; have f1 : w4.frozen? ⟨d, rowOf key, none⟩ = false := (by obtain ⟨cs, h1, _⟩ := HB3.out.blk; exact frozen_of_row _ d _ cs 51 ((hg.block d HB3.out.lt fun e => HBB.out.2 (by injection e with e; exact e.symm)).trans h1)); clear ho hg)
    obtain ⟨cs, hb3, hsz, hcv, hc64⟩ := HB3.out.blk
    have hkb : ∀ j, j < w3.heap.size → j ≠ b → w4.heap[j]? = w3.heap[j]? := fun j hj hne => HGW.out.block j hj fun e => hne (by injection e)
    have hb4 := (hkb d HB3.out.lt fun e => HBB.out.2 e.symm).trans hb3
    have hb10 := heap_spl d [.slice (some ⟨b, 0, none⟩) k c] (rowOf key) w4 _ hb4
    have hb11 := heap_spl d [.int .i64 ((m.length : Int) - 1)] 64 _ _ hb10
    have p64 : (w4.setCell ⟨d, rowOf key, none⟩ (.slice (some ⟨b, 0, none⟩) k c)).cell? ⟨d, 64, none⟩ = some (.int .i64 m.length) := by
      refine (cell_of_row _ d 64 _ 51 (0, 0) hb10).trans ?_
      show (cs.setIfInBounds (rowOf key) _)[64]? = _
      rw [Array.getElem?_setIfInBounds_ne (by omega)]; exact hc64
    have f64 : (w4.setCell ⟨d, rowOf key, none⟩ (.slice (some ⟨b, 0, none⟩) k c)).frozen? ⟨d, 64, none⟩ = false := frozen_of_row _ d _ _ 51 hb10
    have hqd : q ≠ d := fun e => by have := HO.out d HB3.out.od; have := HE1.out; omega
    have h8d : q8 ≠ d := fun e => by have := HO.out d HB3.out.od; have := HE1.out; have := HQ8.out; omega
    have hqb : q ≠ b := fun e => by have := HO.out b HBB.out.1; have := HE1.out; omega
    have h8b : q8 ≠ b := fun e => by have := HO.out b HBB.out.1; have := HE1.out; have := HQ8.out; omega
    have HPQ := Aside0.mk (((HP23.out.keep (hkb q (lt_heap HP23.out.blk) hqb)).keep (Below.heap_setCell w4 ⟨d, rowOf key, none⟩ (.slice (some ⟨b, 0, none⟩) k c) q hqd)).keep (Below.heap_setCell _ ⟨d, 64, none⟩ (.int .i64 ((m.length : Int) - 1)) q hqd))
    have HP8' := Aside0.mk (((HP8.out.keep (hkb q8 (lt_heap HP8.out.blk) h8b)).keep (Below.heap_setCell w4 ⟨d, rowOf key, none⟩ (.slice (some ⟨b, 0, none⟩) k c) q8 h8d)).keep (Below.heap_setCell _ ⟨d, 64, none⟩ (.int .i64 ((m.length : Int) - 1)) q8 h8d))
    have hlen := del_len_some HR.out.sorted HGM.out
    have HF := Aside0.mk (show DirB ((w4.setCell ⟨d, rowOf key, none⟩ (.slice (some ⟨b, 0, none⟩) k c)).setCell ⟨d, 64, none⟩ (.int .i64 ((m.length : Int) - 1))) O d (setR rs (rowOf key) (l.take i ++ l.drop (i + 1))) (fun i => if i = rowOf key then (.slice (some ⟨b, 0, none⟩) k c) else vs i) (delM m key).length from
      HB3.out.turn (W6 := w4) hrow (fun j hj hne => hkb j hj fun e => hne (by rw [HEV.out, e]; rfl)) (by rw [HL2.out]; exact HOW.out) (fun j e => .inl (by rw [HEV.out]; exact e)) (fun j hj => hj)
        (fun j hj => (Below.heap_setCell _ ⟨d, 64, none⟩ _ j hj).trans (Below.heap_setCell _ ⟨d, rowOf key, none⟩ _ j hj))
        ⟨_, hb11, by rw [spl_size, spl_size]; exact hsz, fun i2 hi2 => by
          show ((cs.setIfInBounds (rowOf key) _).setIfInBounds 64 _)[i2]? = _
          rw [Array.getElem?_setIfInBounds_ne (by omega)]
          by_cases e : i2 = rowOf key
          · subst e; rw [if_pos rfl, Array.getElem?_setIfInBounds_self_of_lt (by omega)]
          · rw [if_neg e, Array.getElem?_setIfInBounds_ne (fun e2 => e e2.symm)]; exact hcv i2 hi2,
        by
          show ((cs.setIfInBounds (rowOf key) _).setIfInBounds 64 _)[64]? = _
          rw [Array.getElem?_setIfInBounds_self_of_lt (by simp; omega), show ((delM m key).length : Int) = (m.length : Int) - 1 by omega]⟩)
    have HFIN := Aside0.mk (show DPost W O d (delM m key) (.tuple #[.agg ((getM m key).getD zeroPl).cells, .bool (getM m key).isSome]) (.returned (.tuple #[.agg (Pl.cells (⟨a1, a2, a3, a4, a5⟩ : Pl)), .bool true])) (World.setCells ((w4.setCell ⟨d, rowOf key, none⟩ (.slice (some ⟨b, 0, none⟩) k c)).setCell ⟨d, 64, none⟩ (.int .i64 ((m.length : Int) - 1))) q 0 (Pl.vals (⟨a1, a2, a3, a4, a5⟩ : Pl))) from by
      refine ⟨by rw [HGM.out]; rfl, O, ?_, ?_, fun k hk => .inl hk⟩
      · have hrel := HR.out.del (i := rowOf key) hrow (u := l.take i) (v := l.drop (i + 1)) (q := (⟨a1, a2, a3, a4, a5⟩ : Pl)) (by rw [HLE.out]; conv => lhs; rw [← List.take_append_drop i l, List.drop_eq_getElem_cons HHI.out, HOLD.out])
        rw [(getM_mem HGM.out).2] at hrel
        refine ⟨_, (fun i => if i = rowOf key then (.slice (some ⟨b, 0, none⟩) k c) else vs i), ?_, hrel⟩
        refine HF.out.keep (fun j hj _ => heap_spl_ne q _ 0 _ j fun e => ?_) fun j hj _ => hj
        have := HO.out j hj; have := HE1.out; omega
      · exact keep_new (by rw [HE1.out]; exact ((((KeepS.of_grows HG3.out).trans (KeepS.of_grown HGW.out fun j e => by injection e with e; subst e; exact .inl HBB.out.1)).trans (KeepS.of_grown (grown_set _ d _ _) fun j e => by injection e with e; subst e; exact .inl HB3.out.od)).trans (KeepS.of_grown (grown_set _ d _ _) fun j e => by injection e with e; subst e; exact .inl HB3.out.od)).trans (KeepS.of_grown (grown_spl q _ 0 _) fun j e => by injection e with e; subst e; exact .inr (Nat.le_refl _))))
    have e0 := HP8'.out.c0; have e1 := HP8'.out.c1; have e2 := HP8'.out.c2; have e3 := HP8'.out.c3; have e4 := HP8'.out.c4
    dsimp only at e0 e1 e2 e3 e4
    have d0 := HPQ.out.c0; have d1 := HPQ.out.c1; have d2 := HPQ.out.c2; have d3 := HPQ.out.c3; have d4 := HPQ.out.c4
    have f0 := HPQ.out.fr 0; have f1' := HPQ.out.fr 1; have f2 := HPQ.out.fr 2; have f3 := HPQ.out.fr 3; have f4 := HPQ.out.fr 4
    clear hb3 hsz hcv hc64 hkb hb4 hb10 hb11 hqd h8d hqb h8b hlen q1 f1 hcell3
    go_wp2
    exact bodyPost_ret (results_box_tmp (fn := Try.f13) (p := 4) (u := 5) rfl _ _ q (⟨a1, a2, a3, a4, a5⟩ : Pl) rfl (HPQ.out.set (⟨a1, a2, a3, a4, a5⟩ : Pl))) rfl HFIN.out
  · rw [hget] at hg
    have HGM := Aside0.mk hg
    clear hg hget hkeys HA hrd2 hcell2
    have f0 := HQ2.out.fr 0; have f1 := HQ2.out.fr 1; have f2 := HQ2.out.fr 2; have f3 := HQ2.out.fr 3; have f4 := HQ2.out.fr 4
    have d0 := HQ2.out.c0; have d1 := HQ2.out.c1; have d2 := HQ2.out.c2; have d3 := HQ2.out.c3; have d4 := HQ2.out.c4
    have HFIN := Aside0.mk (show DPost W O d (delM m key) (.tuple #[.agg ((getM m key).getD zeroPl).cells, .bool (getM m key).isSome]) (.returned (.tuple #[.agg zeroPl.cells, .bool false])) (World.setCells w2 q 0 zeroPl.vals) from by
      refine ⟨by rw [HGM.out]; rfl, O, ⟨rs, vs, ?_, ?_⟩, ?_, fun k hk => .inl hk⟩
      · rw [del_absent HGM.out]
        refine HB2.out.keep (fun k hk _ => heap_spl_ne q _ 0 _ k fun e => ?_) fun k hk _ => hk
        have := HO.out k hk; have := HE1.out; omega
      · rw [del_absent HGM.out]; exact HR.out
      · exact keep_new (by rw [HE1.out]; exact (KeepS.of_grows HGG.out).trans (KeepS.of_grown (grown_spl q _ 0 _) fun k e => by injection e with e; subst e; exact .inr (Nat.le_refl _))))
    go_wp2
    exact bodyPost_ret (results_box_tmp (fn := Try.f13) (p := 4) (u := 5) rfl _ _ q zeroPl rfl (HQ2.out.set zeroPl)) rfl HFIN.out
end Go.Proofs.Ytomlnflblecpbaa
