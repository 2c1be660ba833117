/-
  Layer 17: the document's Close.
-/
import Derived.Test.YtdfjacpfmjgfiaaRPin
import Derived.Test.YtdfjacpfmjgfiaaPhaseLast
namespace Go.Proofs.Ytdfjacpfmjgfiaa
set_option linter.unusedVariables false
set_option linter.unusedSimpArgs false
open Go.Shelf Go.RowKit Go.Proofs.YtdfjacpfmjgfiaaW.PrintWords Go.Proofs.YtdfjacpfmjgfiaaW.PrintMore PPinPlays
attribute [local go_sem] max2_int
theorem flat_one {rs : List RH} (h1 : ∀ r ∈ rs, r.2.2.oneCell' = true) : ∀ u ∈ flat rs, u.oneCell' = true := fun u hu => by
  unfold flat at hu
  obtain ⟨r, hr, hu⟩ := List.mem_flatMap.1 hu
  rcases List.mem_cons.1 hu with rfl | hu
  · rfl
  · rw [List.mem_singleton.1 hu]; exact h1 r hr
/-- append at a row of handles: empty blocks stay. -/
theorem hands_one {W : World} {B : Nat} {v : Value} {rs rs2 : List RH} {A : Option Addr} {m c : Nat} (HO : W.ownsRow B 62 2 v rs.length (flat rs)) (hm : rs2.length = m)
    (hcells : 0 < m → ∃ ad, A = some ad ∧ ∀ j u, (flat rs2)[j]? = some u → W.cell? (ad.add j) = some u) (h1 : ∀ r ∈ rs2, r.2.2.oneCell' = true) (hbase : B ≤ W.heap.size) (hl : rs.length + m ≤ 1000000) :
    ∃ v1 w1, (Builtin.append_ #[52, 52] 52 #[v, .slice A m c]).run Try.prog W = .ok v1 w1 ∧ w1.ownsRow B 62 2 v1 (rs ++ rs2).length (flat (rs ++ rs2)) ∧ KeepS (fun k => B ≤ k) W w1 ∧ ∀ k : Nat, W.heap[k]? = some (Obj.cells #[] 62 (0, 0)) → w1.heap[k]? = W.heap[k]? := by
  obtain ⟨i0, hi, hz0, hz1, hz2⟩ := parts3 info62
  have ht : Try.prog.underlying 52 = some (.slice 62) := Try.underlying52
  rcases Nat.eq_zero_or_pos m with h0 | h0
  · subst h0
    obtain rfl : rs2 = [] := List.eq_nil_of_length_eq_zero hm
    refine ⟨v, W, ?_, by simpa using HO, KeepS.refl _ _, fun k _ => rfl⟩
    rcases HO.2 with ⟨rfl, hn⟩ | ⟨g, cap, cur, rfl, _, _, hnc, _⟩
    · cases A <;> simp [Builtin.append_, run_underlying ht, sizeOf, typeInfo, hi, Builtin.lenOf, Builtin.firstCells, storeCells, loadCells, loadCellsFrom]
    · cases A <;> simp [Builtin.append_, run_underlying ht, sizeOf, typeInfo, hi, Builtin.lenOf, Builtin.firstCells, hnc, storeCells, loadCells, loadCellsFrom]
  · obtain ⟨v1, w1, hrun, ho, hg, hloc⟩ := hands_run B v rs rs2 A m c HO hm hcells h1 hbase hl
    refine ⟨v1, w1, hrun, ho, KeepS.of_grown hg fun k e => own_base HO k e, fun k hk => ?_⟩
    by_cases hne : v.ownBlock = some k
    · rcases HO.2 with ⟨rfl, _⟩ | ⟨b, cap, cur, rfl, hBb, hb, hc, hcm, hcs, hcur⟩
      · cases hne
      · have e2 : some b = some k := hne
        injection e2 with e2
        subst e2
        rw [hb] at hk
        injection hk with hk
        injection hk with hk _
        subst hk
        have hc0 : cap = 0 := by simp at hcs; omega
        have hn0 : rs.length = 0 := by omega
        obtain ⟨ad, rfl, hcc⟩ := hcells h0
        have hsrc : Src Try.prog i0.size 52 (.slice (some ad) m c) m (flat rs2) W := Src.ofSlice W ht ad m c (flat rs2) (by rw [hz1, flat_len, hm]) hcc (flat_one h1)
        have hold : (Builtin.firstCells i0.size rs.length (.slice (some ⟨b, 0, none⟩) rs.length cap)).run Try.prog W.drew = .ok ([] : List Value).toArray W.drew := by
          rw [hz1, hn0]
          exact run_firstCells_some (P := Try.prog) W.drew 2 0 _ 0 cap [] rfl fun j u hu => by cases hu
        have hgr := run_append_grow_src (P := Try.prog) (w := W) 52 52 52 62 i0 (.agg #[.int .i64 0, .slice none 0 0]) ht hi hz0 (some ⟨b, 0, none⟩) rs.length cap [] hold _ m (flat rs2) hsrc (by omega) (by omega) (by rw [hz2]; exact growslice_fits (by omega) (by omega))
        rw [hgr] at hrun
        injection hrun with _ hw
        rw [← hw]
        exact heap_alloc_old W.drew _ (lt_heap hb)
    · exact hg.block k (lt_heap hk) fun e => hne e.symm
def EmptK (B : Nat) (a b : World) : Prop := KeepS (fun k => B ≤ k) a b ∧ ∀ (k : Nat), a.heap[k]? = some (Obj.cells #[] 62 (0, 0)) → b.heap[k]? = a.heap[k]?
theorem emptK_phase (B : Nat) : PhaseK Grows (EmptK B) :=
  ⟨fun a => ⟨KeepS.refl _ _, fun _ _ => rfl⟩, fun h k => ⟨h.1.trans k.1, fun i hi => (k.2 i ((h.2 i hi).trans hi)).trans (h.2 i hi)⟩, fun h => ⟨KeepS.of_grows h, fun k hk => h.block k (lt_heap hk)⟩, fun a => (Below.refl a.heap.size a).drew⟩
set_option maxRecDepth 100000 in
set_option maxHeartbeats 4000000 in
theorem rclose_calls {W : World} {O : Nat → Prop} {g : Nat} {most next : Int} {hl : HL} (h : RTA W O g most next hl) (hok : HOk next hl) (hb : hl.length ≤ 50000) (hd : Int) :
    Calls Try.prog 16 #[.pointer (some ⟨g, 0, none⟩), .int .i64 hd] W (RPost W O g most next (delL hl hd) (.bool (getL hl hd).isSome)) := by
  have hh := h
  obtain ⟨rs, vL, h1, h2⟩ := hh
  have c1 := h1.c1
  have hl2 : rs.length = hl.length := by rw [← h2]; simp [absR]
  obtain ⟨Av, cv, ev, hcv⟩ := own_slice h1.row
  subst ev
  have HA := Aside0.mk (rat_calls h1 hd (by omega))
  have H := Aside0.mk h
  have H1 := Aside0.mk h1
  have H2 := Aside0.mk h2
  have HK := Aside0.mk hok
  have hrl : rs.length ≤ 50000 := by omega
  clear h h1 h2 hl2 hok
  go_enter Try.func16, Try.ntmps16
  go_upto_region 2 with (go_at_call 32; refine HA.out.mono ?_; clear HA; rintro e w' ⟨⟨j, rfl, ha⟩, rfl⟩; have HA := Aside0.mk ha; clear ha)
  rcases HA.out with ⟨i, hi, rfl, e1, e2⟩ | ⟨rfl, e1⟩
  · have hge : getL hl hd = some rs[i].2.1 := by rw [← H2.out]; exact AtIs.get (by rw [H2.out]; exact HK.out.keyed) hi e1
    have HGE := Aside0.mk hge
    clear hge HA
    obtain ⟨b, cc, cur, ev, hccl, hbk, hcs, hcur, k0, k1, hBb, hcm⟩ := hands_at H1.out.row hi
    injection ev with ev _ ev3
    subst ev ev3
    have HCE := Aside0.mk (fun (w2 : World) (hk : EmptK w'.heap.size w' w2) (j : Nat) (u : Value) (hu : (flat rs)[j]? = some u) => (by
      obtain ⟨ad, e, _, _, hc⟩ := H1.out.cells (by omega)
      injection e with e
      subst e
      have h3 := hc j u hu
      exact (World.cell?_of_block (hk.1.block _ (by rw [add_block]; exact lt_heap hbk) (by rw [add_block]; have := lt_heap hbk; show ¬ w'.heap.size ≤ b; omega))).trans h3 : w2.cell? ((⟨b, 0, none⟩ : Addr).add j) = some u))
    have HGC := Aside0.mk (fun (w2 : World) (hk : EmptK w'.heap.size w' w2) => ((hk.1.block g (lt_heap H1.out.blk) (by have := lt_heap H1.out.blk; omega)).trans H1.out.blk))
    obtain ⟨T1, t1⟩ : ∃ T1, T1 = rs.take i := ⟨_, rfl⟩
    obtain ⟨T2, t2⟩ : ∃ T2, T2 = T1 ++ rs.drop (i + 1) := ⟨_, rfl⟩
    have hT1 : T1.length ≤ 50000 := by rw [t1, List.length_take]; omega
    have E1 := Aside0.mk t1
    have E2 := Aside0.mk t2
    obtain ⟨AK, hAK⟩ : ∃ AK : Option Addr, AK = (if cv = i + 1 then some ⟨b, 0, none⟩ else some ⟨b, (i + 1) * 2, none⟩) := ⟨_, rfl⟩
    have HAK := Aside0.mk hAK
    have hAK2 : (if cv = i + 1 then some (⟨b, 0, none⟩ : Addr) else some ⟨b, (i + 1) * 2, none⟩) = AK := hAK.symm
    have hik : i + 1 ≤ rs.length := by omega
    have hic : i ≤ cv := by omega
    have hic1 : i + 1 ≤ cv := by omega
    have hw2 : (0 : Int) ≤ (i : Int) + 1 := by omega
    have hw4 : (i : Int) + 1 ≤ (rs.length : Int) := by omega
    have HW3 := Aside0.mk (show ((i : Int) + 1).toNat = i + 1 by omega)
    have HW1 := Aside0.mk (IntWalk.i64_in ((i : Int) + 1) ⟨by omega, by omega⟩)
    have HAK2 := Aside0.mk hAK2
    clear hAK2
    clear hAK t1 t2 k0 k1 hcs hcur
    go_upto_region 4 with fail
    apply wp_region_phase_last (K0 := Grows) (K := (EmptK w'.heap.size)) (hK := emptK_phase w'.heap.size) (I0 := fun _ => True) (h0 := trivial) (hI := fun _ _ _ _ => trivial) (hL := by rfl) (hm := by kernel_rfl) (hB := by kernel_rfl) (hB2 := by kernel_rfl)
    case h =>
      simp only [List.dropLast_cons_cons, List.dropLast_singleton]
      iterate 1
        apply phase_fixed
        case hw => simp [Region.wanted, yielded]
        case ho =>
          intro w2 hk hf
          clear hf
          refine ⟨?_⟩
          go_simp
          exact ⟨Grows.refl _, rfl⟩
        simp only [Act.put, List.setIfInBounds_toArray, List.set_cons_zero, List.set_cons_succ]
      apply phase_free (G := fun v W => ∃ q, v = .slice (some ⟨q, 0, none⟩) 0 0 ∧ W.heap[q]? = some (Obj.cells #[] 62 (0, 0)) ∧ w'.heap.size ≤ q)
      case hw => simp [Region.wanted, yielded]
      case ho =>
        intro w2 hk hf
        clear hf
        refine ⟨?_⟩
        have hsz := hk.1.size
        go_simp
        exact ⟨(Below.refl _ _).alloc (Nat.le_refl _) _, _, rfl, heap_alloc_new w2 _, hsz⟩
      case hm => exact fun v w w' ⟨q, h1, h2, h3⟩ hk => ⟨q, h1, (hk.2 q h2).trans h2, h3⟩
      intro v12
      simp only [Act.put, List.setIfInBounds_toArray, List.set_cons_zero, List.set_cons_succ]
      iterate 4
        apply phase_fixed
        case hw => simp [Region.wanted, yielded]
        case ho =>
          intro w2 hk hf
          clear hf
          have q1 : w2.cell? ⟨g, 1, none⟩ = some (.slice (some ⟨b, 0, none⟩) rs.length cv) := cell_of_row _ g 1 _ 54 (0, 0) (HGC.out _ hk)
          refine ⟨?_⟩
          go_simp
          exact ⟨Grows.refl _, rfl⟩
        simp only [Act.put, List.setIfInBounds_toArray, List.set_cons_zero, List.set_cons_succ]
      iterate 1
        apply phase_fixed
        case hw => simp [Region.wanted, yielded]
        case ho =>
          intro w2 hk hf
          clear hf
          refine ⟨?_⟩
          go_simp
          exact ⟨Grows.refl _, rfl⟩
        simp only [Act.put, List.setIfInBounds_toArray, List.set_cons_zero, List.set_cons_succ]
      apply phase_fixed (c := .slice (some ⟨b, 0, none⟩) i cv)
      case hw => simp [Region.wanted, yielded]
      case ho =>
        intro w2 hk hf
        clear hf
        refine ⟨?_⟩
        go_simp
        exact ⟨Grows.refl _, rfl⟩
      simp only [Act.put, List.setIfInBounds_toArray, List.set_cons_zero, List.set_cons_succ]
      apply phase_turn_free (G := fun _ _ => True) (J := (fun v W => W.ownsRow w'.heap.size 62 2 v T1.length (flat T1)))
      case hw => simp [Region.wanted, yielded]
      case ho =>
        intro w2 hk hf hI
        obtain ⟨q, eq, hq, hqB⟩ : ∃ q, v12 = .slice (some ⟨q, 0, none⟩) 0 0 ∧ w2.heap[q]? = some (Obj.cells #[] 62 (0, 0)) ∧ w'.heap.size ≤ q := hf _ (List.Mem.head _) (by kernel_rfl)
        clear hf
        subst eq
        obtain ⟨v1, w1, hrun, h2, h3, h4⟩ := hands_one (B := w'.heap.size) (rs := []) (rs2 := T1) (A := some ⟨b, 0, none⟩) (m := i) (c := cv) (own_mono (own_empty62 hq) hqB) (by rw [E1.out, List.length_take]; omega) (fun _ => ⟨_, rfl, fun j u hu => HCE.out w2 hk j u (by rw [E1.out, flat_take, List.getElem?_take] at hu; split at hu; exact hu; cases hu)⟩) (fun r hr => H1.out.one r (by rw [E1.out] at hr; exact List.mem_of_mem_take hr)) hk.1.size (by simp; omega)
        rw [List.nil_append] at h2
        exact growAt_append (.tmp 12) (.tmp 18) 52 rfl rfl rfl ⟨v1, w1, hrun, ⟨h3, h4⟩, h2, trivial⟩
      case hJ => exact fun v a c h hh => own_grows hh h
      case hm => exact fun _ _ _ _ _ => trivial
      intro v19
      simp only [Act.put, List.setIfInBounds_toArray, List.set_cons_zero, List.set_cons_succ]
      iterate 4
        apply phase_fixed
        case hw => simp [Region.wanted, yielded]
        case ho =>
          intro w2 hk hf
          clear hf
          have q1 : w2.cell? ⟨g, 1, none⟩ = some (.slice (some ⟨b, 0, none⟩) rs.length cv) := cell_of_row _ g 1 _ 54 (0, 0) (HGC.out _ hk)
          refine ⟨?_⟩
          go_simp
          exact ⟨Grows.refl _, rfl⟩
        simp only [Act.put, List.setIfInBounds_toArray, List.set_cons_zero, List.set_cons_succ]
      iterate 1
        apply phase_fixed
        case hw => simp [Region.wanted, yielded]
        case ho =>
          intro w2 hk hf
          clear hf
          refine ⟨?_⟩
          go_simp
          exact ⟨Grows.refl _, rfl⟩
        simp only [Act.put, List.setIfInBounds_toArray, List.set_cons_zero, List.set_cons_succ]
      iterate 1
        apply phase_fixed
        case hw => simp [Region.wanted, yielded]
        case ho =>
          intro w2 hk hf
          clear hf
          have hw1 := HW1.out
          refine ⟨?_⟩
          go_simp
          exact ⟨Grows.refl _, rfl⟩
        simp only [Act.put, List.setIfInBounds_toArray, List.set_cons_zero, List.set_cons_succ]
      apply phase_fixed (c := .slice AK (rs.length - (i + 1)) (cv - (i + 1)))
      case hw => simp [Region.wanted, yielded]
      case ho =>
        intro w2 hk hf
        clear hf
        have hAK2 := HAK2.out
        have hw3 := HW3.out
        refine ⟨?_⟩
        go_simp
        exact ⟨Grows.refl _, by simp⟩
      simp only [Act.put, List.setIfInBounds_toArray, List.set_cons_zero, List.set_cons_succ]
      apply phase_turn_free (G := fun _ _ => True) (J := (fun v W => W.ownsRow w'.heap.size 62 2 v T2.length (flat T2)))
      case hw => simp [Region.wanted, yielded]
      case ho =>
        intro w2 hk hf hI
        clear hf
        obtain ⟨v1, w1, hrun, h2, h3, h4⟩ := hands_one (rs2 := rs.drop (i + 1)) (A := AK) (m := rs.length - (i + 1)) (c := cv - (i + 1)) hI (by rw [List.length_drop]) (fun h => ⟨⟨b, (i + 1) * 2, none⟩, by rw [HAK.out, if_neg (by omega)], fun j u hu => by
              rw [flat_drop, List.getElem?_drop] at hu
              have := HCE.out w2 hk _ u hu
              have a1 : (⟨b, 0, none⟩ : Addr).add ((i + 1) * 2 + j) = ⟨b, (i + 1) * 2 + j, none⟩ := by unfold Addr.add; split <;> simp_all
              have a2 : (⟨b, (i + 1) * 2, none⟩ : Addr).add j = ⟨b, (i + 1) * 2 + j, none⟩ := by unfold Addr.add; split <;> simp_all
              rw [a1] at this
              rw [a2]; exact this⟩) (fun r hr => H1.out.one r (List.mem_of_mem_drop hr)) hk.1.size (by omega)
        rw [← E2.out] at h2
        exact growAt_append (.tmp 19) (.tmp 26) 52 rfl rfl rfl ⟨v1, w1, hrun, ⟨h3, h4⟩, h2, trivial⟩
      case hJ => exact fun v a c h hh => own_grows hh h
      case hm => exact fun _ _ _ _ _ => trivial
      intro v27
      simp only [Act.put, List.setIfInBounds_toArray, List.set_cons_zero, List.set_cons_succ]
      iterate 2
        apply phase_fixed
        case hw => simp [Region.wanted, yielded]
        case ho =>
          intro w2 hk hf
          clear hf
          refine ⟨?_⟩
          go_simp
          exact ⟨Grows.refl _, rfl⟩
        simp only [Act.put, List.setIfInBounds_toArray, List.set_cons_zero, List.set_cons_succ]
      refine phase_nil fun w9 hk hI hf => ?_
      clear hf
      have hT9 : RTb w9 O g most next rs (.slice (some ⟨b, 0, none⟩) rs.length cv) := H1.out.keep (fun k _ hlt => hk.1.block k hlt (by show ¬ w'.heap.size ≤ k; omega)) fun k hk _ => hk
      obtain ⟨A27, c27, e27, _⟩ := own_slice hI
      subst e27
      have q1 : w9.cell? ⟨g, 1, none⟩ = some (.slice (some ⟨b, 0, none⟩) rs.length cv) := cell_of_row _ g 1 _ 54 (0, 0) hT9.blk
      have f1 : w9.frozen? ⟨g, 1, none⟩ = false := frozen_of_row _ g 1 _ 54 hT9.blk
      have hb9 := heap_spl g [.slice A27 T2.length c27] 1 w9 _ hT9.blk
      have hR : RTb (w9.setCell ⟨g, 1, none⟩ (.slice A27 T2.length c27)) (fun k => O k ∨ w'.heap.size ≤ k) g most next T2 (.slice A27 T2.length c27) := by
        refine hT9.turn (w6 := w9) (fun _ _ _ _ _ _ => rfl) (own_mono hI (Nat.zero_le _)) (fun k e => .inr (own_base hI k e)) (fun r hr => ?_) (fun k hk => .inl hk) (fun k hk => Below.heap_setCell _ ⟨g, 1, none⟩ _ k hk) hb9
        refine (hT9.segs r ?_).more fun k hk => .inl hk
        rw [E2.out, E1.out] at hr
        rcases List.mem_append.1 hr with hr | hr
        · exact List.mem_of_mem_take hr
        · exact List.mem_of_mem_drop hr
      have hK : KeepS O w' (w9.setCell ⟨g, 1, none⟩ (.slice A27 T2.length c27)) :=
        KeepS.trans ⟨hk.1.os, hk.1.tape, hk.1.output, hk.1.size, fun k hlt _ => hk.1.block k hlt (by show ¬ w'.heap.size ≤ k; omega)⟩ (KeepS.of_grown (grown_set w9 g 1 _) fun k e => by injection e with e; subst e; exact H1.out.og)
      have habs : absR T2 = delL hl hd := by
        have := abs_del hi (by rw [H2.out]; exact HK.out.keyed)
        rw [e1, H2.out] at this
        rw [E2.out, E1.out]; exact this
      have HF := Aside0.mk (show RPost w' O g most next (delL hl hd) (.bool true) (.returned (.bool true)) _ from ⟨rfl, _, ⟨_, _, hR, habs⟩, hK, fun k hk => hk⟩)
      clear hR hK habs hb9 hT9 hI hk
      refine ⟨by simp [Region.wanted, yielded], ⟨?_⟩⟩
      go_simp
      simp only [growUpon]
      go_wp2
      go_ret
      rw [HGE.out]
      exact HF.out
    case ht => kernel_rfl
  · have hno : getL hl hd = none := by
      rw [← H2.out]
      exact getL_none.2 fun x hx => by
        obtain ⟨r, hr, rfl⟩ := List.mem_map.1 hx
        exact e1 r hr
    have HNO := Aside0.mk hno
    clear HA e1 H1 hno
    go_wp2
    go_ret
    rw [delL_none HNO.out, HNO.out]
    exact ⟨rfl, O, H.out, KeepS.refl _ _, fun k hk => .inl hk⟩
end Go.Proofs.Ytdfjacpfmjgfiaa
