/-
  Layer 17: numbers in order, and one more: the document's.
-/
import Derived.Test.YtdfjacpfmjgfiaaRTab
import Derived.Deep.AppendSrc
namespace Go.Proofs.Ytdfjacpfmjgfiaa
set_option linter.unusedVariables false
set_option linter.unusedSimpArgs false
open Go.Shelf Go.RowKit Go.Proofs.YtdfjacpfmjgfiaaW.PrintWords Go.Proofs.YtdfjacpfmjgfiaaW.PrintMore PPinPlays
attribute [local go_sem] max2_int
theorem nums_one (k : IntKind) (xs : List Int) : ∀ u ∈ nums k xs, u.oneCell' = true := fun u hu => by simp only [nums, List.mem_map] at hu; obtain ⟨q, _, rfl⟩ := hu; rfl
theorem reads_cells {W : World} {A : Option Addr} {m : Nat} {ys : List Int} (h : ReadsInt W .i64 A m ys) (hm : 0 < m) : ∃ ad, A = some ad ∧ ∀ j u, (nums .i64 ys)[j]? = some u → W.cell? (ad.add j) = some u := by
  obtain ⟨ad, e, hc⟩ := h.2.2 hm
  refine ⟨ad, e, fun j u hu => ?_⟩
  have hj : j < ys.length := by
    rcases Nat.lt_or_ge j ys.length with h | h
    · exact h
    · simp [nums, List.getElem?_eq_none h] at hu
  have := hc j (by rw [← h.1]; exact hj)
  simp [nums, List.getElem?_eq_getElem hj] at hu
  subst hu
  rw [this]
  simp [List.getD_eq_getElem?_getD, List.getElem?_eq_getElem hj]
/-- append at a row of one's own: blocks of one cell stay. -/
theorem append_one {W : World} {B : Nat} {v : Value} {xs ys : List Int} {A : Option Addr} {m c : Nat} (ho : OwnE W B 3 1 v xs.length (nums .i64 xs)) (hz : xs.length = 0 → ∃ a, v = .slice a 0 0) (hr : ReadsInt W .i64 A m ys) (hB : B ≤ W.heap.size) (hl : (xs.length + m) * 8 ≤ 140737488355328) :
    ∃ v1 w1, (Builtin.append_ #[29, 29] 29 #[v, .slice A m c]).run Try.prog W = .ok v1 w1 ∧ OwnE w1 B 3 1 v1 (xs ++ ys).length (nums .i64 (xs ++ ys)) ∧ ((xs ++ ys).length = 0 → ∃ a, v1 = .slice a 0 0) ∧ KeepS (fun k => B ≤ k) W w1 ∧ ∀ (k : Nat) (x : Value), W.heap[k]? = some (Obj.cells #[x] 3 (0, 0)) → w1.heap[k]? = W.heap[k]? := by
  obtain ⟨i0, hi, hz0, hz1, hz2⟩ := parts3 info3'
  have hm : ys.length = m := hr.1
  rcases Nat.eq_zero_or_pos m with h0 | h0
  · subst h0
    obtain rfl : ys = [] := List.eq_nil_of_length_eq_zero hm
    obtain ⟨A', c', rfl, hc⟩ := ho.slice
    refine ⟨.slice A' xs.length c', W, ?_, by simpa using ho, by simpa using hz, KeepS.refl _ _, fun k x _ => rfl⟩
    cases A with
    | none => cases A' <;> simp [Builtin.append_, run_underlying Try.underlying29, sizeOf, typeInfo, hi, Builtin.lenOf, Builtin.firstCells, hc, storeCells]
    | some a => cases A' <;> simp [Builtin.append_, run_underlying Try.underlying29, sizeOf, typeInfo, hi, Builtin.lenOf, Builtin.firstCells, hc, storeCells, loadCells, loadCellsFrom]
  · obtain ⟨ad, rfl, hcells⟩ := reads_cells hr h0
    rcases Nat.eq_zero_or_pos xs.length with hx | hx
    · obtain ⟨a, rfl⟩ := hz hx
      obtain rfl : xs = [] := List.eq_nil_of_length_eq_zero hx
      obtain ⟨v1, w1, hrun, h2, h3, h5⟩ := ints_run (t := 29) (u := 29) (ty := 29) Try.underlying29 Try.underlying29 B (.slice none 0 0) [] ys (some ad) m c (World.ownsRow_nil _ _ _ _) hr hB hl
      refine ⟨v1, w1, ?_, .inr h2, fun h => ?_, KeepS.of_grown h3 (fun k e => by cases e), (fun k x hk => h3.block k (lt_heap hk) (fun e => by cases e))⟩
      · cases a with
        | none => exact hrun
        | some b => rw [run_append_zero 29 29 3 i0 (.int .i64 0) Try.underlying29 hi hz0 b ad m c h0 (by rw [hz2]; simpa using hl) (by simp only [maxLen]; simp at hl; omega)]; exact hrun
      · rw [List.nil_append] at h; omega
    · rcases ho with ⟨a, _, h1, _⟩ | ho
      · omega
      · obtain ⟨v1, w1, hrun, h2, h3, h5⟩ := ints_run (t := 29) (u := 29) (ty := 29) Try.underlying29 Try.underlying29 B v xs ys (some ad) m c ho hr hB hl
        refine ⟨v1, w1, hrun, .inr h2, fun h => by rw [List.length_append] at h; omega, KeepS.of_grown h3 fun k e => own_base ho k e, fun k x hk => ?_⟩
        rcases ho.2 with ⟨_, h1⟩ | ⟨b, cap, cur, rfl, hBb, hb, hc, hcm, hcs, hcur⟩
        · omega
        · by_cases hroom : xs.length + m ≤ cap
          · refine h3.block k (lt_heap hk) fun e => ?_
            have e2 : some k = some b := e
            injection e2 with e2
            subst e2
            rw [hb] at hk
            injection hk with hk
            injection hk with hk _
            rw [hk] at hcs
            simp at hcs
            omega
          · have hsrc : Src Try.prog i0.size 29 (.slice (some ad) m c) m (nums .i64 ys) W := Src.ofSlice W Try.underlying29 ad m c (nums .i64 ys) (by rw [hz1]; simp [nums, hm]) hcells (nums_one _ _)
            have hold : (Builtin.firstCells i0.size xs.length (.slice (some ⟨b, 0, none⟩) xs.length cap)).run Try.prog W.drew = .ok (nums .i64 xs).toArray W.drew := by
              rw [hz1]
              refine run_firstCells_some (P := Try.prog) W.drew 1 xs.length _ xs.length cap (nums .i64 xs) (by simp [nums]) fun j u hu => ?_
              obtain ⟨ad2, e2, hcc⟩ := reads_cells (own_reads' ho) hx
              injection e2 with e2
              subst e2
              exact hcc j u hu
            have hg := run_append_grow_src (P := Try.prog) (w := W) 29 29 29 3 i0 (.int .i64 0) Try.underlying29 hi hz0 (some ⟨b, 0, none⟩) xs.length cap (nums .i64 xs) hold _ m (nums .i64 ys) hsrc (by omega) (by omega) (by rw [hz2]; exact growslice_fits (by omega) hl)
            rw [hg] at hrun
            injection hrun with _ hw
            rw [← hw]
            exact heap_alloc_old W.drew _ (lt_heap hk)
theorem stop_count {xs : List Int} (h : Rises xs) (m : Int) {k : Nat} (hk : k ≤ xs.length) (h1 : ∀ x ∈ xs.take k, x < m) (h2 : ∀ hk : k < xs.length, m ≤ xs[k]) : xs.countP (· < m) = k := by
  obtain ⟨s1, s2⟩ := split_rise m h
  have hc := count_le xs m
  generalize hcc : List.countP (fun x => decide (x < m)) xs = c at s1 s2 hc ⊢
  rcases Nat.lt_trichotomy c k with hlt | he | hgt
  · exfalso
    have a1 : xs[c] ∈ xs.take k := by rw [List.mem_take_iff_getElem]; exact ⟨c, by omega, rfl⟩
    have a2 : xs[c] ∈ xs.drop c := by rw [List.mem_drop_iff_getElem]; exact ⟨0, by omega, by simp⟩
    have := h1 _ a1
    have := s2 _ a2
    omega
  · exact he
  · exfalso
    have a1 : xs[k] ∈ xs.take c := by rw [List.mem_take_iff_getElem]; exact ⟨k, by omega, rfl⟩
    have := s1 _ a1
    have := h2 (by omega)
    omega
def OneK (B : Nat) (m : Int) (a b : World) : Prop := KeepS (fun k => B ≤ k) a b ∧ ∀ (k : Nat), a.heap[k]? = some (Obj.cells #[.int .i64 m] 3 (0, 0)) → b.heap[k]? = a.heap[k]?
theorem oneK_phase (B : Nat) (m : Int) : PhaseK Grows (OneK B m) :=
  ⟨fun a => ⟨KeepS.refl _ _, fun _ _ => rfl⟩, fun h k => ⟨h.1.trans k.1, fun i hi => (k.2 i ((h.2 i hi).trans hi)).trans (h.2 i hi)⟩, fun h => ⟨KeepS.of_grows h, fun k hk => h.block k (lt_heap hk)⟩, fun a => (Below.refl a.heap.size a).drew⟩
/-- A row of one's own on the way. -/
structure WithRow (B : Nat) (zs : List Int) (v : Value) (W : World) : Prop where
  own : OwnE W B 3 1 v zs.length (nums .i64 zs)
  zero : zs.length = 0 → ∃ a, v = .slice a 0 0
theorem WithRow.grows {B : Nat} {zs : List Int} {v : Value} {W W' : World} (h : WithRow B zs v W) (hg : Grows W W') : WithRow B zs v W' := ⟨h.1.grows hg, h.2⟩
set_option maxRecDepth 100000 in
set_option maxHeartbeats 4000000 in
theorem rwith_calls {W : World} {A : Option Addr} {c : Nat} {xs : List Int} (hr : ReadsInt W .i64 A xs.length xs) (hc : xs.length ≤ c) (hrise : Rises xs) (m : Int) (hn : xs.length ≤ 100000) :
    Calls Try.prog 33 #[.slice A xs.length c, .int .i64 m] W fun e w' => ∃ v', e = .returned v' ∧ Grows W w' ∧ ((v' = .slice A xs.length c ∧ ins xs m = xs) ∨ OwnE w' W.heap.size 3 1 v' (ins xs m).length (nums .i64 (ins xs m))) := by
  have HR := Aside0.mk hr
  have HRI := Aside0.mk hrise
  clear hr hrise
  go_enter Try.func33, Try.ntmps33
  go_wp2
  go_loopg [5] xs.length (fun f v5 wr => ∃ k : Nat, Aside0 (f + k = xs.length) ∧ k ≤ xs.length ∧ v5 = .int .i64 k ∧ wr = W ∧ Aside0 (∀ x ∈ xs.take k, x < m))
  case atStart => exact ⟨0, ⟨by omega⟩, by omega, rfl, rfl, ⟨fun x hx => by simp at hx⟩⟩
  case round =>
    obtain ⟨k, HF, hk, rfl, rfl, HS⟩ := hrel
    obtain ⟨W0, hW0⟩ : ∃ W0, W0 = wr := ⟨_, rfl⟩
    subst hW0
    by_cases hlt : k < xs.length
    · obtain ⟨ad, rfl, hcell⟩ := HR.out.2.2 (by omega)
      replace hcell := hcell k hlt
      rw [getD_lt hlt] at hcell
      obtain ⟨y, hy⟩ : ∃ y, xs[k] = y := ⟨_, rfl⟩
      rw [hy] at hcell
      have HY := Aside0.mk hy
      clear hy
      cases hyb : decide (y < m) with
      | true =>
        have HE := Aside0.mk (of_decide_eq_true hyb)
        go_wp2
        go_roundg (xs.length - (k + 1))
        case measure => have := HF.out; omega
        case rel =>
          refine ⟨k + 1, ⟨by omega⟩, by omega, by go_num, rfl, ⟨fun x hx => ?_⟩⟩
          rw [List.take_succ_eq_append_getElem hlt] at hx
          rcases List.mem_append.1 hx with hx | hx
          · exact HS.out x hx
          · rw [List.mem_singleton.1 hx, HY.out]; exact HE.out
      | false =>
        have HE := Aside0.mk (of_decide_eq_false hyb)
        have HCO := Aside0.mk (stop_count HRI.out m hk HS.out (fun _ => by have := HE.out; rw [HY.out]; omega))
        cases hye : (y == m) with
        | true =>
          have HEQ := Aside0.mk (beq_iff_eq.1 hye)
          go_wp2
          go_ret
          refine ⟨_, rfl, Grows.refl _, .inl ⟨rfl, ?_⟩⟩
          unfold ins
          rw [if_pos (by rw [List.contains_iff_mem, ← HEQ.out, ← HY.out]; exact List.getElem_mem _)]
        | false =>
          have HEQ := Aside0.mk (beq_eq_false_iff_ne.1 hye)
          have HNC := Aside0.mk (show xs.contains m = false by
            rw [Bool.eq_false_iff]
            intro h
            rw [List.contains_iff_mem] at h
            have h1 := (split_rise m HRI.out)
            rw [HCO.out] at h1
            rw [← List.take_append_drop k xs] at h
            rcases List.mem_append.1 h with h | h
            · have := h1.1 m h; omega
            · rw [List.drop_eq_getElem_cons hlt] at h
              rcases List.mem_cons.1 h with h | h
              · exact HEQ.out (by rw [← HY.out]; exact h.symm)
              · have h2 := (List.pairwise_cons.1 (List.drop_eq_getElem_cons hlt ▸ List.Pairwise.sublist (List.drop_sublist k xs) HRI.out)).1 m h
                have h3 := HE.out
                rw [HY.out] at h2
                omega)
          go_upto_region 6 with fail
          clear hcell hyb hye HS HF
          have hkl : k ≤ xs.length := by omega
          have hc0 := hc
          have hkc : k ≤ c := by omega
          have hck : ¬ c = k := by omega
          obtain ⟨T1, e1⟩ : ∃ T1, T1 = xs.take k := ⟨_, rfl⟩
          obtain ⟨T2, e2⟩ : ∃ T2, T2 = T1 ++ [m] := ⟨_, rfl⟩
          obtain ⟨T3, e3⟩ : ∃ T3, T3 = T2 ++ xs.drop k := ⟨_, rfl⟩
          have hT1 : T1.length ≤ 100000 := by rw [e1, List.length_take]; omega
          have hT2 : T2.length ≤ 100001 := by rw [e2, List.length_append]; simp; omega
          have E1 := Aside0.mk e1
          have E2 := Aside0.mk e2
          have E3 := Aside0.mk e3
          clear e1 e2 e3 hk
          apply wp_region_phase Grows (OneK W0.heap.size m) (oneK_phase W0.heap.size m) (fun _ => True) trivial (fun _ _ _ _ => trivial) (hm := by kernel_rfl) (hB := by kernel_rfl)
          case h =>
            apply phase_free (G := fun v _ => ∃ a, v = .slice a 0 0)
            case hw => simp [Region.wanted, yielded]
            case ho =>
              intro w' hk hf
              clear hf
              refine ⟨?_⟩
              go_simp
              exact ⟨(Below.refl _ _).alloc (Nat.le_refl _) _, _, rfl⟩
            case hm => exact fun v w w' h _ => h
            intro v33
            simp only [Act.put, List.setIfInBounds_toArray, List.set_cons_zero, List.set_cons_succ]
            iterate 2
              apply phase_fixed
              case hw => simp [Region.wanted, yielded]
              case ho =>
                intro w' hk hf
                clear hf
                refine ⟨?_⟩
                go_simp
                exact ⟨Grows.refl _, rfl⟩
              simp only [Act.put, List.setIfInBounds_toArray, List.set_cons_zero, List.set_cons_succ]
            apply phase_fixed (c := .slice (some ad) k c)
            case hw => simp [Region.wanted, yielded]
            case ho =>
              intro w' hk hf
              clear hf
              refine ⟨?_⟩
              go_simp
              exact ⟨Grows.refl _, rfl⟩
            simp only [Act.put, List.setIfInBounds_toArray, List.set_cons_zero, List.set_cons_succ]
            apply phase_turn_free (G := fun _ _ => True) (J := (fun v W => WithRow W0.heap.size T1 v W))
            case hw => simp [Region.wanted, yielded]
            case ho =>
              intro w' hk hf hI
              obtain ⟨a33, e33⟩ : ∃ a, v33 = .slice a 0 0 := hf _ (List.Mem.head _) (by kernel_rfl)
              clear hf
              subst e33
              obtain ⟨v1, w1, hrun, h2, h3, h4, h5⟩ := append_one (W := w') (B := W0.heap.size) (xs := []) (OwnE.nil a33) (fun _ => ⟨_, rfl⟩) (c := c) (reads_take (HR.out.below (hk.1.below (Nat.le_refl _) fun _ h => h)) k hkl) hk.1.size (by simp; omega)
              rw [List.nil_append, ← E1.out] at h2 h3
              exact growAt_append (.tmp 33) (.tmp 36) 29 rfl rfl rfl ⟨v1, w1, hrun, ⟨h4, fun q hq => h5 q _ hq⟩, ⟨h2, h3⟩, trivial⟩
            case hJ => exact fun v a c h hh => hh.grows h
            case hm => exact fun _ _ _ _ _ => trivial
            intro v37
            simp only [Act.put, List.setIfInBounds_toArray, List.set_cons_zero, List.set_cons_succ]
            iterate 1
              apply phase_fixed
              case hw => simp [Region.wanted, yielded]
              case ho =>
                intro w' hk hf
                clear hf
                refine ⟨?_⟩
                go_simp
                exact ⟨Grows.refl _, rfl⟩
              simp only [Act.put, List.setIfInBounds_toArray, List.set_cons_zero, List.set_cons_succ]
            apply phase_free (G := fun v W => ∃ q, v = .slice (some ⟨q, 0, none⟩) 1 1 ∧ W.heap[q]? = some (Obj.cells #[.int .i64 m] 3 (0, 0)))
            case hw => simp [Region.wanted, yielded]
            case ho =>
              intro w' hk hf
              clear hf
              refine ⟨?_⟩
              go_simp
              exact ⟨(Below.refl _ _).alloc (Nat.le_refl _) _, _, rfl, heap_alloc_new w' _⟩
            case hm => exact fun v w w' ⟨q, h1, h2⟩ hk => ⟨q, h1, (hk.2 q h2).trans h2⟩
            intro v39
            simp only [Act.put, List.setIfInBounds_toArray, List.set_cons_zero, List.set_cons_succ]
            apply phase_turn_free (G := fun _ _ => True) (J := (fun v W => WithRow W0.heap.size T2 v W))
            case hw => simp [Region.wanted, yielded]
            case ho =>
              intro w' hk hf hI
              obtain ⟨q39, e39, hq39⟩ : ∃ q, v39 = .slice (some ⟨q, 0, none⟩) 1 1 ∧ w'.heap[q]? = some (Obj.cells #[.int .i64 m] 3 (0, 0)) := hf _ (List.Mem.head _) (by kernel_rfl)
              clear hf
              subst e39
              obtain ⟨v1, w1, hrun, h2, h3, h4, h5⟩ := append_one (m := 1) hI.own hI.zero (c := 1) (lits_reads (xs := [m]) (by simp) hq39) hk.1.size (by omega)
              rw [← E2.out] at h2 h3
              exact growAt_append (.tmp 37) (.tmp 39) 29 rfl rfl rfl ⟨v1, w1, hrun, ⟨h4, fun q hq => h5 q _ hq⟩, ⟨h2, h3⟩, trivial⟩
            case hJ => exact fun v a c h hh => hh.grows h
            case hm => exact fun _ _ _ _ _ => trivial
            intro v40
            simp only [Act.put, List.setIfInBounds_toArray, List.set_cons_zero, List.set_cons_succ]
            iterate 2
              apply phase_fixed
              case hw => simp [Region.wanted, yielded]
              case ho =>
                intro w' hk hf
                clear hf
                refine ⟨?_⟩
                go_simp
                exact ⟨Grows.refl _, rfl⟩
              simp only [Act.put, List.setIfInBounds_toArray, List.set_cons_zero, List.set_cons_succ]
            apply phase_fixed (c := .slice (some (ad.add k)) (xs.length - k) (c - k))
            case hw => simp [Region.wanted, yielded]
            case ho =>
              intro w' hk hf
              clear hf
              refine ⟨?_⟩
              go_simp
              exact ⟨Grows.refl _, rfl⟩
            simp only [Act.put, List.setIfInBounds_toArray, List.set_cons_zero, List.set_cons_succ]
            apply phase_turn_free (G := fun _ _ => True) (J := (fun v W => WithRow W0.heap.size T3 v W))
            case hw => simp [Region.wanted, yielded]
            case ho =>
              intro w' hk hf hI
              clear hf
              obtain ⟨v1, w1, hrun, h2, h3, h4, h5⟩ := append_one hI.own hI.zero (c := c - k) (by have := reads_drop (HR.out.below (hk.1.below (Nat.le_refl _) fun _ h => h)) k c hkl hc0; rwa [if_neg hck] at this) hk.1.size (by omega)
              rw [← E3.out] at h2 h3
              exact growAt_append (.tmp 40) (.tmp 43) 29 rfl rfl rfl ⟨v1, w1, hrun, ⟨h4, fun q hq => h5 q _ hq⟩, ⟨h2, h3⟩, trivial⟩
            case hJ => exact fun v a c h hh => hh.grows h
            case hm => exact fun _ _ _ _ _ => trivial
            intro v44
            simp only [Act.put, List.setIfInBounds_toArray, List.set_cons_zero, List.set_cons_succ]
            apply phase_turn_free (G := fun _ _ => True) (J := (fun v W => WithRow W0.heap.size T3 v W))
            case hw => simp [Region.wanted, yielded]
            case ho =>
              intro w' hk hf hI
              clear hf
              have HI := Aside0.mk hI
              clear hI
              refine ⟨?_⟩
              go_simp
              exact ⟨(oneK_phase _ _).refl _, HI.out⟩
            case hJ => exact fun v a c h hh => hh.grows h
            case hm => exact fun _ _ _ _ _ => trivial
            intro v4
            simp only [Act.put, List.setIfInBounds_toArray, List.set_cons_zero, List.set_cons_succ]
            refine phase_nil fun w9 hk hI hf => ?_
            have HG := Aside0.mk (hk.1.below (Nat.le_refl _) fun _ h => h)
            have HO := Aside0.mk hI.own
            clear hk hI hf
            go_wp2
            go_ret
            have hins : ins xs m = T3 := by
              unfold ins
              rw [if_neg (by rw [HNC.out]; decide), HCO.out, E3.out, E2.out, E1.out]; simp
            exact ⟨_, rfl, HG.out, .inr (by rw [hins]; exact HO.out)⟩
          case ht => kernel_rfl
    · obtain rfl : k = xs.length := by omega
      have HCO := Aside0.mk (stop_count HRI.out m hk HS.out (fun h => absurd h (by omega)))
      have HNC := Aside0.mk (show xs.contains m = false by
        rw [Bool.eq_false_iff]
        intro h
        rw [List.contains_iff_mem] at h
        have h1 := HS.out
        rw [List.take_of_length_le (Nat.le_refl _)] at h1
        have := h1 m h
        omega)
      go_upto_region 6 with fail
      clear HS HF
      have hkl : xs.length ≤ xs.length := by omega
      have hc0 := hc
      have hkc : xs.length ≤ c := by omega
      obtain ⟨AK, hAK⟩ : ∃ AK, AK = (if c = xs.length then A else A.map (·.add xs.length)) := ⟨_, rfl⟩
      have HAK := Aside0.mk (fun {w : World} (h : ReadsInt w .i64 A xs.length xs) => (by rw [hAK]; exact reads_drop h xs.length c (Nat.le_refl _) hc : ReadsInt w .i64 AK (xs.length - xs.length) (xs.drop xs.length)))
      have hAK2 : (if c = xs.length then A else A.map (·.add xs.length)) = AK := hAK.symm
      clear hAK
      obtain ⟨T1, e1⟩ : ∃ T1, T1 = xs.take xs.length := ⟨_, rfl⟩
      obtain ⟨T2, e2⟩ : ∃ T2, T2 = T1 ++ [m] := ⟨_, rfl⟩
      obtain ⟨T3, e3⟩ : ∃ T3, T3 = T2 ++ xs.drop xs.length := ⟨_, rfl⟩
      have hT1 : T1.length ≤ 100000 := by rw [e1, List.length_take]; omega
      have hT2 : T2.length ≤ 100001 := by rw [e2, List.length_append]; simp; omega
      have E1 := Aside0.mk e1
      have E2 := Aside0.mk e2
      have E3 := Aside0.mk e3
      clear e1 e2 e3 hk
      apply wp_region_phase Grows (OneK W0.heap.size m) (oneK_phase W0.heap.size m) (fun _ => True) trivial (fun _ _ _ _ => trivial) (hm := by kernel_rfl) (hB := by kernel_rfl)
      case h =>
        apply phase_free (G := fun v _ => ∃ a, v = .slice a 0 0)
        case hw => simp [Region.wanted, yielded]
        case ho =>
          intro w' hk hf
          clear hf
          refine ⟨?_⟩
          go_simp
          exact ⟨(Below.refl _ _).alloc (Nat.le_refl _) _, _, rfl⟩
        case hm => exact fun v w w' h _ => h
        intro v33
        simp only [Act.put, List.setIfInBounds_toArray, List.set_cons_zero, List.set_cons_succ]
        iterate 2
          apply phase_fixed
          case hw => simp [Region.wanted, yielded]
          case ho =>
            intro w' hk hf
            clear hf
            refine ⟨?_⟩
            go_simp
            exact ⟨Grows.refl _, rfl⟩
          simp only [Act.put, List.setIfInBounds_toArray, List.set_cons_zero, List.set_cons_succ]
        apply phase_fixed (c := .slice A xs.length c)
        case hw => simp [Region.wanted, yielded]
        case ho =>
          intro w' hk hf
          clear hf
          refine ⟨?_⟩
          go_simp
          exact ⟨Grows.refl _, rfl⟩
        simp only [Act.put, List.setIfInBounds_toArray, List.set_cons_zero, List.set_cons_succ]
        apply phase_turn_free (G := fun _ _ => True) (J := (fun v W => WithRow W0.heap.size T1 v W))
        case hw => simp [Region.wanted, yielded]
        case ho =>
          intro w' hk hf hI
          obtain ⟨a33, e33⟩ : ∃ a, v33 = .slice a 0 0 := hf _ (List.Mem.head _) (by kernel_rfl)
          clear hf
          subst e33
          obtain ⟨v1, w1, hrun, h2, h3, h4, h5⟩ := append_one (W := w') (B := W0.heap.size) (xs := []) (OwnE.nil a33) (fun _ => ⟨_, rfl⟩) (c := c) (reads_take (HR.out.below (hk.1.below (Nat.le_refl _) fun _ h => h)) xs.length hkl) hk.1.size (by simp; omega)
          rw [List.nil_append, ← E1.out] at h2 h3
          exact growAt_append (.tmp 33) (.tmp 36) 29 rfl rfl rfl ⟨v1, w1, hrun, ⟨h4, fun q hq => h5 q _ hq⟩, ⟨h2, h3⟩, trivial⟩
        case hJ => exact fun v a c h hh => hh.grows h
        case hm => exact fun _ _ _ _ _ => trivial
        intro v37
        simp only [Act.put, List.setIfInBounds_toArray, List.set_cons_zero, List.set_cons_succ]
        iterate 1
          apply phase_fixed
          case hw => simp [Region.wanted, yielded]
          case ho =>
            intro w' hk hf
            clear hf
            refine ⟨?_⟩
            go_simp
            exact ⟨Grows.refl _, rfl⟩
          simp only [Act.put, List.setIfInBounds_toArray, List.set_cons_zero, List.set_cons_succ]
        apply phase_free (G := fun v W => ∃ q, v = .slice (some ⟨q, 0, none⟩) 1 1 ∧ W.heap[q]? = some (Obj.cells #[.int .i64 m] 3 (0, 0)))
        case hw => simp [Region.wanted, yielded]
        case ho =>
          intro w' hk hf
          clear hf
          refine ⟨?_⟩
          go_simp
          exact ⟨(Below.refl _ _).alloc (Nat.le_refl _) _, _, rfl, heap_alloc_new w' _⟩
        case hm => exact fun v w w' ⟨q, h1, h2⟩ hk => ⟨q, h1, (hk.2 q h2).trans h2⟩
        intro v39
        simp only [Act.put, List.setIfInBounds_toArray, List.set_cons_zero, List.set_cons_succ]
        apply phase_turn_free (G := fun _ _ => True) (J := (fun v W => WithRow W0.heap.size T2 v W))
        case hw => simp [Region.wanted, yielded]
        case ho =>
          intro w' hk hf hI
          obtain ⟨q39, e39, hq39⟩ : ∃ q, v39 = .slice (some ⟨q, 0, none⟩) 1 1 ∧ w'.heap[q]? = some (Obj.cells #[.int .i64 m] 3 (0, 0)) := hf _ (List.Mem.head _) (by kernel_rfl)
          clear hf
          subst e39
          obtain ⟨v1, w1, hrun, h2, h3, h4, h5⟩ := append_one (m := 1) hI.own hI.zero (c := 1) (lits_reads (xs := [m]) (by simp) hq39) hk.1.size (by omega)
          rw [← E2.out] at h2 h3
          exact growAt_append (.tmp 37) (.tmp 39) 29 rfl rfl rfl ⟨v1, w1, hrun, ⟨h4, fun q hq => h5 q _ hq⟩, ⟨h2, h3⟩, trivial⟩
        case hJ => exact fun v a c h hh => hh.grows h
        case hm => exact fun _ _ _ _ _ => trivial
        intro v40
        simp only [Act.put, List.setIfInBounds_toArray, List.set_cons_zero, List.set_cons_succ]
        iterate 2
          apply phase_fixed
          case hw => simp [Region.wanted, yielded]
          case ho =>
            intro w' hk hf
            clear hf
            refine ⟨?_⟩
            go_simp
            exact ⟨Grows.refl _, rfl⟩
          simp only [Act.put, List.setIfInBounds_toArray, List.set_cons_zero, List.set_cons_succ]
        apply phase_fixed (c := .slice AK (xs.length - xs.length) (c - xs.length))
        case hw => simp [Region.wanted, yielded]
        case ho =>
          intro w' hk hf
          clear hf
          refine ⟨?_⟩
          go_simp
          exact ⟨Grows.refl _, by simp⟩
        simp only [Act.put, List.setIfInBounds_toArray, List.set_cons_zero, List.set_cons_succ]
        apply phase_turn_free (G := fun _ _ => True) (J := (fun v W => WithRow W0.heap.size T3 v W))
        case hw => simp [Region.wanted, yielded]
        case ho =>
          intro w' hk hf hI
          clear hf
          obtain ⟨v1, w1, hrun, h2, h3, h4, h5⟩ := append_one hI.own hI.zero (c := c - xs.length) (HAK.out (HR.out.below (hk.1.below (Nat.le_refl _) fun _ h => h))) hk.1.size (by omega)
          rw [← E3.out] at h2 h3
          exact growAt_append (.tmp 40) (.tmp 43) 29 rfl rfl rfl ⟨v1, w1, hrun, ⟨h4, fun q hq => h5 q _ hq⟩, ⟨h2, h3⟩, trivial⟩
        case hJ => exact fun v a c h hh => hh.grows h
        case hm => exact fun _ _ _ _ _ => trivial
        intro v44
        simp only [Act.put, List.setIfInBounds_toArray, List.set_cons_zero, List.set_cons_succ]
        apply phase_turn_free (G := fun _ _ => True) (J := (fun v W => WithRow W0.heap.size T3 v W))
        case hw => simp [Region.wanted, yielded]
        case ho =>
          intro w' hk hf hI
          clear hf
          have HI := Aside0.mk hI
          clear hI
          refine ⟨?_⟩
          go_simp
          exact ⟨(oneK_phase _ _).refl _, HI.out⟩
        case hJ => exact fun v a c h hh => hh.grows h
        case hm => exact fun _ _ _ _ _ => trivial
        intro v4
        simp only [Act.put, List.setIfInBounds_toArray, List.set_cons_zero, List.set_cons_succ]
        refine phase_nil fun w9 hk hI hf => ?_
        have HG := Aside0.mk (hk.1.below (Nat.le_refl _) fun _ h => h)
        have HO := Aside0.mk hI.own
        clear hk hI hf
        go_wp2
        go_ret
        have hins : ins xs m = T3 := by
          unfold ins
          rw [if_neg (by rw [HNC.out]; decide), HCO.out, E3.out, E2.out, E1.out]; simp
        exact ⟨_, rfl, HG.out, .inr (by rw [hins]; exact HO.out)⟩
      case ht => kernel_rfl
end Go.Proofs.Ytdfjacpfmjgfiaa
