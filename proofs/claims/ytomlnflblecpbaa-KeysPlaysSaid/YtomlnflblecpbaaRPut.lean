/-
  Layer 13: the document's Put.
-/
import Derived.Test.YtomlnflblecpbaaRDir
import Derived.Deep.CutBlock
import Derived.Deep.DeepCutAuto
namespace Go.Proofs.Ytomlnflblecpbaa
set_option linter.unusedVariables false
set_option linter.unusedSimpArgs false
open Go.RowKit Go.Proofs.YtomlnflblecpbaaW.PrintWords Go.Proofs.YtomlnflblecpbaaW.PrintMore
attribute [local go_sem] max2_int min2_int
theorem tw_at {f : Pl → Bool} : ∀ {l : List Pl} {i : Nat}, i ≤ l.length → (∀ k (hk : k < l.length), k < i → f l[k] = true) → (∀ hk : i < l.length, f l[i] = false) → l.takeWhile f = l.take i ∧ l.dropWhile f = l.drop i
  | [], i, hi, h1, h2 => by
    obtain rfl : i = 0 := by simpa using hi
    exact ⟨rfl, rfl⟩
  | a :: l, 0, hi, h1, h2 => by
    have := h2 (by simp)
    rw [List.getElem_cons_zero] at this
    rw [List.takeWhile_cons, List.dropWhile_cons, this]
    exact ⟨rfl, rfl⟩
  | a :: l, i + 1, hi, h1, h2 => by
    have h := h1 0 (by simp) (by omega)
    rw [List.getElem_cons_zero] at h
    obtain ⟨q1, q2⟩ := tw_at (l := l) (i := i) (by simpa using hi) (fun k hk hki => by have := h1 (k + 1) (by simpa using hk) (by omega); rwa [List.getElem_cons_succ] at this) (fun hk => by have := h2 (by simpa using hk); rwa [List.getElem_cons_succ] at this)
    rw [List.takeWhile_cons, List.dropWhile_cons, h, if_pos rfl, if_pos rfl, q1, q2]
    exact ⟨rfl, rfl⟩
theorem flat_cells {W : World} {A : Option Addr} {l : List Pl} (h : ReadsP W A l) (h0 : 0 < l.length) : ∃ b, A = some ⟨b, 0, none⟩ ∧ ∀ j u, (flatP l)[j]? = some u → W.cell? ⟨b, j, none⟩ = some u := by
  obtain ⟨b, e, hp⟩ := h h0
  refine ⟨b, e, fun j u hu => ?_⟩
  have hj : j < l.length * 5 := by
    rcases Nat.lt_or_ge j (l.length * 5) with h | h
    · exact h
    · rw [List.getElem?_eq_none (by rw [flatP_len]; exact h)] at hu; cases hu
  have hq : j / 5 < l.length := by omega
  have hm : j % 5 < 5 := Nat.mod_lt _ (by omega)
  have hd : j = j / 5 * 5 + j % 5 := by omega
  rw [hd, flatP_at hq _ hm] at hu
  have hpq := hp (j / 5) hq
  rw [hd]
  generalize j % 5 = u5 at hu hm
  generalize l[j / 5] = x at hu hpq
  match u5, hm, hu with
  | 0, _, hu => obtain rfl := Option.some.inj hu; exact hpq.c0
  | 1, _, hu => obtain rfl := Option.some.inj hu; exact hpq.c1
  | 2, _, hu => obtain rfl := Option.some.inj hu; exact hpq.c2
  | 3, _, hu => obtain rfl := Option.some.inj hu; exact hpq.c3
  | 4, _, hu => obtain rfl := Option.some.inj hu; exact hpq.c4
theorem flatP_pre {l : List Pl} {i j : Nat} {u : Value} (hu : (flatP (l.take i))[j]? = some u) : (flatP l)[j]? = some u := by
  have : flatP l = flatP (l.take i) ++ flatP (l.drop i) := by rw [← flatP_app, List.take_append_drop]
  rw [this, List.getElem?_append_left (by
    rcases Nat.lt_or_ge j (flatP (l.take i)).length with h | h
    · exact h
    · rw [List.getElem?_eq_none h] at hu; cases hu)]
  exact hu
theorem flatP_suf {l : List Pl} {i j : Nat} {u : Value} (hi : i ≤ l.length) (hu : (flatP (l.drop i))[j]? = some u) : (flatP l)[i * 5 + j]? = some u := by
  have : flatP l = flatP (l.take i) ++ flatP (l.drop i) := by rw [← flatP_app, List.take_append_drop]
  have hl : (flatP (l.take i)).length = i * 5 := by rw [flatP_len, List.length_take]; congr 1; omega
  rw [this, List.getElem?_append_right (by omega), hl, Nat.add_sub_cancel_left]
  exact hu
theorem cells_take {W : World} {A : Option Addr} {l : List Pl} (h : ReadsP W A l) {i : Nat} (hi : i ≤ l.length) : 0 < i → ∃ ad, A = some ad ∧ ∀ j u, (flatP (l.take i))[j]? = some u → W.cell? (ad.add j) = some u := fun h0 => by
  obtain ⟨b, e, hc⟩ := flat_cells h (by omega)
  refine ⟨_, e, fun j u hu => ?_⟩
  have hadd : (⟨b, 0, none⟩ : Addr).add j = ⟨b, j, none⟩ := by unfold Addr.add; split <;> simp_all
  rw [hadd]
  exact hc j u (flatP_pre hu)
theorem cells_drop {W : World} {A : Option Addr} {c : Nat} {l : List Pl} (h : ReadsP W A l) (hc : l.length ≤ c) {i : Nat} (hi : i ≤ l.length) : 0 < l.length - i → ∃ ad, (if c = i then A else A.map (·.add (i * 5))) = some ad ∧ ∀ j u, (flatP (l.drop i))[j]? = some u → W.cell? (ad.add j) = some u := fun h0 => by
  obtain ⟨b, rfl, hcell⟩ := flat_cells h (by omega)
  rw [if_neg (by omega)]
  refine ⟨_, rfl, fun j u hu => ?_⟩
  have hadd : ((⟨b, 0, none⟩ : Addr).add (i * 5)).add j = ⟨b, i * 5 + j, none⟩ := by rw [add_add]; unfold Addr.add; split <;> simp_all
  rw [hadd]
  exact hcell _ u (flatP_suf hi hu)
theorem drew_grows (w : World) (n : Nat) : Grows w (w.drewN n) := pw_below_drewN (Below.refl _ w) n
theorem slice_to47 (A : Option Addr) (n c i : Nat) (hi : i ≤ n) (hc : n ≤ c) (W : World) : (Instr.slice 47 (.slice A n c) none (some (.int .i64 (i : Int))) none).run Try.prog W = .ok (.slice A i c) W := by
  obtain ⟨t, ht, hz⟩ := Option.map_eq_some_iff.1 (show (Try.prog.info? 32).map (fun i => i.size) = some 5 by kernel_rfl)
  have hel : Try.prog.elem 47 = 32 := by simp [Program.elem, Try.underlying47]
  have hu : Try.prog.underlying 47 = some (.slice (Try.prog.elem 47)) := by rw [hel]; exact Try.underlying47
  have ha : (A.map fun x => x.add 0) = A := by cases A <;> simp [Addr.add]
  rw [run_slice_h W 47 A n c hu .i64 (i : Int) (by omega) (by omega), hel]
  simp [sizeOf, typeInfo, ht, hz, sliced, Result.andThen, ha]
theorem slice_from47 (A : Option Addr) (n c i : Nat) (hi : i ≤ n) (hc : n ≤ c) (W : World) : (Instr.slice 47 (.slice A n c) (some (.int .i64 (i : Int))) none none).run Try.prog W = .ok (.slice (if c = i then A else A.map (·.add (i * 5))) (n - i) (c - i)) W := by
  obtain ⟨t, ht, hz⟩ := Option.map_eq_some_iff.1 (show (Try.prog.info? 32).map (fun i => i.size) = some 5 by kernel_rfl)
  have hel : Try.prog.elem 47 = 32 := by simp [Program.elem, Try.underlying47]
  have hu : Try.prog.underlying 47 = some (.slice (Try.prog.elem 47)) := by rw [hel]; exact Try.underlying47
  rw [run_slice_l W 47 A n c hu .i64 (i : Int) (by omega) (by omega), hel]
  simp [sizeOf, typeInfo, ht, hz, sliced, Result.andThen]
set_option maxRecDepth 100000 in
set_option maxHeartbeats 4000000 in
theorem rput_calls {W : World} {O : Nat → Prop} {g : Nat} {m : List Pl} (h : RD W O g m) (p : Pl) (hm : m.length ≤ 100000) :
    Calls Try.prog 21 #[.pointer (some ⟨g, 0, none⟩), .agg p.cells] W (RPost W O g (putM m p) (.tuple #[.agg ((getM m p.key).getD zeroPl).cells, .bool (getM m p.key).isSome])) := by
  obtain ⟨v, h⟩ := h
  have g0 : Grows W (W.alloc (.cells p.cells 32)) := (Below.refl W.heap.size W).alloc (Nat.le_refl _) _
  have g1 : Grows (W.alloc (.cells p.cells 32)) ((W.alloc (.cells p.cells 32)).alloc (.cells zeroPl.cells 32)) := (Below.refl _ _).alloc (Nat.le_refl _) _
  have gg := g0.trans (g1.mono g0.size)
  have HB := Aside0.mk h
  have HG := Aside0.mk gg
  have HQ1 := Aside0.mk ((PBox.new W p).grows g1)
  have HQ2 := Aside0.mk (PBox.new (W.alloc (.cells p.cells 32)) zeroPl)
  have HC := Aside0.mk (rget_calls (⟨v, h.grows gg⟩ : RD _ O g m) p.key (by omega))
  have HLN2 := Aside0.mk (show (W.alloc (.cells p.cells 32)).heap.size = W.heap.size + 1 from Array.size_push _)
  clear h g0 g1 gg
  obtain ⟨sg, kd, ky, at_, sz⟩ := p
  dsimp only at *
  go_enter Try.func21, Try.ntmps21
  go_upto_region 1 with fail
  change Code.wp _ _ _ _ ((W.alloc (.cells (Pl.cells ⟨sg, kd, ky, at_, sz⟩) 32)).alloc (.cells zeroPl.cells 32))
  generalize (W.alloc (.cells (Pl.cells ⟨sg, kd, ky, at_, sz⟩) 32)).alloc (.cells zeroPl.cells 32) = W1 at *
  generalize (W.alloc (.cells (Pl.cells ⟨sg, kd, ky, at_, sz⟩) 32)).heap.size = q2 at HQ2 HLN2 ⊢
  generalize hq1 : W.heap.size = q1 at HQ1 HLN2 ⊢
  have HE1 := Aside0.mk hq1
  clear hq1
  have e2 := HLN2.out
  subst e2
  have k2 := HQ1.out.c2
  dsimp only at k2
  obtain ⟨b1, hb1⟩ : ∃ b1, (getM m ky).isSome = b1 := ⟨_, rfl⟩
  obtain ⟨p1, hp1⟩ : ∃ p1, (getM m ky).getD zeroPl = p1 := ⟨_, rfl⟩
  rw [hb1, hp1] at HC
  have H1 := Aside0.mk hb1
  have H2 := Aside0.mk hp1
  clear hb1 hp1
  obtain ⟨a1, a2, a3, a4, a5⟩ := p1
  dsimp only [Pl.cells] at HC
  go_upto_region 2 with (go_at_call 16; refine HC.out.mono ?_; clear HC; rintro e w2 ⟨rfl, hg⟩; have HG2 := Aside0.mk hg; clear hg)
  change Code.wp _ _ _ _ (w2.alloc (.cells (Pl.cells ⟨a1, a2, a3, a4, a5⟩) 32))
  have g3 : Grows w2 (w2.alloc (.cells (Pl.cells ⟨a1, a2, a3, a4, a5⟩) 32)) := (Below.refl w2.heap.size w2).alloc (Nat.le_refl _) _
  have HG3 := Aside0.mk (show Grows W (w2.alloc (.cells (Pl.cells ⟨a1, a2, a3, a4, a5⟩) 32)) from (HG.out.trans (HG2.out.mono HG.out.size)).trans (g3.mono (Nat.le_trans HG.out.size HG2.out.size)))
  have HQ13 := Aside0.mk ((HQ1.out.grows HG2.out).grows g3)
  have HQ23 := Aside0.mk ((HQ2.out.grows HG2.out).grows g3)
  have HP3 := Aside0.mk (PBox.new w2 ⟨a1, a2, a3, a4, a5⟩)
  have HQ8 := Aside0.mk (show q1 + 1 < w2.heap.size from lt_heap (HQ2.out.grows HG2.out).blk)
  clear g3 HQ1 HQ2 HG HG2 k2
  generalize w2.alloc (.cells (Pl.cells ⟨a1, a2, a3, a4, a5⟩) 32) = w3 at *
  generalize w2.heap.size = q8 at HP3 HQ8 ⊢
  have HB3 := Aside0.mk (HB.out.grows HG3.out)
  obtain ⟨A, c, ev, hc, hr⟩ := reads_of_own HB3.out.row
  subst ev
  have HR3 := Aside0.mk hr
  have HQ83 := Aside0.mk (show q8 < w3.heap.size from lt_heap HP3.out.blk)
  have HGR := Aside0.mk (show ∀ w4, KeepS (fun _ => False) w3 w4 → Grows w3 w4 from fun w4 hk => hk.below (Nat.le_refl _) fun _ h => h.elim)
  clear hr
  go_upto_region 2 with fail
  apply wp_region_phase Grows (KeepS (fun _ => False)) (phaseK _) (fun _ => True) trivial (fun _ _ _ _ => trivial) (hm := by kernel_rfl) (hB := by kernel_rfl)
  case h =>
    iterate 2
      apply phase_fixed
      case hw => simp [Region.wanted, yielded]
      case ho =>
        intro w' hk hf
        clear hf
        refine ⟨?_⟩
        go_simp
        exact ⟨Grows.refl _, rfl⟩
      simp only [Act.put, List.setIfInBounds_toArray, List.set_cons_zero, List.set_cons_succ]
    iterate 1
      apply phase_fixed
      case hw => simp [Region.wanted, yielded]
      case ho =>
        intro w' hk hf
        clear hf
        refine ⟨?_⟩
        go_simp
        exact ⟨Grows.refl _, rfl⟩
      simp only [Act.put, List.setIfInBounds_toArray, List.set_cons_zero, List.set_cons_succ]
    apply phase_fixed (c := .slice A m.length c)
    case hw => simp [Region.wanted, yielded]
    case ho =>
      intro w' hk hf
      clear hf
      have q0 := (HB3.out.grows (HGR.out w' hk)).c0
      refine ⟨?_⟩
      go_simp
      exact ⟨Grows.refl _, rfl⟩
    simp only [Act.put, List.setIfInBounds_toArray, List.set_cons_zero, List.set_cons_succ]
    iterate 2
      apply phase_fixed
      case hw => simp [Region.wanted, yielded]
      case ho =>
        intro w' hk hf
        clear hf
        refine ⟨?_⟩
        go_simp
        exact ⟨Grows.refl _, rfl⟩
      simp only [Act.put, List.setIfInBounds_toArray, List.set_cons_zero, List.set_cons_succ]
    apply phase_fixed (c := .string ky)
    case hw => simp [Region.wanted, yielded]
    case ho =>
      intro w' hk hf
      clear hf
      have q0 := (HQ13.out.grows (HGR.out w' hk)).c2
      dsimp only at q0
      refine ⟨?_⟩
      go_simp
      exact ⟨Grows.refl _, rfl⟩
    simp only [Act.put, List.setIfInBounds_toArray, List.set_cons_zero, List.set_cons_succ]
    apply phase_free (G := fun v W => W.ownsRow w3.heap.size 32 5 v (delM m ky).length (flatP (delM m ky)))
    case hw => simp [Region.wanted, yielded]
    case ho =>
      intro w' hk hf
      clear hf
      have HWC := Aside0.mk (without_calls (c := c) (HR3.out.grows (HGR.out w' hk)) ky hm)
      have hsz := hk.size
      refine ⟨?_⟩
      go_simp
      refine HWC.out.mono ?_
      rintro e w5 ⟨v5, rfl, ho, hg⟩
      exact ⟨_, rfl, hg, own_mono ho hsz⟩
    case hm => exact fun v w w' h hk => own_grows h (hk.below (Nat.le_refl _) fun _ h => h.elim)
    intro v25
    simp only [Act.put, List.setIfInBounds_toArray, List.set_cons_zero, List.set_cons_succ]
    apply phase_free (G := fun v W => W.ownsRow w3.heap.size 32 5 v (delM m ky).length (flatP (delM m ky)))
    case hw => simp [Region.wanted, yielded]
    case ho =>
      intro w' hk hf
      have h25 : w'.ownsRow w3.heap.size 32 5 v25 (delM m ky).length (flatP (delM m ky)) := hf _ (List.Mem.head _) (by kernel_rfl)
      clear hf
      have H25 := Aside0.mk h25
      clear h25
      refine ⟨?_⟩
      go_simp
      exact ⟨Grows.refl _, H25.out⟩
    case hm => exact fun v w w' h hk => own_grows h (hk.below (Nat.le_refl _) fun _ h => h.elim)
    intro v8
    simp only [Act.put, List.setIfInBounds_toArray, List.set_cons_zero, List.set_cons_succ]
    refine phase_nil fun w4 hk hI hf => ?_
    have h8 : w4.ownsRow w3.heap.size 32 5 v8 (delM m ky).length (flatP (delM m ky)) := hf _ (List.Mem.head _)
    clear hf hI
    have HG4 := Aside0.mk (HGR.out w4 hk)
    clear hk HGR
    obtain ⟨A8, c8, e8, hc8, hr8⟩ := reads_of_own (own_mono h8 (Nat.zero_le _))
    have hL8 : (delM m ky).length ≤ 100000 := Nat.le_trans (del_length_le m ky) hm
    generalize hL : delM m ky = L at *
    have HL := Aside0.mk hL
    have HR8 := Aside0.mk hr8
    have HO8 := Aside0.mk h8
    clear hL h8 hr8
    subst e8
    have HQ14 := Aside0.mk (HQ13.out.grows HG4.out)
    have HBL := Aside0.mk (show w3.heap.size ≤ w4.heap.size from HG4.out.size)
    go_upto_block 0 with fail
    go_cut [9] (fun v9 wc => ∃ i : Nat, v9 = .int .i64 i ∧ i ≤ L.length ∧ Aside0 (Grows w4 wc ∧ L.takeWhile (fun q => klt q.key ky) = L.take i ∧ L.dropWhile (fun q => klt q.key ky) = L.drop i))
    case first =>
      go_wp2
      go_loopg [9] L.length (fun f v9 wr => ∃ i : Nat, Aside0 (f + i = L.length) ∧ i ≤ L.length ∧ v9 = .int .i64 i ∧ Aside0 (Grows w4 wr ∧ ∀ k (hk : k < L.length), k < i → klt L[k].key ky = true))
      case atStart => exact ⟨0, ⟨by omega⟩, by omega, rfl, ⟨Grows.refl _, fun k hk h => by omega⟩⟩
      case round =>
        obtain ⟨i, HF, hi, rfl, HS⟩ := hrel
        have q0 := (HQ14.out.grows HS.out.1).c2
        dsimp only at q0
        by_cases hlt : i < L.length
        · obtain ⟨b, ea, hp⟩ := (HR8.out.grows HS.out.1) (by omega)
          obtain ⟨k0, k1, k2, k3, k4⟩ := hp i hlt
          subst ea
          clear hp HR8
          obtain ⟨x, hx⟩ : ∃ x, L[i] = x := ⟨_, rfl⟩
          rw [hx] at k0 k1 k2 k3 k4
          have HX := Aside0.mk hx
          clear hx
          obtain ⟨x1, x2, x3, x4, x5⟩ := x
          dsimp only at k0 k1 k2 k3 k4
          have hd1 : decide ((i : Int) < (L.length : Int)) = true := decide_eq_true (by omega)
          cases hkb : Op.bytesLess x3.toList ky.toList with
          | true =>
            have HK := Aside0.mk (show klt x3 ky = true from hkb)
            go_wp2
            go_quiet (fail)
            go_wp2
            go_roundg (L.length - (i + 1))
            case measure => have := HF.out; omega
            case rel =>
              refine ⟨i + 1, ⟨by omega⟩, by omega, by go_num, ⟨HS.out.1.trans ((drew_grows wr _).mono HS.out.1.size), fun k hk h => ?_⟩⟩
              by_cases hki : k = i
              · subst hki; rw [HX.out]; exact HK.out
              · exact HS.out.2 k hk (by omega)
          | false =>
            have HK := Aside0.mk (show klt x3 ky = false from hkb)
            have HT := Aside0.mk (tw_at (f := fun q => klt q.key ky) hi HS.out.2 (fun _ => by rw [HX.out]; exact HK.out))
            go_wp2
            go_quiet (fail)
            go_wp2
            go_meet
            case rel => exact ⟨i, rfl, by omega, ⟨HS.out.1.trans ((drew_grows wr _).mono HS.out.1.size), HT.out⟩⟩
        · obtain rfl : i = L.length := by omega
          have HT := Aside0.mk (tw_at (f := fun q => klt q.key ky) hi HS.out.2 (fun h => by omega))
          have hd1 : decide ((L.length : Int) < (L.length : Int)) = false := decide_eq_false (by omega)
          go_wp2
          go_quiet (fail)
          go_wp2
          go_meet
          case rel => exact ⟨L.length, rfl, by omega, ⟨HS.out.1.trans ((drew_grows wr _).mono HS.out.1.size), HT.out⟩⟩
    case rest =>
      obtain ⟨i, rfl, hi, HS⟩ := hcut
      have HGW := Aside0.mk HS.out.1
      have HTW := Aside0.mk HS.out.2
      clear HS
      have HR9 := Aside0.mk (HR8.out.grows HGW.out)
      have HQ19 := Aside0.mk (HQ14.out.grows HGW.out)
      have HQ29 := Aside0.mk ((HQ23.out.grows HG4.out).grows HGW.out)
      have HP9 := Aside0.mk ((HP3.out.grows HG4.out).grows HGW.out)
      have HG9 := Aside0.mk (show Grows W wc from (HG3.out.trans (HG4.out.mono HG3.out.size)).trans (HGW.out.mono (Nat.le_trans HG3.out.size HG4.out.size)))
      have HB9 := Aside0.mk (HB.out.grows HG9.out)
      have HQ89 := Aside0.mk (show q8 < wc.heap.size from lt_heap HP9.out.blk)
      clear HR8 HQ14 HQ13 HQ23 HP3 HG3 HG4 HGW HB3 HR3 HQ83 HBL HO8
      obtain ⟨T1, e1⟩ : ∃ T1, T1 = L.take i := ⟨_, rfl⟩
      obtain ⟨T2, e2⟩ : ∃ T2, T2 = T1 ++ [(⟨sg, kd, ky, at_, sz⟩ : Pl)] := ⟨_, rfl⟩
      obtain ⟨T3, e3⟩ : ∃ T3, T3 = T2 ++ L.drop i := ⟨_, rfl⟩
      have hT1 : T1.length = i := by rw [e1, List.length_take]; omega
      have hT2 : T2.length = i + 1 := by rw [e2, List.length_append, hT1]; rfl
      have hT3 : T3.length = L.length + 1 := by rw [e3, List.length_append, hT2, List.length_drop]; omega
      have E1 := Aside0.mk e1
      have E2 := Aside0.mk e2
      have E3 := Aside0.mk e3
      clear e1 e2 e3
      obtain ⟨AK, hAK⟩ : ∃ AK, (if c8 = i then A8 else A8.map (·.add (i * 5))) = AK := ⟨_, rfl⟩
      have HS1 := Aside0.mk (slice_to47 A8 L.length c8 i hi hc8)
      have HS2 := Aside0.mk (slice_from47 A8 L.length c8 i hi hc8)
      rw [hAK] at HS2
      have HAK := Aside0.mk hAK
      clear hAK
      go_upto_region 6 with fail
      apply wp_region_phase_last (K0 := Grows) (K := OneC wc.heap.size 32 5) (hK := oneC_phase _ _ _) (I0 := fun _ => True) (h0 := trivial) (hI := fun _ _ _ _ => trivial) (hL := by rfl) (hm := by kernel_rfl) (hB := by kernel_rfl) (hB2 := by kernel_rfl)
      case h =>
        simp only [List.dropLast_cons_cons, List.dropLast_singleton]
        iterate 1
          apply phase_fixed
          case hw => simp [Region.wanted, yielded]
          case ho =>
            intro w' hk hf
            clear hf
            refine ⟨?_⟩
            go_simp
            exact ⟨Grows.refl _, rfl⟩
          simp only [Act.put, List.setIfInBounds_toArray, List.set_cons_zero, List.set_cons_succ]
        apply phase_free (G := fun v _ => ∃ a, v = .slice a 0 0)
        case hw => simp [Region.wanted, yielded]
        case ho =>
          intro w' hk hf
          clear hf
          refine ⟨?_⟩
          go_simp
          exact ⟨(Below.refl _ _).alloc (Nat.le_refl _) _, _, rfl⟩
        case hm => exact fun v w w' h _ => h
        intro v45
        simp only [Act.put, List.setIfInBounds_toArray, List.set_cons_zero, List.set_cons_succ]
        iterate 2
          apply phase_fixed
          case hw => simp [Region.wanted, yielded]
          case ho =>
            intro w' hk hf
            clear hf
            refine ⟨?_⟩
            go_simp
            exact ⟨Grows.refl _, rfl⟩
          simp only [Act.put, List.setIfInBounds_toArray, List.set_cons_zero, List.set_cons_succ]
        apply phase_fixed (c := .slice A8 i c8)
        case hw => simp [Region.wanted, yielded]
        case ho =>
          intro w' hk hf
          clear hf
          have hs := HS1.out w'
          refine ⟨?_⟩
          go_simp
          exact ⟨Grows.refl _, rfl⟩
        simp only [Act.put, List.setIfInBounds_toArray, List.set_cons_zero, List.set_cons_succ]
        apply phase_turn_free (G := fun _ _ => True) (J := (fun v W => ChainE W wc.heap.size 32 5 v T1.length (flatP T1)))
        case hw => simp [Region.wanted, yielded]
        case ho =>
          intro w' hk hf hI
          obtain ⟨a45, e45⟩ : ∃ a, v45 = .slice a 0 0 := hf _ (List.Mem.head _) (by kernel_rfl)
          clear hf
          subst e45
          obtain ⟨v1, w1, hrun, h2, h3⟩ := pl_chain (W := w') wc.heap.size (.slice a45 0 0) [] (L.take i) A8 i c8 (ChainE.nil a45) (by rw [List.length_take]; omega) (cells_take (HR9.out.grows hk.grows) hi) hk.1.size (by simp; omega)
          rw [List.nil_append, ← E1.out] at h2
          exact growAt_append (.tmp 45) (.tmp 48) 47 rfl rfl rfl ⟨v1, w1, hrun, h3, h2, trivial⟩
        case hJ => exact fun v a c h hh => hh.grows h
        case hm => exact fun _ _ _ _ _ => trivial
        intro v49
        simp only [Act.put, List.setIfInBounds_toArray, List.set_cons_zero, List.set_cons_succ]
        apply phase_fixed (c := .agg (Pl.cells (⟨sg, kd, ky, at_, sz⟩ : Pl)))
        case hw => simp [Region.wanted, yielded]
        case ho =>
          intro w' hk hf
          clear hf
          have hq := HQ19.out.grows hk.grows
          have d0 := hq.c0; have d1 := hq.c1; have d2 := hq.c2; have d3 := hq.c3; have d4 := hq.c4
          dsimp only at d0 d1 d2 d3 d4
          refine ⟨?_⟩
          go_simp
          exact ⟨Grows.refl _, rfl⟩
        simp only [Act.put, List.setIfInBounds_toArray, List.set_cons_zero, List.set_cons_succ]
        apply phase_free (G := fun v W => ∃ q, v = .slice (some ⟨q, 0, none⟩) 1 1 ∧ W.heap[q]? = some (Obj.cells (Pl.cells (⟨sg, kd, ky, at_, sz⟩ : Pl)) 32 (0, 0)))
        case hw => simp [Region.wanted, yielded]
        case ho =>
          intro w' hk hf
          clear hf
          refine ⟨?_⟩
          go_simp
          exact ⟨(Below.refl _ _).alloc (Nat.le_refl _) _, _, rfl, heap_alloc_new w' _⟩
        case hm => exact fun v w w' ⟨q, h1, h2⟩ hk => ⟨q, h1, (hk.2 q _ _ h2 (by show 5 < 2 * 5; omega)).trans h2⟩
        intro v51
        simp only [Act.put, List.setIfInBounds_toArray, List.set_cons_zero, List.set_cons_succ]
        apply phase_turn_free (G := fun _ _ => True) (J := (fun v W => ChainE W wc.heap.size 32 5 v T2.length (flatP T2)))
        case hw => simp [Region.wanted, yielded]
        case ho =>
          intro w' hk hf hI
          obtain ⟨q51, e51, hq51⟩ : ∃ q, v51 = .slice (some ⟨q, 0, none⟩) 1 1 ∧ w'.heap[q]? = some (Obj.cells (Pl.cells (⟨sg, kd, ky, at_, sz⟩ : Pl)) 32 (0, 0)) := hf _ (List.Mem.head _) (by kernel_rfl)
          clear hf
          subst e51
          obtain ⟨v1, w1, hrun, h2, h3⟩ := pl_chain (W := w') wc.heap.size v49 T1 [(⟨sg, kd, ky, at_, sz⟩ : Pl)] (some ⟨q51, 0, none⟩) 1 1 hI rfl (cells_box hq51 1 rfl) hk.1.size (by omega)
          rw [← E2.out] at h2
          exact growAt_append (.tmp 49) (.tmp 51) 47 rfl rfl rfl ⟨v1, w1, hrun, h3, h2, trivial⟩
        case hJ => exact fun v a c h hh => hh.grows h
        case hm => exact fun _ _ _ _ _ => trivial
        intro v52
        simp only [Act.put, List.setIfInBounds_toArray, List.set_cons_zero, List.set_cons_succ]
        iterate 2
          apply phase_fixed
          case hw => simp [Region.wanted, yielded]
          case ho =>
            intro w' hk hf
            clear hf
            refine ⟨?_⟩
            go_simp
            exact ⟨Grows.refl _, rfl⟩
          simp only [Act.put, List.setIfInBounds_toArray, List.set_cons_zero, List.set_cons_succ]
        apply phase_fixed (c := .slice AK (L.length - i) (c8 - i))
        case hw => simp [Region.wanted, yielded]
        case ho =>
          intro w' hk hf
          clear hf
          have hs := HS2.out w'
          refine ⟨?_⟩
          go_simp
          exact ⟨Grows.refl _, rfl⟩
        simp only [Act.put, List.setIfInBounds_toArray, List.set_cons_zero, List.set_cons_succ]
        apply phase_turn_free (G := fun _ _ => True) (J := (fun v W => ChainE W wc.heap.size 32 5 v T3.length (flatP T3)))
        case hw => simp [Region.wanted, yielded]
        case ho =>
          intro w' hk hf hI
          clear hf
          obtain ⟨v1, w1, hrun, h2, h3⟩ := pl_chain (W := w') wc.heap.size v52 T2 (L.drop i) AK (L.length - i) (c8 - i) hI (by rw [List.length_drop]) (by rw [← HAK.out]; exact cells_drop (HR9.out.grows hk.grows) hc8 hi) hk.1.size (by omega)
          rw [← E3.out] at h2
          exact growAt_append (.tmp 52) (.tmp 55) 47 rfl rfl rfl ⟨v1, w1, hrun, h3, h2, trivial⟩
        case hJ => exact fun v a c h hh => hh.grows h
        case hm => exact fun _ _ _ _ _ => trivial
        intro v56
        simp only [Act.put, List.setIfInBounds_toArray, List.set_cons_zero, List.set_cons_succ]
        iterate 2
          apply phase_fixed
          case hw => simp [Region.wanted, yielded]
          case ho =>
            intro w' hk hf
            clear hf
            refine ⟨?_⟩
            go_simp
            exact ⟨Grows.refl _, rfl⟩
          simp only [Act.put, List.setIfInBounds_toArray, List.set_cons_zero, List.set_cons_succ]
        refine phase_nil fun w9 hk hI hf => ?_
        clear hf
        have hrow := ownE_own hI (by omega)
        have HG99 := Aside0.mk (hk.grows)
        clear hk hI
        obtain ⟨A56, c56, rfl, hc56⟩ := own_slice hrow
        have HRW := Aside0.mk hrow
        have hput : putM m (⟨sg, kd, ky, at_, sz⟩ : Pl) = T3 := by
          unfold putM insM
          show (List.takeWhile (fun q => klt q.key ky) (delM m ky)) ++ (⟨sg, kd, ky, at_, sz⟩ : Pl) :: (List.dropWhile (fun q => klt q.key ky) (delM m ky)) = T3
          rw [HL.out, HTW.out.1, HTW.out.2, E3.out, E2.out, E1.out]; simp
        have HPUT := Aside0.mk hput
        clear hput hrow hT1 hT2 hT3
        have q1' := (HB9.out.grows HG99.out).c0
        have q2' := (HB9.out.grows HG99.out).fr 0
        have HGW9 := Aside0.mk (HG9.out.trans (HG99.out.mono HG9.out.size))
        have HQ2s := Aside0.mk ((HQ29.out.grows HG99.out).keep (Below.heap_setCell w9 ⟨g, 0, none⟩ (.slice A56 T3.length c56) (q1 + 1) (fun e => by have := HB.out.lt; have := HE1.out; have e2 : q1 + 1 = g := e; omega)))
        have HP8s := Aside0.mk ((HP9.out.grows HG99.out).keep (Below.heap_setCell w9 ⟨g, 0, none⟩ (.slice A56 T3.length c56) q8 (fun e => by have := HB.out.lt; have := HE1.out; have := HQ8.out; have e2 : q8 = g := e; omega)))
        have HFIN := Aside0.mk (rd_post (m' := T3) (q := q1 + 1) (.tuple #[.agg ((getM m ky).getD zeroPl).cells, .bool (getM m ky).isSome]) (Pl.vals (⟨a1, a2, a3, a4, a5⟩ : Pl)) HB.out HGW9.out HG9.out.size HRW.out (by rw [HE1.out]; exact Nat.le_succ _) (by have := HQ8.out; have := HQ89.out; omega))
        rw [H1.out, H2.out] at HFIN
        have e0 := HP8s.out.c0; have e1 := HP8s.out.c1; have e2 := HP8s.out.c2; have e3 := HP8s.out.c3; have e4 := HP8s.out.c4
        dsimp only at e0 e1 e2 e3 e4
        have d0 := HQ2s.out.c0; have d1 := HQ2s.out.c1; have d2 := HQ2s.out.c2; have d3 := HQ2s.out.c3; have d4 := HQ2s.out.c4
        have f0 := HQ2s.out.fr 0; have f1' := HQ2s.out.fr 1; have f2 := HQ2s.out.fr 2; have f3 := HQ2s.out.fr 3; have f4 := HQ2s.out.fr 4
        refine ⟨by simp [Region.wanted, yielded], ⟨?_⟩⟩
        go_simp
        simp only [growUpon]
        change (_ : Act → World → Prop) _ (w9.setCell ⟨g, 0, none⟩ (.slice A56 T3.length c56))
        generalize hwa : (w9.setCell ⟨g, 0, none⟩ (.slice A56 T3.length c56)) = wa at *
        go_wp2
        exact bodyPost_ret (results_box_tmp (fn := Try.f21) (p := 4) (u := 5) rfl _ _ (q1 + 1) (⟨a1, a2, a3, a4, a5⟩ : Pl) rfl (HQ2s.out.set (⟨a1, a2, a3, a4, a5⟩ : Pl))) rfl (by rw [H1.out, H2.out, HPUT.out]; exact HFIN.out)
      case ht => kernel_rfl
  case ht => kernel_rfl
end Go.Proofs.Ytomlnflblecpbaa
