/-
  Layer 17: the document's table as it lies in memory; what it tells.
-/
import Derived.Test.YtdfjacpfmjgfiaaAs
namespace Go.Proofs.Ytdfjacpfmjgfiaa
set_option linter.unusedVariables false
set_option linter.unusedSimpArgs false
open Go.Shelf Go.RowKit Go.Proofs.YtdfjacpfmjgfiaaW.PrintWords Go.Proofs.YtdfjacpfmjgfiaaW.PrintMore PPinPlays
attribute [local go_sem] max2_int
/-- A handle of the document's: its number, its segments, the slice of these. -/
abbrev RH := Int × List Int × Value
def flat (rs : List RH) : List Value := rs.flatMap fun r => [.int .i64 r.1, r.2.2]
def absR (rs : List RH) : HL := rs.map fun r => (r.1, r.2.1)
/-- Segments as they lie: none of these cells is written again. -/
def SegRow (W : World) (O : Nat → Prop) (v : Value) (l : List Int) : Prop :=
  ∃ A c, v = .slice A l.length c ∧ l.length ≤ c ∧ ReadsInt W .i64 A l.length l ∧ ∀ ad, A = some ad → 0 < l.length → O ad.block ∧ ∃ cs fr, W.heap[ad.block]? = some (.cells cs 3 fr)
theorem SegRow.keep {W W' : World} {O O' : Nat → Prop} {v : Value} {l : List Int} (h : SegRow W O v l) (hk : ∀ k cs fr, O k → W.heap[k]? = some (.cells cs 3 fr) → W'.heap[k]? = W.heap[k]?) (hO : ∀ k, O k → k < W.heap.size → O' k) : SegRow W' O' v l := by
  obtain ⟨A, c, e, hc, hr, hb⟩ := h
  refine ⟨A, c, e, hc, ⟨hr.1, hr.2.1, fun h0 => ?_⟩, fun ad ea h0 => ?_⟩
  · obtain ⟨ad, ea, hcell⟩ := hr.2.2 h0
    obtain ⟨h1, cs, fr, h2⟩ := hb ad ea h0
    refine ⟨ad, ea, fun j hj => ?_⟩
    rw [← hcell j hj]
    exact World.cell?_of_block (by rw [add_block]; exact hk _ _ _ h1 h2)
  · obtain ⟨h1, cs, fr, h2⟩ := hb ad ea h0
    exact ⟨hO _ h1 (lt_heap h2), cs, fr, (hk _ _ _ h1 h2).trans h2⟩
/-- The document's table. -/
structure RTb (W : World) (O : Nat → Prop) (g : Nat) (most next : Int) (rs : List RH) (vL : Value) : Prop where
  blk : W.heap[g]? = some (.cells #[.int .i64 most, vL, .int .i64 next] 54 (0, 0))
  row : W.ownsRow 0 62 2 vL rs.length (flat rs)
  mine : ∀ k, vL.ownBlock = some k → O k
  segs : ∀ r ∈ rs, SegRow W O r.2.2 r.2.1
  og : O g
theorem flat_len (rs : List RH) : (flat rs).length = rs.length * 2 := by
  unfold flat
  induction rs with
  | nil => rfl
  | cons r rs ih => rw [List.flatMap_cons, List.length_append, ih, List.length_cons]; simp; omega
theorem flat_at : ∀ {rs : List RH} {i : Nat} (h : i < rs.length), (flat rs)[i * 2]? = some (.int .i64 rs[i].1) ∧ (flat rs)[i * 2 + 1]? = some rs[i].2.2
  | r :: rs, 0, h => ⟨rfl, rfl⟩
  | r :: rs, i + 1, h => by
    have ih := flat_at (rs := rs) (i := i) (by simpa using h)
    have e : flat (r :: rs) = .int .i64 r.1 :: r.2.2 :: flat rs := rfl
    rw [e, show (i + 1) * 2 = i * 2 + 2 by omega, show i * 2 + 2 + 1 = i * 2 + 1 + 2 by omega]
    simpa using ih
theorem RTb.at_ {W : World} {O : Nat → Prop} {g : Nat} {most next : Int} {rs : List RH} {vL : Value} (h : RTb W O g most next rs vL) {i : Nat} (hi : i < rs.length) :
    ∃ b c, vL = .slice (some ⟨b, 0, none⟩) rs.length c ∧ rs.length ≤ c ∧ W.cell? ⟨b, i * 2, none⟩ = some (.int .i64 rs[i].1) ∧ W.cell? ⟨b, i * 2 + 1, none⟩ = some rs[i].2.2 := by
  rcases h.row.2 with ⟨_, h0⟩ | ⟨b, cap, cur, e, _, hb, hc, hcm, hcs, hcur⟩
  · omega
  · have hf := flat_at hi
    have get : ∀ j u, (flat rs)[j]? = some u → W.cell? ⟨b, j, none⟩ = some u := fun j u hu => by
      rw [cell_of_row W b j cur 62 (0, 0) hb, ← Array.getElem?_toList]
      rw [← hcur, List.getElem?_take] at hu
      split at hu
      · exact hu
      · cases hu
    exact ⟨b, cap, e, hc, get _ _ hf.1, get _ _ hf.2⟩
theorem RTb.c0 {W : World} {O : Nat → Prop} {g : Nat} {most next : Int} {rs : List RH} {vL : Value} (h : RTb W O g most next rs vL) : W.cell? ⟨g, 0, none⟩ = some (.int .i64 most) := cell_of_row W g 0 _ 54 (0, 0) h.blk
theorem RTb.c1 {W : World} {O : Nat → Prop} {g : Nat} {most next : Int} {rs : List RH} {vL : Value} (h : RTb W O g most next rs vL) : W.cell? ⟨g, 1, none⟩ = some vL := cell_of_row W g 1 _ 54 (0, 0) h.blk
theorem RTb.c2 {W : World} {O : Nat → Prop} {g : Nat} {most next : Int} {rs : List RH} {vL : Value} (h : RTb W O g most next rs vL) : W.cell? ⟨g, 2, none⟩ = some (.int .i64 next) := cell_of_row W g 2 _ 54 (0, 0) h.blk
theorem RTb.fr {W : World} {O : Nat → Prop} {g : Nat} {most next : Int} {rs : List RH} {vL : Value} (h : RTb W O g most next rs vL) (j : Nat) : W.frozen? ⟨g, j, none⟩ = false := frozen_of_row W g j _ 54 h.blk
/-- Where a handle is. -/
def AtIs (rs : List RH) (h j : Int) : Prop := (∃ i : Nat, ∃ hi : i < rs.length, j = i ∧ rs[i].1 = h ∧ ∀ k (hk : k < i), rs[k].1 ≠ h) ∨ (j = -1 ∧ ∀ r ∈ rs, r.1 ≠ h)
set_option maxRecDepth 100000 in
set_option maxHeartbeats 1000000 in
theorem rat_calls {W : World} {O : Nat → Prop} {g : Nat} {most next : Int} {rs : List RH} {vL : Value} (h : RTb W O g most next rs vL) (hd : Int) (hn : rs.length ≤ 1000000) :
    Calls Try.prog 32 #[.pointer (some ⟨g, 0, none⟩), .int .i64 hd] W fun e w' => (∃ j : Int, e = .returned (.int .i64 j) ∧ AtIs rs hd j) ∧ w' = W := by
  have q1 := h.c1
  obtain ⟨Av, cv, ev, hcv⟩ := own_slice h.row
  subst ev
  have H := Aside0.mk h
  clear h
  go_enter Try.func32, Try.ntmps32
  go_wp2
  go_loopg [5] rs.length (fun f v5 wr => ∃ i : Nat, Aside0 (f + i = rs.length) ∧ i ≤ rs.length ∧ v5 = .int .i64 i ∧ wr = W ∧ Aside0 (∀ k (hk : k < rs.length), k < i → rs[k].1 ≠ hd))
  case atStart => exact ⟨0, ⟨by omega⟩, by omega, rfl, rfl, ⟨fun k hk h => by omega⟩⟩
  case round =>
    obtain ⟨i, HF, hi, rfl, rfl, HS⟩ := hrel
    by_cases hlt : i < rs.length
    · obtain ⟨b, c, ev, _, k0, k1⟩ := H.out.at_ hlt
      injection ev with ev _ ev3
      subst ev ev3
      obtain ⟨y, hy⟩ : ∃ y, rs[i].1 = y := ⟨_, rfl⟩
      rw [hy] at k0
      have HY := Aside0.mk hy
      clear hy k1
      cases hyb : (y == hd) with
      | true =>
        have HE := Aside0.mk (beq_iff_eq.1 hyb)
        go_wp2
        go_ret
        exact ⟨⟨_, rfl, .inl ⟨i, hlt, rfl, HY.out.trans HE.out, fun k hk => HS.out k (by omega) hk⟩⟩, rfl⟩
      | false =>
        have HE := Aside0.mk (beq_eq_false_iff_ne.1 hyb)
        go_wp2
        go_roundg (rs.length - (i + 1))
        case measure => have := HF.out; omega
        case rel =>
          refine ⟨i + 1, ⟨by omega⟩, by omega, by go_num, rfl, ⟨fun k hk h => ?_⟩⟩
          by_cases hki : k = i
          · subst hki; rw [HY.out]; exact HE.out
          · exact HS.out k hk (by omega)
    · obtain rfl : i = rs.length := by omega
      go_wp2
      go_ret
      refine ⟨⟨_, rfl, .inr ⟨rfl, fun r hr => ?_⟩⟩, rfl⟩
      obtain ⟨k, hk, rfl⟩ := List.getElem_of_mem hr
      exact HS.out k hk hk
theorem AtIs.isS {rs : List RH} {h j : Int} (ha : AtIs rs h j) : (getL (absR rs) h).isSome = decide (0 ≤ j) := by
  rw [Bool.eq_iff_iff, getL_some, decide_eq_true_iff]
  unfold absR
  rw [List.map_map]
  rcases ha with ⟨i, hi, rfl, h1, _⟩ | ⟨rfl, h1⟩
  · exact ⟨fun _ => by omega, fun _ => List.mem_map.2 ⟨rs[i], List.getElem_mem _, h1⟩⟩
  · constructor
    · intro h2
      obtain ⟨r, hr, e⟩ := List.mem_map.1 h2
      exact absurd e (h1 r hr)
    · intro h2; omega
set_option maxRecDepth 100000 in
theorem ris_calls {W : World} {O : Nat → Prop} {g : Nat} {most next : Int} {rs : List RH} {vL : Value} (h : RTb W O g most next rs vL) (hd : Int) (hn : rs.length ≤ 1000000) :
    Calls Try.prog 22 #[.pointer (some ⟨g, 0, none⟩), .int .i64 hd] W fun e w' => e = .returned (.bool (getL (absR rs) hd).isSome) ∧ w' = W := by
  have HA := Aside0.mk (rat_calls h hd hn)
  clear h
  go_enter Try.func22, Try.ntmps22
  go_wp2_with (go_at_call 32; refine HA.out.mono ?_; clear HA; rintro e w' ⟨⟨j, rfl, ha⟩, rfl⟩; have HA := Aside0.mk ha; clear ha)
  go_ret
  exact ⟨by rw [HA.out.isS]; rfl, rfl⟩
set_option maxRecDepth 100000 in
theorem rmany_calls {W : World} {O : Nat → Prop} {g : Nat} {most next : Int} {rs : List RH} {vL : Value} (h : RTb W O g most next rs vL) :
    Calls Try.prog 20 #[.pointer (some ⟨g, 0, none⟩)] W fun e w' => e = .returned (.int .i64 (absR rs).length) ∧ w' = W := by
  have q1 := h.c1
  obtain ⟨Av, cv, ev, hcv⟩ := own_slice h.row
  subst ev
  have e : (absR rs).length = rs.length := by simp [absR]
  rw [e]
  clear h
  go_enter Try.func20, Try.ntmps20
  go_wp2
  go_ret
  exact ⟨rfl, rfl⟩
theorem AtIs.get {rs : List RH} {h : Int} {i : Nat} (hk : Keyed' (absR rs)) (hi : i < rs.length) (e : rs[i].1 = h) : getL (absR rs) h = some rs[i].2.1 :=
  getL_of_mem hk (by rw [← e]; exact List.mem_map.2 ⟨rs[i], List.getElem_mem _, rfl⟩)
set_option maxRecDepth 100000 in
set_option maxHeartbeats 1000000 in
theorem rof_calls {W : World} {O : Nat → Prop} {g : Nat} {most next : Int} {rs : List RH} {vL : Value} (h : RTb W O g most next rs vL) (hk : Keyed' (absR rs)) (hd : Int) (hn : rs.length ≤ 1000000) (hl : ∀ r ∈ rs, r.2.1.length ≤ 1000000) :
    Calls Try.prog 25 #[.pointer (some ⟨g, 0, none⟩), .int .i64 hd] W fun e w' => ∃ A c, e = .returned (.slice A ((getL (absR rs) hd).getD []).length c) ∧ ((getL (absR rs) hd).getD []).length ≤ c ∧ ReadsInt w' .i64 A ((getL (absR rs) hd).getD []).length ((getL (absR rs) hd).getD []) ∧ Grows W w' := by
  have HA := Aside0.mk (rat_calls h hd hn)
  have q1 := h.c1
  have H := Aside0.mk h
  have HL := Aside0.mk hl
  have HK := Aside0.mk hk
  obtain ⟨Av, cv, ev, hcv⟩ := own_slice h.row
  subst ev
  clear h hl hk
  obtain ⟨L, hL⟩ : ∃ L, (getL (absR rs) hd).getD [] = L := ⟨_, rfl⟩
  rw [hL]
  have HLL := Aside0.mk hL
  clear hL
  go_enter Try.func25, Try.ntmps25
  go_upto_region 2 with (go_at_call 32; refine HA.out.mono ?_; clear HA; rintro e w' ⟨⟨j, rfl, ha⟩, rfl⟩; have HA := Aside0.mk ha; clear ha)
  rcases HA.out with ⟨i, hi, rfl, h1, _⟩ | ⟨rfl, h1⟩
  · have hL := HLL.out
    rw [AtIs.get HK.out hi h1] at hL
    simp only [Option.getD_some] at hL
    obtain ⟨b, c, ev, _, k0, k1⟩ := H.out.at_ hi
    injection ev with ev _ ev3
    subst ev ev3
    obtain ⟨A, c2, es, hc2, hr2, _⟩ := H.out.segs rs[i] (List.getElem_mem _)
    obtain ⟨v1, w1, hr, ho, hg⟩ := append_new (c := c2) hr2 (HL.out _ (List.getElem_mem _))
    rw [es] at k1
    rw [hL] at k1 hr ho
    have HO := Aside0.mk ho
    have HG := Aside0.mk hg
    have g0 : Grows w' (w'.alloc (.cells #[] 3)) := (Below.refl w'.heap.size w').alloc (Nat.le_refl _) (.cells #[] 3)
    have q1' := cell_below g0 q1
    have k1' := cell_below g0 k1
    clear HA h1 k0 hr2 ho hg H HK hL HLL es hc2 g0
    go_wp2_with (at_builtin; refine wpList_appendE (.tmp 11) (.tmp 19) 29 rfl rfl rfl rfl ⟨_, _, hr, ?_⟩; clear hr)
    go_ret
    obtain ⟨A1, c1, rfl, hc1⟩ := own_slice HO.out
    exact ⟨A1, c1, rfl, hc1, own_reads' HO.out, HG.out⟩
  · have hno : getL (absR rs) hd = none := getL_none.2 fun x hx => by
      obtain ⟨r, hr, rfl⟩ := List.mem_map.1 hx
      exact h1 r hr
    have hL := HLL.out
    rw [hno] at hL
    have hL2 : L = [] := hL.symm
    subst hL2
    clear HA h1 H hno hL HLL
    go_wp2
    go_ret
    exact ⟨none, 0, rfl, Nat.le_refl _, ⟨rfl, by decide, fun h => absurd h (Nat.lt_irrefl 0)⟩, Grows.refl _⟩
set_option maxRecDepth 100000 in
set_option maxHeartbeats 2000000 in
theorem rpinned_calls {W : World} {O : Nat → Prop} {g : Nat} {most next : Int} {rs : List RH} {vL : Value} (h : RTb W O g most next rs vL) (seg : Int) (hn : rs.length ≤ 1000000) (hl : ∀ r ∈ rs, r.2.1.length ≤ 1000000) :
    Calls Try.prog 27 #[.pointer (some ⟨g, 0, none⟩), .int .i64 seg] W fun e w' => e = .returned (.bool (decide (0 < cnt (absR rs) seg))) ∧ w' = W := by
  have q1 := h.c1
  have H := Aside0.mk h
  have HL := Aside0.mk hl
  obtain ⟨Av, cv, ev, hcv⟩ := own_slice h.row
  subst ev
  clear h hl
  go_enter Try.func27, Try.ntmps27
  go_wp2
  go_loopg [5] rs.length (fun f v5 wr => ∃ i : Nat, Aside0 (f + i = rs.length) ∧ i ≤ rs.length ∧ v5 = .int .i64 i ∧ wr = W ∧ Aside0 (∀ k (hk : k < rs.length), k < i → rs[k].2.1.contains seg = false))
  case atStart => exact ⟨0, ⟨by omega⟩, by omega, rfl, rfl, ⟨fun k hk h => by omega⟩⟩
  case round =>
    obtain ⟨i, HF, hi, rfl, rfl, HS⟩ := hrel
    obtain ⟨W0, hW0⟩ : ∃ W0, W0 = wr := ⟨_, rfl⟩
    subst hW0
    by_cases hlt : i < rs.length
    · obtain ⟨b, c, ev, _, k0, k1⟩ := H.out.at_ hlt
      injection ev with ev _ ev3
      subst ev ev3
      obtain ⟨A, c2, es, hc2, hr2, _⟩ := H.out.segs rs[i] (List.getElem_mem _)
      rw [es] at k1
      have hxl := HL.out rs[i] (List.getElem_mem _)
      obtain ⟨xs, hxs⟩ : ∃ xs, rs[i].2.1 = xs := ⟨_, rfl⟩
      rw [hxs] at k1 hc2 hr2 hxl
      have HXS := Aside0.mk hxs
      have HR2 := Aside0.mk hr2
      clear k0 es hxs hr2
      go_wp2
      go_loopg [6] xs.length (fun f v6 wr => ∃ j : Nat, Aside0 (f + j = xs.length) ∧ j ≤ xs.length ∧ v6 = .int .i64 j ∧ wr = W0 ∧ Aside0 (∀ q, q < j → xs.getD q 0 ≠ seg))
      case atStart => exact ⟨0, ⟨by omega⟩, by omega, rfl, rfl, ⟨fun q hq => by omega⟩⟩
      case round =>
        obtain ⟨j, HF2, hj, rfl, rfl, HS2⟩ := hrel
        by_cases hlt2 : j < xs.length
        · obtain ⟨ad2, rfl, hcell⟩ := HR2.out.2.2 (by omega)
          replace hcell := hcell j hlt2
          obtain ⟨y, hy⟩ : ∃ y, xs.getD j 0 = y := ⟨_, rfl⟩
          rw [hy] at hcell
          have HY := Aside0.mk hy
          clear hy
          cases hyb : (y == seg) with
          | true =>
            have HE := Aside0.mk (beq_iff_eq.1 hyb)
            go_wp2
            go_ret
            refine ⟨?_, rfl⟩
            have : 0 < cnt (absR rs) seg := by
              unfold cnt
              rw [List.countP_pos_iff]
              refine ⟨_, List.mem_map.2 ⟨rs[i], List.getElem_mem _, rfl⟩, ?_⟩
              show rs[i].2.1.contains seg = true
              rw [HXS.out, List.contains_iff_mem, ← HE.out, ← HY.out, getD_lt hlt2]
              exact List.getElem_mem _
            rw [decide_eq_true this]; rfl
          | false =>
            have HE := Aside0.mk (beq_eq_false_iff_ne.1 hyb)
            go_wp2
            go_roundg (xs.length - (j + 1))
            case measure => have := HF2.out; omega
            case rel =>
              refine ⟨j + 1, ⟨by omega⟩, by omega, by go_num, rfl, ⟨fun q hq => ?_⟩⟩
              by_cases hqj : q = j
              · rw [hqj, HY.out]; exact HE.out
              · exact HS2.out q (by omega)
        · obtain rfl : j = xs.length := by omega
          go_wp2
          go_roundg (rs.length - (i + 1))
          case measure => have := HF.out; omega
          case rel =>
            refine ⟨i + 1, ⟨by omega⟩, by omega, by go_num, rfl, ⟨fun k hk h => ?_⟩⟩
            by_cases hki : k = i
            · subst hki
              rw [HXS.out, Bool.eq_false_iff]
              intro hc
              rw [List.contains_iff_mem] at hc
              obtain ⟨q, hq, e⟩ := List.getElem_of_mem hc
              exact HS2.out q hq (by rw [getD_lt hq]; exact e)
            · exact HS.out k hk (by omega)
    · obtain rfl : i = rs.length := by omega
      go_wp2
      go_ret
      refine ⟨?_, rfl⟩
      have : ¬ 0 < cnt (absR rs) seg := by
        unfold cnt
        rw [List.countP_pos_iff]
        rintro ⟨x, hx, hc⟩
        obtain ⟨r, hr, rfl⟩ := List.mem_map.1 hx
        obtain ⟨k, hk, rfl⟩ := List.getElem_of_mem hr
        have h1 := HS.out k hk hk
        have h2 : rs[k].2.1.contains seg = true := hc
        rw [h1] at h2; cases h2
      rw [decide_eq_false this]; rfl
end Go.Proofs.Ytdfjacpfmjgfiaa
