/-
  Layer 17: the document's Pin.
-/
import Derived.Test.YtdfjacpfmjgfiaaROpen
namespace Go.Proofs.Ytdfjacpfmjgfiaa
set_option linter.unusedVariables false
set_option linter.unusedSimpArgs false
open Go.Shelf Go.RowKit Go.Proofs.YtdfjacpfmjgfiaaW.PrintWords Go.Proofs.YtdfjacpfmjgfiaaW.PrintMore PPinPlays
attribute [local go_sem] max2_int
theorem own_empty62 {W : World} {g : Nat} (h : W.heap[g]? = some (.cells #[] 62 (0, 0))) : W.ownsRow g 62 2 (.slice (some ⟨g, 0, none⟩) 0 0) ([] : List RH).length (flat []) :=
  ⟨rfl, .inr ⟨g, 0, _, rfl, Nat.le_refl _, h, Nat.le_refl _, by decide, rfl, rfl⟩⟩
/-- append([]Handle{}, ..). -/
theorem hands_new {W : World} {rs2 : List RH} {A : Option Addr} {m c : Nat} (hm : rs2.length = m) (hcells : 0 < m → ∃ ad, A = some ad ∧ ∀ j u, (flat rs2)[j]? = some u → W.cell? (ad.add j) = some u) (h1 : ∀ r ∈ rs2, r.2.2.oneCell' = true) (hl : m ≤ 1000000) :
    ∃ v1 w1, (Builtin.append_ #[52, 52] 52 #[.slice (some ⟨W.heap.size, 0, none⟩) 0 0, .slice A m c]).run Try.prog (W.alloc (.cells #[] 62)) = .ok v1 w1 ∧ w1.ownsRow W.heap.size 62 2 v1 rs2.length (flat rs2) ∧ Grows W w1 := by
  have g0 : Grows W (W.alloc (.cells #[] 62)) := (Below.refl W.heap.size W).alloc (Nat.le_refl _) (.cells #[] 62)
  have ho0 := own_empty62 (heap_alloc_new W (.cells #[] 62))
  obtain ⟨v1, w1, hr, ho, hg, hloc⟩ := hands_run W.heap.size (.slice (some ⟨W.heap.size, 0, none⟩) 0 0) [] rs2 A m c ho0 hm (fun h => by
    obtain ⟨ad, e, hc⟩ := hcells h
    exact ⟨ad, e, fun j u hu => cell_below g0 (hc j u hu)⟩) h1 g0.size (by simp; omega)
  exact ⟨v1, w1, hr, ho, grown_own g0 hg ho0⟩
theorem RTb.cells {W : World} {O : Nat → Prop} {g : Nat} {most next : Int} {rs : List RH} {A : Option Addr} {c : Nat} (h : RTb W O g most next rs (.slice A rs.length c)) (h0 : 0 < rs.length) : ∃ ad, A = some ad ∧ ad.spot = none ∧ ad.off = 0 ∧ ∀ j u, (flat rs)[j]? = some u → W.cell? (ad.add j) = some u := by
  rcases h.row.2 with ⟨_, h1⟩ | ⟨b, cap, cur, e, _, hb, hc, hcm, hcs, hcur⟩
  · omega
  · injection e with e _ _
    subst e
    refine ⟨⟨b, 0, none⟩, rfl, rfl, rfl, fun j u hu => ?_⟩
    have hadd : (⟨b, 0, none⟩ : Addr).add j = ⟨b, j, none⟩ := by unfold Addr.add; split <;> simp_all
    rw [hadd, cell_of_row W b j cur 62 (0, 0) hb, ← Array.getElem?_toList]
    rw [← hcur, List.getElem?_take] at hu
    split at hu
    · exact hu
    · cases hu
theorem hands_at {W : World} {B : Nat} {v : Value} {rs : List RH} (h : W.ownsRow B 62 2 v rs.length (flat rs)) {i : Nat} (hi : i < rs.length) :
    ∃ b c cur, v = .slice (some ⟨b, 0, none⟩) rs.length c ∧ rs.length ≤ c ∧ W.heap[b]? = some (.cells cur 62 (0, 0)) ∧ cur.size = c * 2 ∧ cur.toList.take (rs.length * 2) = flat rs ∧ W.cell? ⟨b, i * 2, none⟩ = some (.int .i64 rs[i].1) ∧ W.cell? ⟨b, i * 2 + 1, none⟩ = some rs[i].2.2 ∧ B ≤ b ∧ c ≤ maxLen := by
  rcases h.2 with ⟨_, h0⟩ | ⟨b, cap, cur, e, hB, hb, hc, hcm, hcs, hcur⟩
  · omega
  · have hf := flat_at hi
    have get : ∀ j u, (flat rs)[j]? = some u → W.cell? ⟨b, j, none⟩ = some u := fun j u hu => by
      rw [cell_of_row W b j cur 62 (0, 0) hb, ← Array.getElem?_toList]
      rw [← hcur, List.getElem?_take] at hu
      split at hu
      · exact hu
      · cases hu
    exact ⟨b, cap, cur, e, hc, hb, hcs, hcur, get _ _ hf.1, get _ _ hf.2, hB, hcm⟩
theorem rs_split {rs : List RH} {i : Nat} (hi : i < rs.length) : rs = rs.take i ++ rs[i] :: rs.drop (i + 1) := by
  rw [← List.drop_eq_getElem_cons hi, List.take_append_drop]
theorem others {rs : List RH} {i : Nat} (hi : i < rs.length) (hk : Keyed' (absR rs)) : (∀ y ∈ absR (rs.take i), y.1 ≠ rs[i].1) ∧ ∀ y ∈ absR (rs.drop (i + 1)), y.1 ≠ rs[i].1 := by
  have e := rs_split hi
  have h : absR rs = absR (rs.take i) ++ (rs[i].1, rs[i].2.1) :: absR (rs.drop (i + 1)) := by
    conv => lhs; rw [e]
    unfold absR; rw [List.map_append, List.map_cons]
  unfold Keyed' at hk
  rw [h, List.map_append, List.map_cons] at hk
  obtain ⟨h1, h2, h3⟩ := List.nodup_append.1 hk
  obtain ⟨h4, h5⟩ := List.nodup_cons.1 h2
  exact ⟨fun y hy e => h3 y.1 (List.mem_map_of_mem hy) rs[i].1 (by simp) e, fun y hy e => (show rs[i].1 ∉ (absR (rs.drop (i + 1))).map (·.1) from h4) (by rw [← e]; exact List.mem_map_of_mem (f := fun x : Int × List Int => x.1) hy)⟩
theorem abs_split {rs : List RH} {i : Nat} (hi : i < rs.length) : absR rs = absR (rs.take i) ++ (rs[i].1, rs[i].2.1) :: absR (rs.drop (i + 1)) := by
  conv => lhs; rw [rs_split hi]
  unfold absR; rw [List.map_append, List.map_cons]
theorem abs_set {rs : List RH} {i : Nat} (hi : i < rs.length) (hk : Keyed' (absR rs)) (n : Int) (s : Value) : absR (rs.set i (rs[i].1, ins rs[i].2.1 n, s)) = pinL (absR rs) rs[i].1 n := by
  obtain ⟨h1, h2⟩ := others hi hk
  rw [abs_split hi, pinL_split h1 h2, List.set_eq_take_append_cons_drop, if_pos hi]
  unfold absR; rw [List.map_append, List.map_cons]
theorem abs_del {rs : List RH} {i : Nat} (hi : i < rs.length) (hk : Keyed' (absR rs)) : absR (rs.take i ++ rs.drop (i + 1)) = delL (absR rs) rs[i].1 := by
  obtain ⟨h1, h2⟩ := others hi hk
  rw [abs_split hi, delL_split h1 h2]
  unfold absR; rw [List.map_append]
theorem flat_take : ∀ (rs : List RH) (i : Nat), flat (rs.take i) = (flat rs).take (i * 2)
  | rs, 0 => by simp [flat]
  | [], i + 1 => by simp [flat]
  | r :: rs, i + 1 => by
    have e : ∀ x : List RH, flat (r :: x) = .int .i64 r.1 :: r.2.2 :: flat x := fun _ => rfl
    rw [List.take_succ_cons, e, e, flat_take rs i, show (i + 1) * 2 = i * 2 + 1 + 1 by omega, List.take_succ_cons, List.take_succ_cons]
theorem flat_drop : ∀ (rs : List RH) (i : Nat), flat (rs.drop i) = (flat rs).drop (i * 2)
  | rs, 0 => by simp
  | [], i + 1 => by simp [flat]
  | r :: rs, i + 1 => by
    have e : ∀ x : List RH, flat (r :: x) = .int .i64 r.1 :: r.2.2 :: flat x := fun _ => rfl
    rw [List.drop_succ_cons, e, flat_drop rs i, show (i + 1) * 2 = i * 2 + 1 + 1 by omega, List.drop_succ_cons, List.drop_succ_cons]
theorem flat_set {rs : List RH} {i : Nat} (hi : i < rs.length) (r : RH) : flat (rs.set i r) = (flat rs).take (i * 2) ++ [.int .i64 r.1, r.2.2] ++ (flat rs).drop (i * 2 + 2) := by
  rw [List.set_eq_take_append_cons_drop, if_pos hi, flat_app, flat_take, show flat (r :: rs.drop (i + 1)) = [.int .i64 r.1, r.2.2] ++ flat (rs.drop (i + 1)) from rfl, flat_drop, show (i + 1) * 2 = i * 2 + 2 by omega, List.append_assoc]
/-- One handle of an own row turns. -/
theorem hands_set {W : World} {B b c : Nat} {rs : List RH} (h : W.ownsRow B 62 2 (.slice (some ⟨b, 0, none⟩) rs.length c) rs.length (flat rs)) {i : Nat} (hi : i < rs.length) (r : RH) :
    ((W.setCell ⟨b, i * 2, none⟩ (.int .i64 r.1)).setCell ⟨b, i * 2 + 1, none⟩ r.2.2).ownsRow B 62 2 (.slice (some ⟨b, 0, none⟩) (rs.set i r).length c) (rs.set i r).length (flat (rs.set i r)) := by
  rcases h.2 with ⟨h, _⟩ | ⟨b', cap, cur, hv, hBb, hb, hc, hcm, hcs, hcur⟩
  · cases h
  · injection hv with h1 h2 h3
    injection h1 with h1
    injection h1 with h1
    subst h1 h3
    refine ⟨flat_len _, .inr ⟨b, c, spl cur (i * 2) [.int .i64 r.1, r.2.2], rfl, hBb, heap_spl b [.int .i64 r.1, r.2.2] (i * 2) W cur hb, by rw [List.length_set]; exact hc, hcm, by rw [spl_size]; exact hcs, ?_⟩⟩
    have hsz : cur.toList.length = c * 2 := by rw [Array.length_toList]; exact hcs
    have hfl := flat_len rs
    rw [spl_list _ _ _ (by simp only [List.length_cons, List.length_nil]; omega), flat_set hi, List.length_set, ← hcur]
    simp only [List.length_cons, List.length_nil]
    rw [List.take_take, Nat.min_eq_left (by omega), List.take_append, List.take_of_length_le (by simp only [List.length_append, List.length_take, List.length_cons, List.length_nil]; omega)]
    congr 1
    rw [List.drop_take]
    simp only [List.length_append, List.length_take, List.length_cons, List.length_nil, hsz]
    congr 1
    omega
set_option maxRecDepth 100000 in
set_option maxHeartbeats 2000000 in
theorem rpin_calls {W : World} {O : Nat → Prop} {g : Nat} {most next : Int} {hl : HL} (h : RTA W O g most next hl) (hok : HOk next hl) (hb : hl.length ≤ 50000) (hbl : ∀ x ∈ hl, x.2.length ≤ 50000) (hd n : Int) :
    Calls Try.prog 14 #[.pointer (some ⟨g, 0, none⟩), .int .i64 hd, .int .i64 n] W (RPost W O g most next (pinL hl hd n) (.bool (getL hl hd).isSome)) := by
  have hh := h
  obtain ⟨rs, vL, h1, h2⟩ := hh
  have c1 := h1.c1
  have hl2 : rs.length = hl.length := by rw [← h2]; simp [absR]
  obtain ⟨Av, cv, ev, hcv⟩ := own_slice h1.row
  subst ev
  have HA := Aside0.mk (rat_calls h1 hd (by omega))
  have H := Aside0.mk h
  have H1 := Aside0.mk h1
  have H2 := Aside0.mk h2
  have HK := Aside0.mk hok
  have HBL := Aside0.mk hbl
  have hrl : rs.length ≤ 50000 := by omega
  clear h h1 h2 hl2 hok hbl
  go_enter Try.func14, Try.ntmps14
  go_upto_region 2 with (go_at_call 32; refine HA.out.mono ?_; clear HA; rintro e w' ⟨⟨j, rfl, ha⟩, rfl⟩; have HA := Aside0.mk ha; clear ha)
  rcases HA.out with ⟨i, hi, rfl, e1, e2⟩ | ⟨rfl, e1⟩
  · have hge : getL hl hd = some rs[i].2.1 := by rw [← H2.out]; exact AtIs.get (by rw [H2.out]; exact HK.out.keyed) hi e1
    have HGE := Aside0.mk hge
    clear hge HA
    obtain ⟨v4, w4, hrun, ho4, hg4⟩ := hands_new (W := w') (rs2 := rs) (A := Av) (c := cv) rfl (fun h => (H1.out.cells h).imp fun ad h => ⟨h.1, h.2.2.2⟩) H1.out.one (by omega)
    have g0 : Grows w' (w'.alloc (.cells #[] 62)) := (Below.refl w'.heap.size w').alloc (Nat.le_refl _) (.cells #[] 62)
    have q1 := cell_below g0 c1
    obtain ⟨A4, c4, e4, hc4⟩ := own_slice ho4
    subst e4
    have HO4 := Aside0.mk ho4
    have HG4 := Aside0.mk hg4
    clear ho4 hg4 g0
    go_upto_region 5 with (at_builtin; refine wpList_appendE (.tmp 14) (.tmp 18) 52 rfl rfl rfl rfl ⟨_, _, hrun, ?_⟩; clear hrun)
    obtain ⟨b4, cc, cur4, ev, _, hb4, hcs4, hcur4, k0, k1, hB4, hcm4⟩ := hands_at HO4.out hi
    injection ev with ev _ ev3
    subst ev ev3
    obtain ⟨A5, c5, es, hc5, hr5, _⟩ := H1.out.segs rs[i] (List.getElem_mem _)
    have hmem : (rs[i].1, rs[i].2.1) ∈ hl := by rw [← H2.out]; exact List.mem_map.2 ⟨rs[i], List.getElem_mem _, rfl⟩
    have hl5 := HBL.out _ hmem
    have HW := Aside0.mk (rwith_calls (hr5.below HG4.out) hc5 (HK.out.rise _ hmem) n (by simp at hl5; omega))
    rw [es] at k1
    have hb4k := hb4
    obtain ⟨L, hL⟩ : ∃ L, rs[i].2.1 = L := ⟨_, rfl⟩
    rw [hL] at k1 hc5 HW hl5
    have HLL := Aside0.mk hL
    have HC := Aside0.mk (And.intro hb4 (And.intro hcs4 (And.intro hcur4 (And.intro hB4 hcm4))))
    have HES := Aside0.mk es
    clear hr5 hmem es hL hcs4 hcur4 hB4 hcm4 hb4k
    have HSN := Aside0.mk (fun (w5 : World) (v5 : Value) (hg5 : Grows w4 w5) (hor : (v5 = .slice A5 L.length c5 ∧ ins L n = L) ∨ OwnE w5 w4.heap.size 3 1 v5 (ins L n).length (nums .i64 (ins L n))) => (by
      rcases hor with ⟨e5, he⟩ | ho
      · rw [e5, he]
        have := ((H1.out.segs rs[i] (List.getElem_mem _)).grows (Grows.trans HG4.out hg5)).more (O' := fun k => O k ∨ w'.heap.size ≤ k) fun k hk => .inl hk
        rwa [HES.out, HLL.out] at this
      · exact (segRow_of ho (by have := (ins_len L n).1; simp at hl5; omega)).more fun k hk => .inr (Nat.le_trans HG4.out.size hk) : SegRow w5 (fun k => O k ∨ w'.heap.size ≤ k) v5 (ins L n)))
    have HB5 := Aside0.mk (fun (w5 : World) (hg5 : Grows w4 w5) => ((hg5.block b4 (lt_heap HC.out.1)).trans HC.out.1 : w5.heap[b4]? = some (.cells cur4 62 (0, 0))))
    have HM := Aside0.mk (fun (w5 : World) (hg5 : Grows w4 w5) => (And.intro (cell_below hg5 k0) (cell_below hg5 k1)))
    have hb4' := hb4
    clear hb4 k0
    go_upto_region 6 with (go_at_call 33; refine HW.out.mono ?_; clear HW; rintro e w5 ⟨v5, rfl, hg5, hor⟩; have HG5 := Aside0.mk hg5; have HN5 := Aside0.mk (HSN.out w5 v5 hg5 hor); obtain ⟨A6, c6, e6, _⟩ := HSN.out w5 v5 hg5 hor; subst e6; obtain ⟨m0, m1⟩ := HM.out w5 hg5; have f0 : w5.frozen? ⟨b4, i * 2, none⟩ = false := frozen_of_row w5 b4 _ _ 62 (HB5.out w5 hg5); have f1 : w5.frozen? ⟨b4, i * 2 + 1, none⟩ = false := frozen_of_row w5 b4 _ _ 62 (HB5.out w5 hg5); clear hg5 hor k1 hb4')
    have hG5 := Grows.trans HG4.out HG5.out
    have HT5 : RTb w5 O g most next rs (.slice Av rs.length cv) := H1.out.keep (fun k _ hlt => hG5.block k hlt) fun k hk _ => hk
    have hb4g : g ≠ b4 := fun e => by have := lt_heap H1.out.blk; have := HC.out.2.2.2.1; omega
    obtain ⟨rn, hrn⟩ : ∃ rn : RH, rn = (rs[i].1, ins L n, Value.slice A6 (ins L n).length c6) := ⟨_, rfl⟩
    have ho5 : w5.ownsRow w'.heap.size 62 2 (.slice (some ⟨b4, 0, none⟩) rs.length c4) rs.length (flat rs) := own_grows HO4.out HG5.out
    have ho6 := hands_set ho5 hi rn
    rw [hrn] at ho6
    dsimp only at ho6
    rw [e1] at ho6
    generalize hW6 : ((w5.setCell ⟨b4, i * 2, none⟩ (.int .i64 hd)).setCell ⟨b4, i * 2 + 1, none⟩ (.slice A6 (ins L n).length c6)) = w6 at ho6 ⊢
    have hk6 : ∀ k, k ≠ b4 → w6.heap[k]? = w5.heap[k]? := fun k hk => by
      rw [← hW6]
      exact (Below.heap_setCell _ ⟨b4, i * 2 + 1, none⟩ _ k hk).trans (Below.heap_setCell _ ⟨b4, i * 2, none⟩ _ k hk)
    have hg6 : w5.grownBy w6 (some b4) := by
      rw [← hW6]; exact grown_trans (grown_set w5 b4 (i * 2) _) (grown_set _ b4 (i * 2 + 1) _)
    have hblk6 := (hk6 g hb4g).trans HT5.blk
    have p1 : w6.cell? ⟨g, 1, none⟩ = some (.slice Av rs.length cv) := cell_of_row w6 g 1 _ 54 (0, 0) hblk6
    have pf : w6.frozen? ⟨g, 1, none⟩ = false := frozen_of_row w6 g 1 _ 54 hblk6
    have hblk7 := heap_spl g [.slice (some ⟨b4, 0, none⟩) rs.length c4] 1 w6 _ hblk6
    have hlt4 : b4 < w5.heap.size := lt_heap (HB5.out w5 HG5.out)
    have hR7 : RTb (w6.setCell ⟨g, 1, none⟩ (.slice (some ⟨b4, 0, none⟩) rs.length c4)) (fun k => O k ∨ w'.heap.size ≤ k) g most next (rs.set i (hd, ins L n, .slice A6 (ins L n).length c6)) (.slice (some ⟨b4, 0, none⟩) rs.length c4) := by
      rw [show (rs.set i (hd, ins L n, Value.slice A6 (ins L n).length c6)).length = rs.length from List.length_set] at ho6
      refine HT5.turn (w6 := w6) (fun k cs T fr hc hT => hk6 k fun e => ?_) (by rw [List.length_set]; exact own_mono ho6 (Nat.zero_le _)) (fun k e => by injection e with e; rw [← e]; exact .inr HC.out.2.2.2.1) (fun r hr => ?_) (fun k hk => .inl hk) (fun k hk => Below.heap_setCell _ ⟨g, 1, none⟩ _ k hk) hblk7
      · subst e
        rw [HB5.out w5 HG5.out] at hc
        injection hc with hc
        injection hc with _ hc
        exact hT hc.symm
      · rcases List.mem_or_eq_of_mem_set hr with hr | rfl
        · exact (HT5.segs r hr).more fun k hk => .inl hk
        · exact HN5.out
    have hK7 : KeepS O w' (w6.setCell ⟨g, 1, none⟩ (.slice (some ⟨b4, 0, none⟩) rs.length c4)) := by
      have k1 : KeepS O w' w6 := ⟨hg6.os.trans hG5.os, hg6.tape.trans hG5.tape, hg6.output.trans hG5.output, Nat.le_trans hG5.size hg6.size, fun k hk _ => (hk6 k (by have := HC.out.2.2.2.1; omega)).trans (hG5.block k hk)⟩
      exact k1.trans (KeepS.of_grown (grown_set w6 g 1 _) fun k e => by injection e with e; subst e; exact H1.out.og)
    have habs : absR (rs.set i (hd, ins L n, .slice A6 (ins L n).length c6)) = pinL hl hd n := by
      have := abs_set hi (by rw [H2.out]; exact HK.out.keyed) n (.slice A6 (ins L n).length c6)
      rw [HLL.out, e1, H2.out] at this
      exact this
    have HF := Aside0.mk (show RPost w' O g most next (pinL hl hd n) (.bool true) (.returned (.bool true)) _ from ⟨rfl, _, ⟨_, _, hR7, habs⟩, hK7, fun k hk => hk⟩)
    clear hR7 hK7 habs hblk7 hblk6 hg6 hk6 ho6 ho5 hG5 m0 m1 f0 f1 hW6
    go_wp2
    go_ret
    rw [HGE.out]
    exact HF.out
  · have hno : getL hl hd = none := by
      rw [← H2.out]
      exact getL_none.2 fun x hx => by
        obtain ⟨r, hr, rfl⟩ := List.mem_map.1 hx
        exact e1 r hr
    have HNO := Aside0.mk hno
    clear HA e1 H1 hno
    go_wp2
    go_ret
    rw [pinL_none HNO.out, HNO.out]
    exact ⟨rfl, O, H.out, KeepS.refl _ _, fun k hk => .inl hk⟩
end Go.Proofs.Ytdfjacpfmjgfiaa
