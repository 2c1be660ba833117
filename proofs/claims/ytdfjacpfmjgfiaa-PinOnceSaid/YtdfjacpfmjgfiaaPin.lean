/-
  Layer 17: a handle pins one segment more.
-/
import Derived.Test.YtdfjacpfmjgfiaaTabA
namespace Go.Proofs.Ytdfjacpfmjgfiaa
set_option linter.unusedVariables false
set_option linter.unusedSimpArgs false
open Go.Shelf Go.RowKit Go.Proofs.YtdfjacpfmjgfiaaW.PrintWords Go.Proofs.YtdfjacpfmjgfiaaW.PrintMore
attribute [local go_sem] max2_int
theorem bs_own {W : World} {v : Value} {xs : List Int} (ho : W.ownsRow 0 3 1 v xs.length (nums .i64 xs)) (hr : Rises xs) (hl : xs.length ≤ 100000) (n : Int) :
    Calls Try.prog 30 #[v, .int .i64 n] W fun e w' => e = .returned (.tuple #[.int .i64 ((xs.countP (· < n) : Nat) : Int), .bool (xs.contains n)]) ∧ ∃ q, w' = W.drewN q := by
  rcases ho.2 with ⟨rfl, h0⟩ | ⟨b, cap, cur, rfl, hBb, hb, hc, hcm, hcs, hcur⟩
  · obtain rfl : xs = [] := List.eq_nil_of_length_eq_zero h0
    refine (Any.slices_BinarySearch_int_empty laysBs none 0 n W).mono ?_
    rintro e w' ⟨rfl, rfl⟩
    exact ⟨rfl, 0, rfl⟩
  · rw [Nat.mul_one] at hcur
    refine (Any.slices_BinarySearch_int laysBs b 0 xs.length cap xs n W (Nat.le_refl _) (by omega) (fun j hj => ?_) (by rw [List.take_length]; exact rises_le hr)).mono ?_
    · rw [Nat.zero_add, cell_of_row W b j cur 3 (0, 0) hb, ← Array.getElem?_toList]
      have h2 : (cur.toList.take xs.length)[j]? = cur.toList[j]? := by rw [List.getElem?_take, if_pos hj]
      rw [← h2, hcur]
      simp [nums, List.getD_eq_getElem?_getD, List.getElem?_eq_getElem hj]
    · rintro e w' ⟨rfl, q, rfl⟩
      rw [List.take_length]
      exact ⟨rfl, q, rfl⟩
theorem Tab.boxCell {W : World} {B t S P : Nat} {most next : Int} {hs : List Hd} {ps : List (Int × Int)} (h : Tab W B t S P most next hs ps) {x : Hd} (hx : x ∈ hs) : W.cell? ⟨x.box, 0, none⟩ = some x.v := cell_of_row W x.box 0 _ 29 (0, 0) (h.box x hx).1
theorem pin_none {W : World} {O : Nat → Prop} {t : Nat} {most next : Int} {hl : HL} (h : TabA W O t most next hl) (k n : Int) (hk : getL hl k = none) :
    Calls Try.prog 13 #[.pointer (some ⟨t, 0, none⟩), .int .i64 k, .int .i64 n] W (TPost W O t most next (pinL hl k n) (.bool (getL hl k).isSome)) := by
  have hh := h
  obtain ⟨S, P, hs, ps, h1, h2, h3, h4, h5⟩ := hh
  have c2 := h1.c2
  have hlk := run_lookok_i Try.underlying48 Try.underlying3 zero55 h1.segs k
  have hd : hdOf hs k = none := by
    rw [← h2, hdOf_abs] at hk
    cases hd : hdOf hs k with
    | none => rfl
    | some x => rw [hd] at hk; cases hk
  rw [look_S, hd] at hlk
  simp only [Option.map_none, Option.getD_none, Option.isSome_none] at hlk
  have H := Aside0.mk h
  rw [pinL_none hk, hk]
  clear h h1 h2 h3 h4 h5 hd hk
  go_enter Try.func13, Try.ntmps13
  go_wp2
  go_ret
  exact ⟨rfl, O, H.out, KeepS.refl _ _, fun k hk => .inl hk⟩
set_option maxRecDepth 100000 in
set_option maxHeartbeats 1000000 in
theorem pin_same_calls {W : World} {O : Nat → Prop} {t : Nat} {most next : Int} {hl : HL} (h : TabA W O t most next hl) (hb : ∀ x ∈ hl, x.2.length ≤ 99999) (k n : Int) {l : List Int} (hk : getL hl k = some l) (hn : l.contains n = true) :
    Calls Try.prog 13 #[.pointer (some ⟨t, 0, none⟩), .int .i64 k, .int .i64 n] W (TPost W O t most next (pinL hl k n) (.bool (getL hl k).isSome)) := by
  have hh := h
  obtain ⟨S, P, hs, ps, h1, h2, h3, h4, h5⟩ := hh
  have c2 := h1.c2
  have hlk := run_lookok_i Try.underlying48 Try.underlying3 zero55 h1.segs k
  obtain ⟨x, hd, hxl⟩ : ∃ x, hdOf hs k = some x ∧ x.l = l := by
    rw [← h2, hdOf_abs] at hk
    exact Option.map_eq_some_iff.1 hk
  subst hxl
  rw [look_S, hd] at hlk
  simp only [Option.map_some, Option.getD_some, Option.isSome_some] at hlk
  have hx := (hdOf_mem hd).1
  have e0 := h1.boxCell hx
  have hxl : (x.key, x.l) ∈ hl := by rw [← h2]; exact List.mem_map_of_mem hx
  have HB := Aside0.mk (bs_own (h1.box x hx).2 (h4.rise _ hxl) (by have := hb _ hxl; simp at this; omega) n)
  rw [hn] at HB
  have H := Aside0.mk h
  rw [pin_same h4.keyed hk hn, hk]
  clear h h1 h2 h3 h4 h5 hd hk hx hxl hn hb
  obtain ⟨xk, xb, xv, xl⟩ := x
  simp only at hlk e0 HB ⊢
  go_enter Try.func13, Try.ntmps13
  go_wp2_with (go_at_call 30; refine HB.out.mono ?_; clear HB; rintro e w1 ⟨rfl, q, rfl⟩)
  go_ret
  exact ⟨rfl, O, H.out.keep fun k _ _ => rfl, ⟨rfl, rfl, rfl, Nat.le_refl _, fun _ _ _ => rfl⟩, fun k hk => .inl hk⟩
theorem Tab.frBox {W : World} {B t S P : Nat} {most next : Int} {hs : List Hd} {ps : List (Int × Int)} (h : Tab W B t S P most next hs ps) {x : Hd} (hx : x ∈ hs) : W.frozen? ⟨x.box, 0, none⟩ = false := frozen_of_row W x.box 0 _ 29 (h.box x hx).1
theorem pinsOk_put {ps : List (Int × Int)} {hl : HL} (h : PinsOk ps hl) {k n : Int} {l : List Int} (hk : Keyed' hl) (hx : getL hl k = some l) (hn : l.contains n = false) : PinsOk (putP ps n (pinOf ps n + 1)) (pinL hl k n) :=
  ⟨(put_keys ps n _ h.keys).1, fun m => by
    rw [pinOf_put, cnt_pin hk hx hn]
    split
    · rw [h.cnt]; omega
    · exact h.cnt m⟩
/-- Insert, and what the table is behind it. -/
def PinMid (W : World) (t S P : Nat) (most next : Int) (hs : List Hd) (ps : List (Int × Int)) (k n : Int) (x : Hd) (e : Ending) (w1 : World) : Prop :=
  ∃ A m c v', v' = .slice A m c ∧ e = .returned v' ∧ Tab (w1.setCell ⟨x.box, 0, none⟩ v') 0 t S P most next (setH hs k v' (ins x.l n)) ps ∧ w1.cell? ⟨x.box, 0, none⟩ = some x.v ∧ w1.frozen? ⟨x.box, 0, none⟩ = false ∧
    (∀ q, OwnT t S P (setH hs k v' (ins x.l n)) q → OwnT t S P hs q ∨ W.heap.size ≤ q) ∧ KeepS (OwnT t S P hs) W (w1.setCell ⟨x.box, 0, none⟩ v')
theorem pin_mid {W : World} {t S P : Nat} {most next : Int} {hs : List Hd} {ps : List (Int × Int)} (h : Tab W 0 t S P most next hs ps) (hk : Keyed' (absH hs)) {k : Int} {x : Hd} (hx : hdOf hs k = some x) (hl : x.l.length ≤ 99999) (n : Int) (hn : x.l.contains n = false) (q : Nat) :
    Calls Try.prog 31 #[x.v, .int .i64 ((x.l.countP (· < n) : Nat) : Int), .slice (some ⟨W.heap.size, 0, none⟩) 1 1] ((W.drewN q).alloc (.cells #[.int .i64 n] 3)) (PinMid W t S P most next hs ps k n x) := by
  have hm := (hdOf_mem hx).1
  have hg0 : Grows W ((W.drewN q).alloc (.cells #[.int .i64 n] 3)) := Below.alloc (⟨rfl, rfl, rfl, Nat.le_refl _, fun _ _ => rfl⟩ : Below W.heap.size W (W.drewN q)) (Nat.le_refl _) _
  have h0 := h.grows hg0
  have hn0 : ((W.drewN q).alloc (.cells #[.int .i64 n] 3)).heap[W.heap.size]? = some (.cells #[.int .i64 n] 3 (0, 0)) := heap_alloc_new (W.drewN q) _
  refine (insert_calls (h0.box x hm).2 (Nat.zero_le _) W.heap.size n hn0 (fun e => by have := own_lt (h.box x hm).2 _ e; omega) (by omega) _ (count_le _ _)).mono ?_
  rintro e w1 ⟨v', rfl, ho, hg, hloc⟩
  have hins : ins x.l n = x.l.take (x.l.countP (· < n)) ++ n :: x.l.drop (x.l.countP (· < n)) := by unfold ins; rw [if_neg (by rw [hn]; decide)]
  rw [← hins] at ho
  obtain ⟨r1, r2, r3⟩ := h0.rowTo hk hx hg ho hloc
  obtain ⟨A, c, ev, _⟩ := own_slice ho
  refine ⟨A, _, c, v', ev, rfl, r1, cell_of_row _ _ 0 _ 29 (0, 0) r2, frozen_of_row _ _ 0 _ 29 r2, fun q hq => (r3 q hq).imp id (fun h => Nat.le_trans hg0.size h), ?_⟩
  refine KeepS.trans (KeepS.of_grows hg0) (KeepS.trans (KeepS.of_grown hg fun q e => .inr (.inr (.inr ⟨x, hm, .inr e⟩))) (KeepS.of_grown (grown_set w1 x.box 0 v') fun q e => .inr (.inr (.inr ⟨x, hm, .inl (by injection e with e; exact e.symm)⟩))))
set_option maxRecDepth 100000 in
set_option maxHeartbeats 1000000 in
theorem pin_new_calls {W : World} {O : Nat → Prop} {t : Nat} {most next : Int} {hl : HL} (h : TabA W O t most next hl) (hb : ∀ x ∈ hl, x.2.length ≤ 99999) (hb2 : hl.length ≤ 100000) (k n : Int) {l : List Int} (hk : getL hl k = some l) (hn : l.contains n = false) :
    Calls Try.prog 13 #[.pointer (some ⟨t, 0, none⟩), .int .i64 k, .int .i64 n] W (TPost W O t most next (pinL hl k n) (.bool (getL hl k).isSome)) := by
  obtain ⟨S, P, hs, ps, h1, h2, h3, h4, h5⟩ := h
  have c2 := h1.c2
  have hlk := run_lookok_i Try.underlying48 Try.underlying3 zero55 h1.segs k
  obtain ⟨x, hd, hxl⟩ : ∃ x, hdOf hs k = some x ∧ x.l = l := by
    rw [← h2, hdOf_abs] at hk
    exact Option.map_eq_some_iff.1 hk
  subst hxl
  rw [look_S, hd] at hlk
  simp only [Option.map_some, Option.getD_some, Option.isSome_some] at hlk
  have hx := (hdOf_mem hd).1
  have e0 := h1.boxCell hx
  have hxm : (x.key, x.l) ∈ hl := by rw [← h2]; exact List.mem_map_of_mem hx
  have hlen : x.l.length ≤ 99999 := hb _ hxm
  have HB := Aside0.mk (bs_own (h1.box x hx).2 (h4.rise _ hxm) (by omega) n)
  rw [hn] at HB
  have hkd : Keyed' (absH hs) := by rw [h2]; exact h4.keyed
  have HM := Aside0.mk fun q => pin_mid h1 hkd hd hlen n hn q
  have HP := Aside0.mk (pinsOk_put h3 h4.keyed hk hn)
  have hcn : pinOf ps n = (cnt hl n : Int) := h3.cnt n
  have hcl := cnt_le hl n
  have hp0 : 0 ≤ pinOf ps n := by omega
  have hp1 : pinOf ps n ≤ 100000 := by omega
  have HA := Aside0.mk (fun v' => (by rw [setH_abs hkd hd, h2] : absH (setH hs k v' (ins x.l n)) = pinL hl k n))
  have HO := Aside0.mk (h4.pin k n)
  have H5 := Aside0.mk h5
  rw [hk]
  clear h1 h2 h3 h4 h5 hk hx hxm hn hb hkd hcn hcl hb2 hlen
  obtain ⟨xk, xb, xv, xl⟩ := x
  simp only at hlk e0 HB HM HA ⊢
  go_enter Try.func13, Try.ntmps13
  go_wp2_with (first | (go_at_call 30; refine HB.out.mono ?_; clear HB; rintro e w1 ⟨rfl, q, rfl⟩) | (go_at_call 31; refine (HM.out _).mono ?_; clear HM; rintro e w1 ⟨A, m, c, v', rfl, rfl, hT, e1, f1, hO, hK⟩; have c3 := hT.c3; have hl3 := run_look_i Try.underlying49 Try.underlying3 zero3 hT.pins n; rw [look_P] at hl3; obtain ⟨W4, hput, hm4, hg4⟩ := run_put_i Try.underlying49 Try.underlying3 hT.pins n (.int .i64 (pinOf ps n + 1)); rw [entP_put] at hm4; have HT := Aside0.mk (hT.pinsTo hg4 hm4); have HG4 := Aside0.mk hg4; have HO2 := Aside0.mk hO; have HK := Aside0.mk hK; clear hT hm4 hg4 hO hK))
  go_ret
  refine ⟨rfl, fun q => O q ∨ W.heap.size ≤ q, ⟨S, P, _, _, HT.out, HA.out _, HP.out, HO.out, fun q hq => (HO2.out q hq).imp (H5.out q) id⟩, ?_, fun q hq => hq⟩
  refine KeepS.trans (KeepS.mono HK.out fun q _ => H5.out q) (KeepS.of_grown (S := O) HG4.out fun q e => H5.out q (.inr (.inr (.inl (by injection e with e; exact e.symm)))))
theorem pin_calls {W : World} {O : Nat → Prop} {t : Nat} {most next : Int} {hl : HL} (h : TabA W O t most next hl) (hb : ∀ x ∈ hl, x.2.length ≤ 99999) (hb2 : hl.length ≤ 100000) (k n : Int) :
    Calls Try.prog 13 #[.pointer (some ⟨t, 0, none⟩), .int .i64 k, .int .i64 n] W (TPost W O t most next (pinL hl k n) (.bool (getL hl k).isSome)) := by
  cases hk : getL hl k with
  | none => have := pin_none h k n hk; rwa [hk] at this
  | some l =>
    cases hn : l.contains n with
    | true => have := pin_same_calls h hb k n hk hn; rwa [hk] at this
    | false => have := pin_new_calls h hb hb2 k n hk hn; rwa [hk] at this
end Go.Proofs.Ytdfjacpfmjgfiaa
