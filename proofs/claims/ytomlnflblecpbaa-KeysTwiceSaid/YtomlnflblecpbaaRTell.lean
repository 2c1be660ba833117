/-
  Layer 13: the document's List, From; a row without a key.
-/
import Derived.Test.YtomlnflblecpbaaRDir
import Derived.Laws.Cover1
namespace Go.Proofs.Ytomlnflblecpbaa
set_option linter.unusedVariables false
set_option linter.unusedSimpArgs false
open Go.RowKit Go.Proofs.YtomlnflblecpbaaW.PrintWords Go.Proofs.YtomlnflblecpbaaW.PrintMore
attribute [local go_sem] max2_int min2_int
set_option maxRecDepth 100000 in
set_option maxHeartbeats 2000000 in
theorem rlist_calls {W : World} {O : Nat → Prop} {g : Nat} {m : List Pl} (h : RD W O g m) (hm : m.length ≤ 100000) :
    Calls Try.prog 25 #[.pointer (some ⟨g, 0, none⟩)] W fun e w' => ∃ v, e = .returned v ∧ ToldS (keysM m) v w' ∧ Grows W w' := by
  obtain ⟨v, h⟩ := h
  obtain ⟨A, c, rfl, hc, hr⟩ := reads_of_own h.row
  have HB := Aside0.mk h
  have HRD := Aside0.mk hr
  clear h hr
  go_enter Try.func25, Try.ntmps25
  go_wp2
  go_loopg [3, 4] m.length (fun f v3 v4 wr => ∃ i : Nat, Aside0 (f + i = m.length) ∧ i ≤ m.length ∧ v4 = .int .i64 i ∧ Aside0 (LSt W wr v3 ((m.take i).map (·.key))))
  case atStart => exact ⟨0, ⟨by omega⟩, by omega, rfl, ⟨⟨Grows.refl _, own_nil _ _ _ _⟩⟩⟩
  case round =>
    obtain ⟨i, HF, hi, rfl, HS⟩ := hrel
    have hcell := (HB.out.grows HS.out.g).c0
    by_cases hlt : i < m.length
    · obtain ⟨b, ea, hp⟩ := (HRD.out.grows HS.out.g) (by omega)
      obtain ⟨k0, k1, k2, k3, k4⟩ := hp i hlt
      subst ea
      have HKT := Aside0.mk (keys_take hlt)
      clear hp HRD
      generalize m[i] = p at k0 k1 k2 k3 k4 HKT
      obtain ⟨a1, a2, a3, a4, a5⟩ := p
      dsimp only at k0 k1 k2 k3 k4
      obtain ⟨v4, w4, hr, hS4⟩ := HS.out.app a3 (by rw [List.length_map, List.length_take]; omega)
      have HS4 := Aside0.mk hS4
      clear hS4 HS
      go_wp2_with (at_builtin; refine wpList_appendE (.tmp 14) (.tmp 24) 38 rfl rfl rfl rfl ⟨_, _, hr, ?_⟩; clear hr)
      go_roundg (m.length - (i + 1))
      case measure => have := HF.out; omega
      case rel => exact ⟨i + 1, ⟨by omega⟩, by omega, by go_num, ⟨by rw [HKT.out]; exact HS4.out⟩⟩
    · obtain rfl : i = m.length := by omega
      have HT := Aside0.mk (show ToldS (keysM m) u3 wr by have := own_told HS.out.own; rw [List.take_length] at this; exact this)
      go_wp2
      go_ret
      exact ⟨_, rfl, HT.out, HS.out.g⟩
/-- append at a row of places, one behind the other. -/
theorem pl_chain {W : World} (B : Nat) (v : Value) (l l2 : List Pl) (A : Option Addr) (m c : Nat) (HO : ChainE W B 32 5 v l.length (flatP l)) (hm : l2.length = m)
    (hcells : 0 < m → ∃ ad, A = some ad ∧ ∀ j u, (flatP l2)[j]? = some u → W.cell? (ad.add j) = some u) (hbase : B ≤ W.heap.size) (hl : l.length + m ≤ 1000000) :
    ∃ v1 w1, (Builtin.append_ #[47, 47] 47 #[v, .slice A m c]).run Try.prog W = .ok v1 w1 ∧ ChainE w1 B 32 5 v1 (l ++ l2).length (flatP (l ++ l2)) ∧ OneC B 32 5 W w1 := by
  obtain ⟨i0, hi, hz0, hz1, hz2⟩ := parts3 info32
  obtain ⟨v1, w1, hr, h2, h3⟩ := append_chain (P := Try.prog) B 47 47 32 i0 (.agg #[.int .i64 0, .int .i64 0, .string ⟨#[]⟩, .int .i64 0, .int .i64 0]) 5 48 Try.underlying47 hi hz0 hz1 hz2 rfl (by omega) v l.length (flatP l) HO (flatP_one l) A m c (flatP l2) (by rw [flatP_len, hm]) hcells (flatP_one l2) (by simp only [maxLen]; omega) (by omega) hbase
  exact ⟨v1, w1, hr, by rw [flatP_app, List.length_append, hm]; exact h2, h3⟩
theorem cells_box {W : World} {q : Nat} {p : Pl} (h : W.heap[q]? = some (.cells p.cells 32 (0, 0))) (m : Nat) (hm : m = 1) : 0 < m → ∃ ad, some (⟨q, 0, none⟩ : Addr) = some ad ∧ ∀ j u, (flatP [p])[j]? = some u → W.cell? (ad.add j) = some u := fun _ => ⟨_, rfl, cells_of_box h⟩
theorem ownE_own {W : World} {B e size n : Nat} {v : Value} {xs : List Value} (h : ChainE W B e size v n xs) (hn : 0 < n) : W.ownsRow B e size v n xs := by
  rcases h.own with ⟨_, _, h0, _⟩ | h
  · omega
  · exact h
/-- What `without` has gathered. -/
structure WSt (W0 W : World) (v : Value) (l : List Pl) : Prop where
  g : Grows W0 W
  own : ChainE W W0.heap.size 32 5 v l.length (flatP l)
  nil0 : l.length = 0 → v = .slice none 0 0
theorem WSt.row {W0 W : World} {v : Value} {l : List Pl} (h : WSt W0 W v l) : W.ownsRow W0.heap.size 32 5 v l.length (flatP l) := by
  rcases Nat.eq_zero_or_pos l.length with h0 | h0
  · obtain rfl : l = [] := List.eq_nil_of_length_eq_zero h0
    rw [h.nil0 rfl]
    exact World.ownsRow_nil _ _ _ _
  · exact ownE_own h.own h0
theorem WSt.app {W0 W : World} {v : Value} {l : List Pl} (h : WSt W0 W v l) (p : Pl) (hl : l.length + 1 ≤ 1000000) :
    ∃ v1 w1, (Builtin.append_ #[47, 47] 47 #[v, .slice (some ⟨W.heap.size, 0, none⟩) 1 1]).run Try.prog (W.alloc (.cells p.cells 32)) = .ok v1 w1 ∧ WSt W0 w1 v1 (l ++ [p]) := by
  have g1 : Grows W (W.alloc (.cells p.cells 32)) := (Below.refl W.heap.size W).alloc (Nat.le_refl _) _
  obtain ⟨v1, w1, hr, h2, h3⟩ := pl_chain W0.heap.size v l [p] (some ⟨W.heap.size, 0, none⟩) 1 1 (h.own.grows g1) rfl (cells_box (heap_alloc_new W _) 1 rfl) (Nat.le_trans h.g.size g1.size) hl
  exact ⟨v1, w1, hr, (h.g.trans (g1.mono h.g.size)).trans (h3.below (Nat.le_trans h.g.size g1.size)), h2, fun h0 => by simp at h0⟩
theorem del_take {m : List Pl} {key : ByteArray} {i : Nat} (hi : i < m.length) : delM (m.take (i + 1)) key = delM (m.take i) key ++ (if m[i].key = key then [] else [m[i]]) := by
  rw [List.take_succ_eq_append_getElem hi]
  unfold delM
  rw [List.filter_append, List.filter_cons, List.filter_nil]
  by_cases h : m[i].key = key <;> simp [h]
set_option maxRecDepth 100000 in
set_option maxHeartbeats 2000000 in
theorem without_calls {W : World} {A : Option Addr} {c : Nat} {m : List Pl} (hr : ReadsP W A m) (key : ByteArray) (hm : m.length ≤ 100000) :
    Calls Try.prog 29 #[.slice A m.length c, .string key] W fun e w' => ∃ v, e = .returned v ∧ w'.ownsRow W.heap.size 32 5 v (delM m key).length (flatP (delM m key)) ∧ Grows W w' := by
  have HRD := Aside0.mk hr
  clear hr
  go_enter Try.func29, Try.ntmps29
  go_wp2
  go_loopg [5, 6] m.length (fun f v5 v6 wr => ∃ i : Nat, Aside0 (f + i = m.length) ∧ i ≤ m.length ∧ v6 = .int .i64 i ∧ Aside0 (WSt W wr v5 (delM (m.take i) key)))
  case atStart => exact ⟨0, ⟨by omega⟩, by omega, rfl, ⟨⟨Grows.refl _, ChainE.nil none, fun _ => rfl⟩⟩⟩
  case round =>
    obtain ⟨i, HF, hi, rfl, HS⟩ := hrel
    by_cases hlt : i < m.length
    · obtain ⟨b, ea, hp⟩ := (HRD.out.grows HS.out.g) (by omega)
      obtain ⟨k0, k1, k2, k3, k4⟩ := hp i hlt
      subst ea
      have HKT := Aside0.mk (del_take (key := key) hlt)
      have HDL := Aside0.mk (Nat.le_trans (del_length_le (m.take i) key) (by rw [List.length_take]; omega : _ ≤ i))
      clear hp HRD
      generalize m[i] = p at k0 k1 k2 k3 k4 HKT
      obtain ⟨a1, a2, a3, a4, a5⟩ := p
      dsimp only at k0 k1 k2 k3 k4
      cases hkb : (a3.toList == key.toList) with
      | true =>
        have HK := Aside0.mk (key_eqb hkb)
        go_wp2
        go_roundg (m.length - (i + 1))
        case measure => have := HF.out; omega
        case rel => exact ⟨i + 1, ⟨by omega⟩, by omega, by go_num, ⟨by rw [HKT.out, if_pos HK.out, List.append_nil]; exact HS.out⟩⟩
      | false =>
        have HK := Aside0.mk (key_neb hkb)
        obtain ⟨v4, w4, hr, hS4⟩ := HS.out.app ⟨a1, a2, a3, a4, a5⟩ (by have := HDL.out; omega)
        have HS4 := Aside0.mk hS4
        clear hS4 HS
        go_wp2_with (at_builtin; refine wpList_appendE (.tmp 21) (.tmp 26) 47 rfl rfl rfl rfl ⟨_, _, hr, ?_⟩; clear hr)
        go_roundg (m.length - (i + 1))
        case measure => have := HF.out; omega
        case rel => exact ⟨i + 1, ⟨by omega⟩, by omega, by go_num, ⟨by rw [HKT.out, if_neg HK.out]; exact HS4.out⟩⟩
    · obtain rfl : i = m.length := by omega
      have HO := Aside0.mk (by have := HS.out.row; rw [List.take_length] at this; exact this : wr.ownsRow W.heap.size 32 5 u5 (delM m key).length (flatP (delM m key)))
      go_wp2
      go_ret
      exact ⟨_, rfl, HO.out, HS.out.g⟩
theorem from_take {m : List Pl} {key : ByteArray} {i : Nat} (hi : i < m.length) : fromK (keysM (m.take (i + 1))) key = fromK (keysM (m.take i)) key ++ (if klt m[i].key key = true then [] else [m[i].key]) := by
  unfold fromK keysM
  rw [keys_take hi, List.filter_append, List.filter_cons, List.filter_nil]
  cases h : klt m[i].key key <;> simp
theorem from_le (l : List ByteArray) (key : ByteArray) : (fromK l key).length ≤ l.length := List.length_filter_le _ _
theorem from_pre {m : List Pl} {key : ByteArray} (i : Nat) : ∃ s, fromK (keysM m) key = fromK (keysM (m.take i)) key ++ s := by
  refine ⟨fromK (keysM (m.drop i)) key, ?_⟩
  unfold fromK keysM
  rw [← List.filter_append, ← List.map_append, List.take_append_drop]
set_option maxRecDepth 100000 in
set_option maxHeartbeats 2000000 in
theorem rfrom_calls {W : World} {O : Nat → Prop} {g : Nat} {m : List Pl} (h : RD W O g m) (hm : m.length ≤ 100000) (key : ByteArray) (many : Int) :
    Calls Try.prog 19 #[.pointer (some ⟨g, 0, none⟩), .string key, .int .i64 many] W fun e w' => ∃ v, e = .returned v ∧ ToldS ((fromK (keysM m) key).take many.toNat) v w' ∧ Grows W w' := by
  obtain ⟨v, h⟩ := h
  obtain ⟨A, c, rfl, hc, hr⟩ := reads_of_own h.row
  have HB := Aside0.mk h
  have HRD := Aside0.mk hr
  clear h hr
  go_enter Try.func19, Try.ntmps19
  go_wp2
  go_loopg [7, 8] m.length (fun f v7 v8 wr => ∃ i : Nat, Aside0 (f + i = m.length) ∧ i ≤ m.length ∧ v8 = .int .i64 i ∧ Aside0 (LSt W wr v7 (fromK (keysM (m.take i)) key) ∧ (fromK (keysM (m.take i)) key).length ≤ many.toNat))
  case atStart => exact ⟨0, ⟨by omega⟩, by omega, rfl, ⟨⟨⟨Grows.refl _, own_nil _ _ _ _⟩, Nat.zero_le _⟩⟩⟩
  case round =>
    obtain ⟨i, HF, hi, rfl, HS⟩ := hrel
    have hcell := (HB.out.grows HS.out.1.g).c0
    obtain ⟨Av, cv, ev, hcv⟩ := own_slice HS.out.1.own
    subst ev
    have HFL := Aside0.mk (Nat.le_trans (from_le (keysM (m.take i)) key) (by unfold keysM; rw [List.length_map, List.length_take]; omega : _ ≤ i))
    by_cases hlt : i < m.length
    · by_cases hfull : ((fromK (keysM (m.take i)) key).length : Int) < many
      · obtain ⟨b, ea, hp⟩ := (HRD.out.grows HS.out.1.g) (by omega)
        obtain ⟨k0, k1, k2, k3, k4⟩ := hp i hlt
        subst ea
        have HKT := Aside0.mk (from_take (key := key) hlt)
        clear hp HRD
        generalize m[i] = p at k0 k1 k2 k3 k4 HKT
        obtain ⟨a1, a2, a3, a4, a5⟩ := p
        dsimp only at k0 k1 k2 k3 k4
        have hd1 : decide (((fromK (keysM (m.take i)) key).length : Int) < many) = true := decide_eq_true hfull
        have HFU := Aside0.mk hfull
        clear hfull
        obtain ⟨v4, w4, hr, hS4⟩ := HS.out.1.app a3 (by have := HFL.out; omega)
        have HS4 := Aside0.mk hS4
        clear hS4
        cases hkb : Op.bytesLess a3.toList key.toList with
        | true =>
          clear hr
          go_wp2
          go_roundg (m.length - (i + 1))
          case measure => have := HF.out; omega
          case rel => exact ⟨i + 1, ⟨by omega⟩, by omega, by go_num, ⟨by rw [HKT.out, if_pos (show klt a3 key = true from hkb), List.append_nil]; exact HS.out⟩⟩
        | false =>
          have HKB := Aside0.mk (show ¬ klt a3 key = true by unfold klt; rw [hkb]; decide)
          have HLE := Aside0.mk HS.out.2
          clear HS
          go_wp2_with (at_builtin; refine wpList_appendE (.tmp 35) (.tmp 45) 38 rfl rfl rfl rfl ⟨_, _, hr, ?_⟩; clear hr)
          go_roundg (m.length - (i + 1))
          case measure => have := HF.out; omega
          case rel => exact ⟨i + 1, ⟨by omega⟩, by omega, by go_num, ⟨by
            rw [HKT.out, if_neg HKB.out]
            exact ⟨HS4.out, by rw [List.length_append]; have := HFU.out; simp; omega⟩⟩⟩
      · have HT := Aside0.mk (show ToldS ((fromK (keysM m) key).take many.toNat) (.slice Av (fromK (keysM (m.take i)) key).length cv) wr by
          obtain ⟨s, hs⟩ := from_pre (m := m) (key := key) i
          have h1 := HS.out.2
          rw [hs, List.take_append_of_le_length (by omega), List.take_of_length_le (by omega)]
          exact own_told HS.out.1.own)
        have hd1 : decide (((fromK (keysM (m.take i)) key).length : Int) < many) = false := decide_eq_false hfull
        clear hfull
        go_wp2
        go_ret
        exact ⟨_, rfl, HT.out, HS.out.1.g⟩
    · obtain rfl : i = m.length := by omega
      have HT := Aside0.mk (show ToldS ((fromK (keysM m) key).take many.toNat) (.slice Av (fromK (keysM (m.take m.length)) key).length cv) wr by
        have h1 := HS.out.2
        have h2 := own_told HS.out.1.own
        rw [List.take_length] at h1 h2 ⊢
        rw [List.take_of_length_le h1]
        exact h2)
      go_wp2
      go_ret
      exact ⟨_, rfl, HT.out, HS.out.1.g⟩
end Go.Proofs.Ytomlnflblecpbaa
