/-
  Layer 13: a row of strings of a call's own.
-/
import Derived.Test.YtomlnflblecpbaaDel
import Derived.Test.YtomlnflblecpbaaLays
import Derived.Sort.OwnSorted
namespace Go.Proofs.Ytomlnflblecpbaa
set_option linter.unusedVariables false
set_option linter.unusedSimpArgs false
open Go.RowKit Go.Proofs.YtomlnflblecpbaaW.PrintWords Go.Proofs.YtomlnflblecpbaaW.PrintMore
def strV (xs : List ByteArray) : List Value := xs.map Value.string
theorem info9 : (Try.prog.info? 9).map (fun i => (i.zero, i.size, i.bytes)) = some (some (.string ⟨#[]⟩), 1, 16) := by kernel_rfl
/-- append of one string. -/
theorem str_run {W : World} (base : Nat) (v : Value) (xs : List ByteArray) (k : ByteArray) {q : Nat} (HO : W.ownsRow base 9 1 v xs.length (strV xs)) (hq : W.heap[q]? = some (.cells #[.string k] 9 (0, 0))) (hbase : base ≤ W.heap.size) (hl : xs.length + 1 ≤ 1000000) :
    ∃ v1 w1, (Builtin.append_ #[38, 38] 38 #[v, .slice (some ⟨q, 0, none⟩) 1 1]).run Try.prog W = .ok v1 w1 ∧ w1.ownsRow base 9 1 v1 (xs ++ [k]).length (strV (xs ++ [k])) ∧ W.grownBy w1 v.ownBlock ∧ (v1.ownBlock = v.ownBlock ∨ v1.ownBlock = some W.heap.size) := by
  obtain ⟨i0, hi, hz0, hz1, hz2⟩ := parts3 info9
  obtain ⟨v1, w1, hr, h2, h3, _, h5⟩ := run_append_own_at (P := Try.prog) W base 38 38 9 i0 (.string ⟨#[]⟩) 1 16 Try.underlying38 hi hz0 hz1 hz2 rfl (by omega) v xs.length (strV xs) HO ⟨q, 0, none⟩ 1 1 [.string k] rfl
    (fun j u hu => by
      have hadd : (⟨q, 0, none⟩ : Addr).add j = ⟨q, j, none⟩ := by unfold Addr.add; split <;> simp_all
      rw [hadd]
      exact (cell_of_row _ _ j _ 9 (0, 0) hq).trans (by rw [← Array.getElem?_toList]; exact hu))
    (fun u hu => by rw [List.mem_singleton.1 hu]; rfl) (by simp only [maxLen]; omega) (by omega) hbase
  refine ⟨v1, w1, hr, ?_, h3, h5⟩
  rw [show (xs ++ [k]).length = xs.length + 1 by simp, show strV (xs ++ [k]) = strV xs ++ [.string k] by simp [strV]]
  exact h2
end Go.Proofs.Ytomlnflblecpbaa

/-
  Layer 13: List.
-/
namespace Go.Proofs.Ytomlnflblecpbaa
set_option linter.unusedVariables false
set_option linter.unusedSimpArgs false
open Go.Sort Go.RowKit Go.Proofs.YtomlnflblecpbaaW.PrintWords Go.Proofs.YtomlnflblecpbaaW.PrintMore
attribute [local go_sem] max2_int min2_int
theorem strV_enc (l : List ByteArray) : strV l = (l.map fun k => k.data.toList).map encStr := by
  unfold strV; rw [List.map_map]; refine List.map_congr_left fun k _ => ?_
  show Value.string k = Value.string ⟨k.data.toList.toArray⟩
  rw [Array.toArray_toList]
/-- slices.Sort at a row of the call's own. -/
theorem sort_own (base : Nat) (v : Value) (l s : List ByteArray) (w : World) (hs : l.length < 4611686018427387904) (hb : base ≤ w.heap.size) (h : w.ownsRow base 9 1 v l.length (strV l))
    (he : ((l.map fun k => k.data.toList).mergeSort fun x y => decide (x ≤ y)) = s.map fun k => k.data.toList) :
    Calls Try.prog 31 #[v] w fun e w' => e = .returned (.tuple #[]) ∧ w'.ownsRow base 9 1 v s.length (strV s) ∧ Below base w w' := by
  have hlen : s.length = l.length := by
    have := congrArg List.length he
    rw [List.length_mergeSort, List.length_map, List.length_map] at this
    exact this.symm
  rcases h.2 with ⟨rfl, hx⟩ | ⟨g, cap, cur, rfl, hbase, hgg, hn, hcap, hsz, htk⟩
  · have hs0 : s = [] := List.eq_nil_of_length_eq_zero (by omega)
    subst hs0
    refine (show Calls Try.prog 31 #[.slice none 0 0] w _ from sort_none none 0 w).mono ?_
    rintro e w' ⟨rfl, rfl⟩
    exact ⟨rfl, own_nil _ _ _ _, Below.refl _ _⟩
  · have hH := holds_of_block (ss := l.map fun k => k.data.toList) hgg (by rw [List.length_map, ← strV_enc]; simpa using htk)
    have hc := sort_calls g cap (l.map fun k => k.data.toList) w hH (Array.getElem?_eq_some_iff.1 hgg).1 (by rw [List.length_map]; exact hs)
    rw [List.length_map] at hc
    refine hc.mono ?_
    rintro e w' ⟨rfl, m, os, rfl⟩
    rw [he]
    refine ⟨rfl, ?_, (Below.refl base w).grown (grownBy_sorted _) hb (fun k hk => by cases hk; exact hbase)⟩
    have := ownsRow_sorted (w := w) (n := m) (os := os) (ss := l.map fun k => k.data.toList) (ts := s.map fun k => k.data.toList) (by rw [List.length_map, List.length_map]; exact hlen) hbase hgg (by rw [List.length_map]; exact hn) hcap hsz
    rw [List.length_map] at this
    rw [strV_enc s, hlen]; exact this
/-- The 64 rows, as one value. -/
def rows64 (vs : Nat → Value) : Array Value := ((List.range 64).map vs).toArray
theorem rows64_size (vs : Nat → Value) : (rows64 vs).size = 64 := by unfold rows64; simp
theorem rows64_at (vs : Nat → Value) (i : Nat) (hi : i < 64) : (rows64 vs)[i]? = some (vs i) := by
  unfold rows64; simp [hi]
theorem info49 : (Try.prog.info? 49).map (fun i => i.size) = some 64 := by kernel_rfl
theorem info48 : (Try.prog.info? 48).map (fun i => i.size) = some 1 := by kernel_rfl
theorem load_rows {W : World} {O : Nat → Prop} {d : Nat} {rs : Nat → List Pl} {vs : Nat → Value} {many : Nat} (h : DirB W O d rs vs many) : (Instr.loadAt 49 (.pointer (some ⟨d, 0, none⟩))).run Try.prog W = .ok (.agg (rows64 vs)) W := by
  have hl : (loadCells ⟨d, 0, none⟩ (rows64 vs).toList.length).run Try.prog W = .ok (rows64 vs).toList.toArray W :=
    run_loadCells_list (P := Try.prog) W ⟨d, 0, none⟩ (rows64 vs).toList (fun j v hv => by
      have hadd : (⟨d, 0, none⟩ : Addr).add j = ⟨d, j, none⟩ := by unfold Addr.add; split <;> simp_all
      have hj : j < 64 := by
        rcases Nat.lt_or_ge j 64 with h | h
        · exact h
        · rw [Array.getElem?_toList, Array.getElem?_eq_none (by rw [rows64_size]; exact h)] at hv; cases hv
      rw [Array.getElem?_toList, rows64_at vs j hj] at hv
      rw [hadd, h.cell j hj, ← hv])
  obtain ⟨i, hi, hs⟩ := Option.map_eq_some_iff.1 info49
  have hu := run_underlying Try.underlying49 W
  have hagg : (isAgg 49).run Try.prog W = .ok true W := by
    unfold isAgg
    rw [Sem.run_bind, hu]
    rfl
  rw [Array.length_toList, Array.toArray_toList, rows64_size] at hl
  simp [Instr.loadAt, Instr.sureAddr, loadVar, Sem.run_bind, hagg, sizeOf, typeInfo, hi, hs, hl]
theorem wpList_load_at {P : Program} {ops : Array Oper} {rest : List Oper} {o : Oper} {a : Act} {w : World} {Q : Exit → Act → World → Prop} (ty : TypeId) (x : Operand) {A v : Value} (hgd : o.guard = none) (ho : o.op = .load ty x)
    (hx : a.eval x = A) (hr : (Instr.loadAt ty A).run P w = .ok v w) (h : wpList P ops Q rest (a.put o.dst v) w) : wpList P ops Q (o :: rest) a w := by
  refine wpList_plain hgd fun K hK => ?_
  unfold Oper.wp execOp
  simp only [ho, hx, Sem.run_bind, Sem.run_pure, Result.andThen_ok, hr]
  exact hK _ _ h
theorem index_rows (W : World) (vs : Nat → Value) (i : Nat) (hi : i < 64) : (Instr.index 49 (.agg (rows64 vs)) (.int .i64 i)).run Try.prog W = .ok (vs i) W := by
  obtain ⟨t, ht, hs⟩ := Option.map_eq_some_iff.1 info48
  have hu := run_underlying Try.underlying49 W
  have hu8 := run_underlying Try.underlying48 W
  have hn : Int.toNat (i : Int) = i := Int.toNat_natCast i
  have hc : (0 : Int) ≤ i ∧ (i : Int) < (64 : Nat) := by omega
  simp [Instr.index, asIntOf, hu, Sem.run_bind, sizeOf, typeInfo, ht, hs, part, isAgg, hu8, rows64_at vs i hi, hc, hi]
theorem keys_take {l : List Pl} {j : Nat} (h : j < l.length) : (l.take (j + 1)).map (·.key) = (l.take j).map (·.key) ++ [l[j].key] := by
  rw [List.take_succ_eq_append_getElem h, List.map_append]; rfl
theorem allR_len (rs : Nat → List Pl) : ∀ {n m : Nat}, n ≤ m → (allR rs n).length ≤ (allR rs m).length
  | n, 0, h => by obtain rfl : n = 0 := by omega
                  exact Nat.le_refl _
  | n, m + 1, h => by
    by_cases e : n = m + 1
    · subst e; exact Nat.le_refl _
    · have := allR_len rs (show n ≤ m by omega)
      rw [allR_succ, List.length_append]; omega
theorem own_ge {W : World} {B e size n : Nat} {v : Value} {xs : List Value} (h : W.ownsRow B e size v n xs) : ∀ k, v.ownBlock = some k → B ≤ k := fun k hk => by
  rcases h.2 with ⟨rfl, _⟩ | ⟨b, cap, cur, rfl, hB, _⟩
  · cases hk
  · injection hk with hk; subst hk; exact hB
/-- What List has gathered. -/
structure LSt (W0 W : World) (v : Value) (xs : List ByteArray) : Prop where
  g : Grows W0 W
  own : W.ownsRow W0.heap.size 9 1 v xs.length (strV xs)
theorem LSt.grows {W0 W W' : World} {v : Value} {xs : List ByteArray} (h : LSt W0 W v xs) (hg : Grows W W') : LSt W0 W' v xs := ⟨h.g.trans (hg.mono h.g.size), own_grows h.own hg⟩
theorem LSt.app {W0 W : World} {v : Value} {xs : List ByteArray} (h : LSt W0 W v xs) (k : ByteArray) (hl : xs.length + 1 ≤ 1000000) :
    ∃ v1 w1, (Builtin.append_ #[38, 38] 38 #[v, .slice (some ⟨W.heap.size, 0, none⟩) 1 1]).run Try.prog (W.alloc (.cells #[.string k] 9)) = .ok v1 w1 ∧ LSt W0 w1 v1 (xs ++ [k]) := by
  have g1 : Grows W (W.alloc (.cells #[.string k] 9)) := (Below.refl W.heap.size W).alloc (Nat.le_refl _) _
  have h1 := h.grows g1
  obtain ⟨v1, w1, hr, ho, hg, _⟩ := str_run W0.heap.size v xs k h1.own (heap_alloc_new W _) h1.g.size hl
  exact ⟨v1, w1, hr, ⟨pw_below_grown h1.g v.ownBlock h1.g.size hg fun j e => own_ge h1.own j e, ho⟩⟩
set_option maxRecDepth 100000 in
set_option maxHeartbeats 4000000 in
theorem list_calls {W : World} {O : Nat → Prop} {d : Nat} {m : List Pl} (h : DirM W O d m) (hm : m.length ≤ 100000) :
    Calls Try.prog 24 #[.pointer (some ⟨d, 0, none⟩)] W fun e w' => ∃ v, e = .returned v ∧ w'.ownsRow W.heap.size 9 1 v (keysM m).length (strV (keysM m)) ∧ Grows W w' := by
  obtain ⟨rs, vs, hB, hR⟩ := h
  have hlr := load_rows hB
  have HB := Aside0.mk hB
  have HR := Aside0.mk hR
  have hlen : (allR rs 64).length ≤ 100000 := by rw [hR.perm.length_eq]; exact hm
  have HLEN := Aside0.mk hlen
  clear hB hR hlen hm
  go_enter Try.func24, Try.ntmps24
  go_wp2_with (refine wpList_load_at 49 (.tmp 10) rfl rfl rfl hlr ?_)
  clear hlr
  go_loopg [3, 5, 12] 64 (fun f v3 v5 v12 wr => ∃ i : Nat, Aside0 (f + i = 64) ∧ i ≤ 64 ∧ v12 = .int .i64 i ∧ Aside0 (LSt W wr v3 ((allR rs i).map (·.key))))
  case atStart => exact ⟨0, ⟨by omega⟩, by omega, rfl, ⟨⟨Grows.refl _, own_nil _ _ _ _⟩⟩⟩
  case round =>
    obtain ⟨i, HF, hi, rfl, HS⟩ := hrel
    by_cases hlt : i < 64
    · obtain ⟨A, c, ev, hc, hr⟩ := reads_of_own (HB.out.row i hlt)
      have hix := index_rows wr vs i hlt
      rw [ev] at hix
      have HRD := Aside0.mk hr
      have HLI := Aside0.mk (allR_len rs (show i + 1 ≤ 64 by omega))
      have HSU := Aside0.mk (allR_succ rs i)
      obtain ⟨l, hl⟩ : ∃ l, rs i = l := ⟨_, rfl⟩
      rw [hl] at hix HRD hc HSU
      have hll : l.length ≤ 100000 := by
        have h1 := HLI.out
        have h2 := HLEN.out
        rw [HSU.out, List.length_append] at h1
        omega
      clear ev hr hl
      have hdi : decide ((i : Int) < 64) = true := decide_eq_true (by omega)
      go_wp2
      go_loopg [3, 7, 17] l.length (fun f v3 v7 v17 wr => ∃ j : Nat, Aside0 (f + j = l.length) ∧ j ≤ l.length ∧ v17 = .int .i64 j ∧ Aside0 (LSt W wr v3 ((allR rs i ++ l.take j).map (·.key))))
      case atStart => exact ⟨0, ⟨by omega⟩, by omega, rfl, ⟨by rw [List.take_zero, List.append_nil]; exact HS.out⟩⟩
      case round =>
        clear hix HS
        obtain ⟨j, HF2, hj, rfl, HS⟩ := hrel
        by_cases hlt2 : j < l.length
        · obtain ⟨b, ea, hp⟩ := (HRD.out.grows HS.out.g) (by omega)
          obtain ⟨k0, k1, k2, k3, k4⟩ := hp j hlt2
          subst ea
          have HKT := Aside0.mk (keys_take hlt2)
          clear hp HRD
          generalize l[j] = p at k0 k1 k2 k3 k4 HKT
          obtain ⟨a1, a2, a3, a4, a5⟩ := p
          dsimp only at k0 k1 k2 k3 k4
          go_upto_region 8 with fail
          change Code.wp _ _ _ _ (wr.alloc (.cells (Pl.cells ⟨a1, a2, a3, a4, a5⟩) 32))
          have HPB := Aside0.mk (PBox.new wr ⟨a1, a2, a3, a4, a5⟩)
          have g1 : Grows wr (wr.alloc (.cells (Pl.cells ⟨a1, a2, a3, a4, a5⟩) 32)) := (Below.refl wr.heap.size wr).alloc (Nat.le_refl _) _
          have HS1 := Aside0.mk (HS.out.grows g1)
          clear HS k0 k1 k2 k3 k4 g1
          generalize wr.alloc (.cells (Pl.cells ⟨a1, a2, a3, a4, a5⟩) 32) = w1 at *
          generalize wr.heap.size = q at HPB ⊢
          have k2 := HPB.out.c2
          dsimp only at k2
          obtain ⟨v4, w4, hr, hS4⟩ := HS1.out.app a3 (by
            have h1 := HLI.out
            have h2 := HLEN.out
            rw [HSU.out, List.length_append] at h1
            rw [List.length_map, List.length_append, List.length_take]
            omega)
          have HS4 := Aside0.mk hS4
          clear hS4
          go_wp2_with (at_builtin; refine wpList_appendE (.tmp 21) (.tmp 25) 38 rfl rfl rfl rfl ⟨_, _, hr, ?_⟩; clear hr)
          go_roundg (l.length - (j + 1))
          case measure => have := HF2.out; omega
          case rel => exact ⟨j + 1, ⟨by omega⟩, by omega, by go_num, ⟨by rw [List.map_append, HKT.out, ← List.append_assoc, ← List.map_append]; exact HS4.out⟩⟩
        · obtain rfl : j = l.length := by omega
          have HS5 := Aside0.mk (show LSt W wr u3 ((allR rs (i + 1)).map (·.key)) by rw [HSU.out]; have := HS.out; rw [List.take_length] at this; exact this)
          clear HS
          go_wp2
          go_roundg (64 - (i + 1))
          case measure => have := HF.out; omega
          case rel => exact ⟨i + 1, ⟨by omega⟩, by omega, by go_num, HS5⟩
    · obtain rfl : i = 64 := by omega
      have HSO := Aside0.mk (sort_own W.heap.size u3 ((allR rs 64).map (·.key)) (keysM m) wr (by have := HLEN.out; rw [List.length_map]; omega) HS.out.g.size HS.out.own (sort_keys HR.out))
      go_wp2_with (go_at_call 31; refine HSO.out.mono ?_; clear HSO; rintro e w2 ⟨rfl, ho, hb⟩; have HO := Aside0.mk ho; have HBB := Aside0.mk hb; clear ho hb)
      go_ret
      exact ⟨_, rfl, HO.out, HS.out.g.trans HBB.out⟩
end Go.Proofs.Ytomlnflblecpbaa
