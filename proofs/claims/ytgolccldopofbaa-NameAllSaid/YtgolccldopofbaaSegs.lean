/-
  Layer 5: the segments of names.
-/
import Derived.Test.YtgolccldopofbaaParse
import Derived.Test.YtgolccldopofbaaLays
import Derived.Sort.OwnSortedInts
import Derived.OwnWalk
import Derived.Lib.RowBridge
import Derived.Maps.AppendAt
namespace Go.Proofs.Ytgolccldopofbaa
set_option linter.unusedVariables false
set_option linter.unusedSimpArgs false
open Go.RowKit Go.Sort Go.Proofs.YtgolccldopofbaaW.PrintWords

def segOf (s : ByteArray) : Option Int := if (parseF s).2.2 = true then (if (parseF s).1 = 1 then some (parseF s).2.1 else none) else none
def segsF (l : List ByteArray) : List Int := Lib.compact ((l.filterMap segOf).mergeSort fun x y => decide (x ≤ y))
theorem info3 : (Try.prog.info? 3).map (fun i => (i.zero, i.size, i.bytes)) = some (some (.int .i64 0), 1, 8) := by kernel_rfl

theorem nums_map (xs : List Int) : nums .i64 xs = xs.map (Value.int .i64) := rfl
/-- slices.Sort at a row of the call's own. -/
theorem sort_own (base : Nat) (v : Value) (xs : List Int) (w : World) (hs : xs.length < 4611686018427387904) (hb : base ≤ w.heap.size) (h : w.ownsRow base 3 1 v xs.length (nums .i64 xs)) :
    Calls Try.prog 18 #[v] w fun e w' => e = .returned (.tuple #[]) ∧ w'.ownsRow base 3 1 v (xs.mergeSort fun x y => decide (x ≤ y)).length (nums .i64 (xs.mergeSort fun x y => decide (x ≤ y))) ∧ RowKit.Below base w w' := by
  have hlen : (xs.mergeSort fun x y => decide (x ≤ y)).length = xs.length := List.length_mergeSort _
  have h0 := h
  rcases h.2 with ⟨rfl, hx⟩ | ⟨g, cap, cur, rfl, hbase, hgg, hn, hcap, hsz, htk⟩
  · have hx0 : xs = [] := List.eq_nil_of_length_eq_zero hx
    subst hx0
    refine (sort_none none 0 w).mono ?_
    rintro e w' ⟨rfl, rfl⟩
    exact ⟨rfl, by simpa [nums] using own_nil w' base 3 1, Below.refl _ _⟩
  · have hH := holds_of_blockI hgg (by rw [← nums_map]; simpa using htk)
    refine (sort_calls g 0 cap xs w hH (Array.getElem?_eq_some_iff.1 hgg).1 hs).mono ?_
    rintro e w' ⟨rfl, m, os, rfl⟩
    refine ⟨rfl, ?_, (Below.refl base w).grown (grownBy_sortedI _) hb (fun k hk => by cases hk; exact hbase)⟩
    rw [hlen]
    exact ownsRow_sortedI hlen hbase hgg hn hcap hsz
/-- slices.Compact at a row of the call's own. -/
theorem compact_own (base : Nat) (v : Value) (xs : List Int) (w : World) (hb : base ≤ w.heap.size) (h : w.ownsRow base 3 1 v xs.length (nums .i64 xs)) :
    Calls Try.prog 19 #[v] w fun e w' => ∃ v', e = .returned v' ∧ w'.ownsRow base 3 1 v' (Lib.compact xs).length (nums .i64 (Lib.compact xs)) ∧ RowKit.Below base w w' := by
  rcases h.2 with ⟨rfl, hx⟩ | ⟨g, cap, cur, rfl, hbase, hgg, hn, hcap, hsz, htk⟩
  · have hx0 : xs = [] := List.eq_nil_of_length_eq_zero hx
    subst hx0
    refine (compact_none none 0 w).mono ?_
    rintro e w' ⟨rfl, rfl⟩
    exact ⟨_, rfl, own_nil _ _ _ _, Below.refl _ _⟩
  · have hH := holds_of_blockI hgg (by rw [← nums_map]; simpa using htk)
    refine (compact_calls g 0 cap xs w hH (by have := hcap; unfold maxLen at this; omega) hn).mono ?_
    rintro e w' ⟨rfl, q, rfl⟩
    have hcl : (Lib.compact xs).length ≤ xs.length := Lib.compact_length_le xs
    have hl : (Lib.compact xs ++ List.replicate (xs.length - (Lib.compact xs).length) (0 : Int)).length = xs.length := by simp; omega
    have hg0 := grownBy_sortedI (w := w) (g := g) (n := q) (os := #[]) (Lib.compact xs ++ List.replicate (xs.length - (Lib.compact xs).length) 0).toArray
    have hh := heap_sortedI (w := w) (g := g) (n := q) (os := #[]) (Lib.compact xs ++ List.replicate (xs.length - (Lib.compact xs).length) 0).toArray hgg
    rw [grow_empty] at hg0 hh
    refine ⟨_, rfl, ⟨by simp [nums], .inr ⟨g, cap, _, rfl, hbase, hh, by omega, hcap, by simp [putCells, hsz], ?_⟩⟩, (Below.refl base w).grown hg0 hb (fun k hk => by cases hk; exact hbase)⟩
    have ht := take_putCellsI cur (Lib.compact xs ++ List.replicate (xs.length - (Lib.compact xs).length) 0) (by rw [hl, hsz]; omega)
    have h2 := congrArg (List.take (Lib.compact xs).length) ht
    rw [List.take_take, hl, Nat.min_eq_left hcl, List.map_append, List.take_left' (by simp)] at h2
    rw [Nat.mul_one, h2]; rfl

theorem take_succ_rd (l : List ByteArray) (k : Nat) (h : k < l.length) : l.take (k + 1) = l.take k ++ [rdOf ByteArray.empty l k] := by
  rw [List.take_succ_eq_append_getElem h]
  congr 2
  show _ = l.getD k ByteArray.empty
  rw [List.getD_eq_getElem?_getD, List.getElem?_eq_getElem h]; rfl
theorem own_nums {w : World} {base : Nat} {v : Value} {xs : List Int} (h : w.ownsRow base 3 1 v xs.length (nums .i64 xs)) : w.ownsRow base 3 1 v (nums .i64 xs).length (nums .i64 xs) := by
  rw [show (nums .i64 xs).length = xs.length by simp [nums]]; exact h

set_option maxRecDepth 100000 in
set_option maxHeartbeats 1000000 in
theorem segments_calls (A : Option Addr) (n c : Nat) (l : List ByteArray) (w : World) (hr : Kd.string.C w A n l) (hc : n ≤ c) (hn : n < 17592186044416) :
    Calls Try.prog 14 #[.slice A n c] w fun e w' => ∃ v, e = .returned v ∧ w'.ownsRow w.heap.size 3 1 v (segsF l).length (nums .i64 (segsF l)) ∧ Below w.heap.size w w' := by
  have HR := Aside0.mk hr
  have hm := hr.2.1
  have HL := Aside0.mk hr.1
  have HNN := Aside0.mk hn
  clear hr hn
  go_enter Try.func14, Try.ntmps14
  go_wp2
  go_loopg [3, 11] n (fun g v i wr => ∃ (k : Nat), Aside0 (g + k = n) ∧ k ≤ n ∧ i = .int .i64 k ∧ Aside0 (wr.ownsRow w.heap.size 3 1 v ((l.take k).filterMap segOf).length (nums .i64 ((l.take k).filterMap segOf)) ∧ Below w.heap.size w wr))
  case atStart => exact ⟨0, ⟨rfl⟩, by omega, rfl, ⟨own_nil _ _ _ _, Below.refl _ _⟩⟩
  case round =>
    obtain ⟨k, HK, hk, rfl, HV⟩ := hrel
    by_cases hlt : k < n
    · obtain ⟨ad, hA, hcell⟩ := Kd.at_string (Kd.C_below HR.out HV.out.2) (k : Int) (by omega) (by omega)
      subst hA
      rw [Int.toNat_natCast] at hcell
      have HS := Aside0.mk (take_succ_rd l k (by have := HL.out; omega))
      have HKN := Aside0.mk (show ((l.take k).filterMap segOf).length ≤ k by
        have h1 := List.length_filterMap_le segOf (l.take k)
        have h2 := List.length_take_le k l
        omega)
      generalize rdOf ByteArray.empty l k = s at hcell HS
      have hp := parse_calls s wr
      have HSEG := Aside0.mk (show segOf s = if (parseF s).2.2 = true then (if (parseF s).1 = 1 then some (parseF s).2.1 else none) else none from rfl)
      generalize parseF s = r at hp HSEG
      obtain ⟨ka, na, ia⟩ := r
      dsimp only at hp HSEG
      have HP := Aside0.mk hp
      clear hp
      by_cases hi : ia = true
      · subst hi
        by_cases h1 : ka = 1
        · subst h1
          have HY := Aside0.mk (show (l.take (k + 1)).filterMap segOf = (l.take k).filterMap segOf ++ [na] by
            rw [HS.out, List.filterMap_append]
            simp [List.filterMap_cons, HSEG.out])
          have HLEN := Aside0.mk (show ((nums .i64 ((l.take k).filterMap segOf)).length + 1) * 8 ≤ 140737488355328 by
            have := HKN.out
            have : k < 17592186044416 := by have := HNN.out; omega
            simp [nums]; omega)
          go_wp2_with (first | (go_at_call 9; refine HP.out.mono ?_; rintro e w1 ⟨rfl, hb1⟩; have HO1 := Aside0.mk (pw_own_below HV.out.1 hb1); have HB1 := Aside0.mk (below_then HV.out.2 HV.out.2.size hb1); clear hb1) | (at_builtin; refine print_append (w0 := w) w.heap.size rfl (.tmp 26) (.tmp 28) 28 3 (.int .i64 0) 8 rfl Try.underlying28 info3 rfl (by omega) u3 (nums .i64 ((l.take k).filterMap segOf)) (.int .i64 na) rfl rfl rfl (own_nums HO1.out) HB1.out HB1.out.size HLEN.out ?_; intro v1 w2 hown hb2 _ _; have HO2 := Aside0.mk hown; have HB2 := Aside0.mk hb2; clear hown hb2))
          go_roundg (n - (k + 1))
          case measure => have := HK.out; omega
          case rel => exact ⟨k + 1, ⟨by omega⟩, by omega, by go_num, ⟨by rw [HY.out]; simpa [nums] using HO2.out, HB2.out⟩⟩
        · have h1' : (ka == 1) = false := by simpa using h1
          have HY := Aside0.mk (show (l.take (k + 1)).filterMap segOf = (l.take k).filterMap segOf by
            rw [HS.out, List.filterMap_append]
            simp [List.filterMap_cons, HSEG.out, h1])
          go_wp2_with (go_at_call 9; refine HP.out.mono ?_; rintro e w1 ⟨rfl, hb1⟩; have HO1 := Aside0.mk (pw_own_below HV.out.1 hb1); have HB1 := Aside0.mk (below_then HV.out.2 HV.out.2.size hb1); clear hb1)
          go_roundg (n - (k + 1))
          case measure => have := HK.out; omega
          case rel => exact ⟨k + 1, ⟨by omega⟩, by omega, by go_num, ⟨by rw [HY.out]; exact HO1.out, HB1.out⟩⟩
      · have hi' : ia = false := by simpa using hi
        subst hi'
        have HY := Aside0.mk (show (l.take (k + 1)).filterMap segOf = (l.take k).filterMap segOf by
          rw [HS.out, List.filterMap_append]
          simp [List.filterMap_cons, HSEG.out])
        go_wp2_with (go_at_call 9; refine HP.out.mono ?_; rintro e w1 ⟨rfl, hb1⟩; have HO1 := Aside0.mk (pw_own_below HV.out.1 hb1); have HB1 := Aside0.mk (below_then HV.out.2 HV.out.2.size hb1); clear hb1)
        go_roundg (n - (k + 1))
        case measure => have := HK.out; omega
        case rel => exact ⟨k + 1, ⟨by omega⟩, by omega, by go_num, ⟨by rw [HY.out]; exact HO1.out, HB1.out⟩⟩
    · have e : k = n := by omega
      subst e
      have HALL := Aside0.mk (show l.take k = l from List.take_of_length_le (by have := HL.out; omega))
      have HV1 := HV.out.1
      rw [HALL.out] at HV1
      have HV2 := Aside0.mk HV1
      have HSN := Aside0.mk (show (l.filterMap segOf).length < 4611686018427387904 by
        have h1 := List.length_filterMap_le segOf l
        have := HNN.out; have := HL.out; omega)
      clear HV1
      go_wp2_with (first | (go_at_call 18; refine (sort_own w.heap.size u3 (l.filterMap segOf) wr HSN.out HV.out.2.size HV2.out).mono ?_; rintro e w1 ⟨rfl, ho1, hb1⟩; have HO1 := Aside0.mk ho1; have HB1 := Aside0.mk (HV.out.2.trans hb1); clear ho1 hb1) | (go_at_call 19; refine (compact_own w.heap.size u3 _ w1 HB1.out.size HO1.out).mono ?_; rintro e w2 ⟨v', rfl, ho2, hb2⟩; have HO2 := Aside0.mk ho2; have HB2 := Aside0.mk (HB1.out.trans hb2); clear ho2 hb2))
      go_ret
      exact ⟨v', rfl, HO2.out, HB2.out⟩
end Go.Proofs.Ytgolccldopofbaa
