/-
  The law SumXor: the Go function returns true at every input, and writes nothing that was there.
-/
import Derived.Test.YtnbjmhlijepkfaaRows
import Derived.WalkKit
import Derived.ProofKit
import Derived.OpenShut
import Derived.ShutString
import Derived.ChangeOld
import Derived.Below
import Derived.SizedLaws
import Derived.Test.YtnbjmhlijepkfaaOpen

import Derived.RegionTactic
import Derived.ChangeAlike
import Derived.BigRegion
import Derived.StillTailTactics
namespace Go.Proofs.Ytnbjmhlijepkfaa.sumXor
open Go.ChangeShapes Go.WideShapes Go.ChangeAt Go.RowKit
open Go.Proofs.Ytnbjmhlijepkfaa Crc Go.Proofs.YtnbjmhlijepkfaaW.PrintWords
set_option linter.unusedVariables false
set_option linter.unusedSimpArgs false

theorem own : ownKnob Try.prog.godebug = none := by kernel_rfl
theorem laidOut : laidOutB Try.prog = true := by kernel_rfl

theorem rowAt {w : World} {B : Nat} {cs : Array Value} (h : w.heap[B]? = some (.cells cs 23 (0, 0))) {w' : World} (hb : Below w.heap.size w w') : w'.heap[B]? = some (.cells cs 23 (0, 0)) :=
  (hb.block B (Array.getElem?_eq_some_iff.1 h).1).trans h
def xorAt (xs ys : List Int) (j : Nat) : Int := Go.bits .xor .u8 (xs.getD j 0) (ys.getD j 0)
theorem byteAt {w : World} {A : Option Addr} {n : Nat} {zs : List Int} (h : Bytes w A n zs) (k : Nat) (hk : k < n) : ∃ ad, A = some ad ∧ w.cell? (ad.add k) = some (.int .u8 (zs.getD k 0)) := by
  obtain ⟨ad, e, hc⟩ := h.at_ (by omega)
  exact ⟨ad, e, hc k hk⟩
def SliceOf (zs : List Int) (v : Value) (w : World) : Prop := ∃ A n c, v = .slice A n c ∧ Bytes w A n zs
theorem SliceOf.mono {zs : List Int} (v : Value) (B : Nat) (w w' : World) : SliceOf zs v w → Ext B w w' → SliceOf zs v w' := fun ⟨A, n, c, e, h⟩ hb =>
  ⟨A, n, c, e, h.len, h.top, h.rng, fun hn => by
    obtain ⟨ad, e, hc⟩ := h.at_ hn
    exact ⟨ad, e, fun j hj => hb.cell (hc j hj)⟩⟩
theorem zeros_new (w : World) (B k : Nat) (hB : B ≤ w.heap.size) (hk : k ≤ 9223372036854775807) : SliceOf (List.replicate k 0) (.slice (some ⟨w.heap.size, 0, none⟩) k k) (w.alloc (.cells (madeCells #[.int .u8 0] k) 5)) := by
  obtain ⟨A, c, e, hr⟩ := own_reads (own_made w B 5 .u8 k hB hk)
  exact ⟨A, k, c, e, bytes_of_reads hr fun z hz => by rw [(List.mem_replicate.1 hz).2]; exact ⟨by decide, by decide⟩⟩
theorem firsts {w : World} {A : Option Addr} {n : Nat} {zs : List Int} (h : Bytes w A n zs) (k : Nat) (hk : k ≤ n) : Bytes w A k (zs.take k) :=
  ⟨by rw [List.length_take, h.len]; omega, by have := h.top; omega, fun z hz => h.rng z (List.mem_of_mem_take hz), fun h0 => by
    obtain ⟨ad, e, hc⟩ := h.at_ (by omega)
    refine ⟨ad, e, fun j hj => ?_⟩
    rw [hc j (by omega)]
    simp [List.getD_eq_getElem?_getD, List.getElem?_take, hj]⟩
theorem xorAt_byte (xs ys : List Int) (hx : ∀ z ∈ xs, isByte z) (hy : ∀ z ∈ ys, isByte z) (j : Nat) : isByte (xs.getD j 0) ∧ isByte (ys.getD j 0) ∧ isByte (xorAt xs ys j) := by
  have key : ∀ l : List Int, (∀ z ∈ l, isByte z) → isByte (l.getD j 0) := fun l h => by
    rw [List.getD_eq_getElem?_getD]
    cases e : l[j]? with
    | none => exact ⟨by decide, by decide⟩
    | some v => exact h v (List.mem_of_getElem? e)
  refine ⟨key xs hx, key ys hy, ?_⟩
  obtain ⟨a0, a1⟩ := key xs hx
  obtain ⟨b0, b1⟩ := key ys hy
  unfold xorAt
  rw [u8_xor _ _ a0 (by omega) b0 (by omega)]
  have := Nat.xor_lt_two_pow (n := 8) (x := (xs.getD j 0).toNat) (y := (ys.getD j 0).toNat) (by omega) (by omega)
  constructor <;> omega
theorem rows_done {w : World} {B n : Nat} {cs : Array Value} {xs ys : List Int} (h : RowT w B 5 n cs) (ht : ToldBy (fun j => .int .u8 (xorAt xs ys j)) cs n) (hn : n ≤ 9223372036854775807) (hx : ∀ z ∈ xs, isByte z) (hy : ∀ z ∈ ys, isByte z) :
    Bytes w (some ⟨B, 0, none⟩) n ((List.range n).map (xorAt xs ys)) :=
  ⟨by simp, hn, fun z hz => by
    obtain ⟨j, _, rfl⟩ := List.mem_map.1 hz
    exact (xorAt_byte xs ys hx hy j).2.2, fun _ => ⟨_, rfl, fun j hj => by
    have e : (⟨B, 0, none⟩ : Addr).add j = ⟨B, j, none⟩ := by unfold Addr.add; split <;> simp_all
    rw [e, cell_of_row w B j cs 5 (0, 0) h.heap, ht j hj]
    simp [hj]⟩⟩
theorem ofInt_xor (a b : Int) (ha : isByte a) (hb : isByte b) : BitVec.ofInt 32 (Go.bits .xor .u8 a b) = BitVec.ofInt 32 a ^^^ BitVec.ofInt 32 b := by
  obtain ⟨a0, a1⟩ := ha
  obtain ⟨b0, b1⟩ := hb
  rw [u8_xor _ _ a0 (by omega) b0 (by omega)]
  apply BitVec.eq_of_toNat_eq
  have e1 : (BitVec.ofInt 32 a).toNat = a.toNat := by rw [BitVec.toNat_ofInt]; omega
  have e2 : (BitVec.ofInt 32 b).toNat = b.toNat := by rw [BitVec.toNat_ofInt]; omega
  have := Nat.xor_lt_two_pow (n := 8) (x := a.toNat) (y := b.toNat) (by omega) (by omega)
  rw [BitVec.toNat_xor, e1, e2, BitVec.toNat_ofInt]
  omega
theorem not_xor_not (x y : BitVec 32) : ~~~ x ^^^ ~~~ y = x ^^^ y := by
  apply BitVec.eq_of_getLsbD_eq
  intro i hi
  simp [hi]
theorem sums4 (xs ys : List Int) (n : Nat) (hlx : n ≤ xs.length) (hly : n ≤ ys.length) (hx : ∀ z ∈ xs, isByte z) (hy : ∀ z ∈ ys, isByte z) :
    Go.bits .xor .u32 (Go.bits .xor .u32 (Go.bits .xor .u32 ((on tab 0#32 ((List.range n).map (xorAt xs ys))).toNat : Int) ((on tab 0#32 (xs.take n)).toNat : Int)) ((on tab 0#32 (ys.take n)).toNat : Int)) ((on tab 0#32 (List.replicate n 0)).toNat : Int) = 0 := by
  have hx' : ∀ z ∈ xs.take n, isByte z := fun z hz => hx z (List.mem_of_mem_take hz)
  have hy' : ∀ z ∈ ys.take n, isByte z := fun z hz => hy z (List.mem_of_mem_take hz)
  have hX : ∀ z ∈ (List.range n).map (xorAt xs ys), isByte z := fun z hz => by
    obtain ⟨j, _, rfl⟩ := List.mem_map.1 hz
    exact (xorAt_byte xs ys hx hy j).2.2
  have hZ : ∀ z ∈ List.replicate n (0 : Int), isByte z := fun z hz => by rw [(List.mem_replicate.1 hz).2]; exact ⟨by decide, by decide⟩
  have e1 := run_xor (xs.take n) (ys.take n) ((List.range n).map (xorAt xs ys)) (~~~ 0#32) (~~~ 0#32) (by simp; omega) (by simp; omega) hx' hy' hX (fun i hi => by
    have hi' : i < n := by simp at hi; omega
    have e : ((List.range n).map (xorAt xs ys)).getD i 0 = xorAt xs ys i := by simp [List.getD_eq_getElem?_getD, hi']
    have ex : (xs.take n).getD i 0 = xs.getD i 0 := by simp [List.getD_eq_getElem?_getD, List.getElem?_take, hi']
    have ey : (ys.take n).getD i 0 = ys.getD i 0 := by simp [List.getD_eq_getElem?_getD, List.getElem?_take, hi']
    obtain ⟨h1, h2, _⟩ := xorAt_byte xs ys hx hy i
    rw [e, ex, ey]
    exact ofInt_xor _ _ h1 h2)
  have e2 := run_xor ((List.range n).map (xorAt xs ys)) (List.replicate n 0) ((List.range n).map (xorAt xs ys)) (~~~ 0#32) (~~~ 0#32) (by simp) (by simp) hX hZ hX (fun i hi => by
    have hi' : i < n := by simpa using hi
    have : (List.replicate n (0 : Int)).getD i 0 = 0 := by simp [List.getD_eq_getElem?_getD, hi']
    rw [this]; simp)
  rw [e1] at e2
  rw [bits_xor32, bits_xor32, bits_xor32]
  unfold on
  generalize run tab (~~~ 0#32) ((List.range n).map (xorAt xs ys)) = X at *
  generalize run tab (~~~ 0#32) (xs.take n) = A at *
  generalize run tab (~~~ 0#32) (ys.take n) = B at *
  generalize run tab (~~~ 0#32) (List.replicate n 0) = Z at *
  have : ~~~ X ^^^ ~~~ A ^^^ ~~~ B ^^^ ~~~ Z = 0#32 := by
    rw [BitVec.xor_assoc, not_xor_not, not_xor_not]
    have : X ^^^ A ^^^ (B ^^^ Z) = (A ^^^ B) ^^^ (X ^^^ Z) := by ac_rfl
    rw [this, e2]; simp
  rw [this]; rfl
attribute [local go_sem] growUpon min2_num min_of_two
set_option maxRecDepth 100000 in
set_option maxHeartbeats 1000000 in
theorem early (a0 : Option Addr) (len0 cap0 : Nat) (z0 : List Int) (a1 : Option Addr) (len1 cap1 : Nat) (z1 : List Int) (w : World) (w0 : Bytes w a0 len0 z0) (c0 : len0 ≤ cap0 ∧ cap0 ≤ 140737488351232) (w1 : Bytes w a1 len1 z1) (c1 : len1 ≤ cap1 ∧ cap1 ≤ 140737488351232) (n : Nat) (hn : n = min len0 len1) (hl : 9000 < n) :
    Calls Try.prog 6 #[.slice a0 len0 cap0, .slice a1 len1 cap1] w fun e w' => e = .returned (.bool true) ∧ Below w.heap.size w w' := by
  have hm : (if len1 < len0 then (len1 : Int) else (len0 : Int)) = (n : Int) := by split <;> omega
  have hl2 : (9000 : Int) < (n : Int) := by omega
  clear w0 w1 hl hn
  go_enter Try.func6, Try.ntmps6
  go_wp2_with (first | (go_at_call 9; refine (head_calls _).mono ?_; rintro e w1 ⟨rfl, hb1⟩; have HB1 := Aside0.mk hb1; clear hb1))
  go_ret
  exact ⟨rfl, HB1.out⟩
set_option maxRecDepth 100000 in
set_option maxHeartbeats 1000000 in
theorem late (a0 : Option Addr) (len0 cap0 : Nat) (z0 : List Int) (a1 : Option Addr) (len1 cap1 : Nat) (z1 : List Int) (w : World) (w0 : Bytes w a0 len0 z0) (c0 : len0 ≤ cap0 ∧ cap0 ≤ 140737488351232) (w1 : Bytes w a1 len1 z1) (c1 : len1 ≤ cap1 ∧ cap1 ≤ 140737488351232) (n : Nat) (hn : n = min len0 len1) (hl : ¬ 9000 < n) :
    Calls Try.prog 6 #[.slice a0 len0 cap0, .slice a1 len1 cap1] w fun e w' => e = .returned (.bool true) ∧ Below w.heap.size w w' := by
  have hm : (if len1 < len0 then (len1 : Int) else (len0 : Int)) = (n : Int) := by split <;> omega
  have hl2 : (n : Int) ≤ 9000 := by omega
  have hn0 : n ≤ len0 := by omega
  have hn1 : n ≤ len1 := by omega
  have HW0 := Aside0.mk w0
  have HW1 := Aside0.mk w1
  have HZ := Aside0.mk zero23
  have hmk := print_make 24 5 .u8 1 Try.underlying24 info5 (by omega) n (by omega)
  clear w0 w1 hl hn
  go_enter Try.func6, Try.ntmps6
  go_wp2_with (first | (go_at_call 9; refine (head_calls _).mono ?_; rintro e w1 ⟨rfl, hb1⟩; have HB1 := Aside0.mk hb1; clear hb1) | (go_at_call 10; refine (table_calls _).mono ?_; rintro e w2 ⟨rfl, hb2⟩; have hz := HZ.out) | (refine wpList_store_row rfl 23 _ _ rfl w2.heap.size (cellsOf tab) rfl rfl 23 zs0 (heap_alloc_new _ _) (by rw [info23, cellsOf_size]) (by rw [zs0, cellsOf_size, cellsOf_size]) (cellsOf_one tab) ?_))
  try simp only [Act.put]
  have hb3 : Below w.heap.size w ((w2.alloc (Obj.cells zs0 23)).setRow w2.heap.size (cellsOf tab)) := below_setRow ((below_tail HB1.out hb2).alloc (below_tail HB1.out hb2).size _) _ _ (below_tail HB1.out hb2).size
  have hrow : ((w2.alloc (Obj.cells zs0 23)).setRow w2.heap.size (cellsOf tab)).heap[w2.heap.size]? = some (.cells (cellsOf tab) 23 (0, 0)) := setRow_heap _ _ _ _ _ _ (heap_alloc_new _ _)
  have hsz : ((w2.alloc (Obj.cells zs0 23)).setRow w2.heap.size (cellsOf tab)).heap.size = w2.heap.size + 1 := by simp
  generalize (w2.alloc (Obj.cells zs0 23)).setRow w2.heap.size (cellsOf tab) = W at hb3 hrow hsz ⊢
  generalize w2.heap.size = B at hrow hsz ⊢
  have HH := Aside0.mk hrow
  have HB := Aside0.mk hb3
  have HS := Aside0.mk hsz
  clear hrow hsz hb2 hb3 HZ hz HB1
  go_wp2
  have HMK := Aside0.mk hmk
  clear hmk hm
  have hW0 := HW0.out.below HB.out
  have hW1 := HW1.out.below HB.out
  have HX0 := Aside0.mk hW0
  have HX1 := Aside0.mk hW1
  clear hW0 hW1
  go_loopg [9] n (fun g i wr => ∃ (k : Nat) (cs : Array Value), Aside0 (g + k = n) ∧ k ≤ n ∧ i = .int .i64 k ∧ Aside0 (RowT wr (B + 1) 5 n cs ∧ ToldBy (fun j => .int .u8 (xorAt z0 z1 j)) cs k ∧ Below (B + 1) W wr))
  case atStart =>
    have hs := HS.out
    refine ⟨0, madeCells #[.int .u8 0] n, ⟨by omega⟩, by omega, rfl, ⟨⟨by simp [madeCells], ?_⟩, fun j hj => by omega, (Below.refl _ _).alloc (by omega) _⟩⟩
    rw [← hs]; exact heap_alloc_new W _
  case round =>
    obtain ⟨k, cs, HK, hk, rfl, HR⟩ := hrel
    by_cases hlt : k < n
    · obtain ⟨g1, rfl⟩ : ∃ g1, gk = g1 + 1 := ⟨gk - 1, by have := HK.out; omega⟩
      have hx0 := byteAt (HX0.out.below (by have := HR.out.2.2; rw [← HS.out] at this; exact this)) k (by omega)
      have hx1 := byteAt (HX1.out.below (by have := HR.out.2.2; rw [← HS.out] at this; exact this)) k (by omega)
      obtain ⟨ad0, rfl, hc0⟩ := hx0
      obtain ⟨ad1, rfl, hc1⟩ := hx1
      obtain ⟨v, hv⟩ := HR.out.1.cell k hlt
      have hf := HR.out.1.frozen k
      have HT : Aside0 (xorAt z0 z1 k = Go.bits .xor .u8 (z0.getD k 0) (z1.getD k 0)) := ⟨rfl⟩
      generalize z0.getD k 0 = x0 at hc0 HT
      generalize z1.getD k 0 = x1 at hc1 HT
      have hl0 : (k : Int) < (len0 : Int) := by omega
      have hl1 : (k : Int) < (len1 : Int) := by omega
      have hln : (k : Int) < (n : Int) := by omega
      go_wp2
      go_region
      go_wp2
      go_roundg g1
      case measure => omega
      case rel =>
        refine ⟨k + 1, _, ⟨by have := HK.out; omega⟩, by omega, by go_num, ⟨HR.out.1.drew.set k _, ?_, HR.out.2.2.drew.setCell (by simp) _⟩⟩
        have := HR.out.2.1.next (f := fun j => .int .u8 (xorAt z0 z1 j)) (by rw [HR.out.1.size]; exact hlt)
        simp only [HT.out] at this
        exact this
    · have hkn : k = n := by omega
      subst hkn
      have HF := Aside0.mk (rows_done HR.out.1 HR.out.2.1 (by omega) HW0.out.rng HW1.out.rng)
      have HBW : Aside0 (Below W.heap.size W wr) := ⟨by have := HR.out.2.2; rwa [← HS.out] at this⟩
      have HX0' := Aside0.mk (firsts (HX0.out.below HBW.out) k (by omega))
      have HX1' := Aside0.mk (firsts (HX1.out.below HBW.out) k (by omega))
      have HFS := Aside0.mk (sums4 z0 z1 k (by rw [HW0.out.len]; omega) (by rw [HW1.out.len]; omega) HW0.out.rng HW1.out.rng)
      have hl0 : (k : Int) ≤ (cap0 : Int) := by omega
      have hl1 : (k : Int) ≤ (cap1 : Int) := by omega
      go_wp2
      have hrow : Aside0 (wr.heap[B]? = some (.cells (cellsOf tab) 23 (0, 0))) := ⟨(HR.out.2.2.block B (by omega)).trans HH.out⟩
      apply wp_region_grow (hm := by kernel_rfl) (hB := by kernel_rfl)
      case h =>
        apply grow_fixed
        case hw => simp [Region.wanted, yielded]
        case ho =>
          intro w' hb hf
          clear hf
          refine ⟨?_⟩
          go_simp
          exact ⟨Ext.refl _ _, rfl⟩
        simp only [Act.put]
        apply grow_fixed
        case hw => simp [Region.wanted, yielded]
        case ho =>
          intro w' hb hf
          clear hf
          refine ⟨?_⟩
          go_simp
          exact ⟨Ext.refl _ _, rfl⟩
        simp only [Act.put]
        apply grow_fixed
        case hw => simp [Region.wanted, yielded]
        case ho =>
          intro w' hb hf
          exact growAt_load_row 23 (.tmp 7) rfl B (by simp [Act.eval]) 23 _ (0, 0) (.array 256 22) (rowAt hrow.out hb) Try.underlying23 rfl (by rw [info23, cellsOf_size]) ⟨Ext.refl _ _, rfl⟩
        simp only [Act.put]
        apply grow_fixed
        case hw => simp [Region.wanted, yielded]
        case ho =>
          intro w' hb hf
          clear hf
          refine ⟨?_⟩
          go_simp
          exact ⟨Ext.refl _ _, rfl⟩
        simp only [Act.put]
        apply grow_fixed (c := .int .u32 ((on tab 0#32 ((List.range k).map (xorAt z0 z1))).toNat : Int))
        case hw => simp [Region.wanted, yielded]
        case ho =>
          intro w' hb hf
          clear hf
          refine ⟨?_⟩
          go_simp
          exact (of_calls tab (some ⟨B + 1, 0, none⟩) k k ((List.range k).map (xorAt z0 z1)) w' (HF.out.below hb)).mono fun e w4 ⟨he, hb4⟩ => ⟨by rw [he]; rfl, .of_below hb.size hb4⟩
        simp only [Act.put]
        apply grow_fixed
        case hw => simp [Region.wanted, yielded]
        case ho =>
          intro w' hb hf
          exact growAt_load_row 23 (.tmp 7) rfl B (by simp [Act.eval]) 23 _ (0, 0) (.array 256 22) (rowAt hrow.out hb) Try.underlying23 rfl (by rw [info23, cellsOf_size]) ⟨Ext.refl _ _, rfl⟩
        simp only [Act.put]
        apply grow_fixed
        case hw => simp [Region.wanted, yielded]
        case ho =>
          intro w' hb hf
          clear hf
          refine ⟨?_⟩
          go_simp
          exact ⟨Ext.refl _ _, rfl⟩
        simp only [Act.put]
        apply grow_fixed
        case hw => simp [Region.wanted, yielded]
        case ho =>
          intro w' hb hf
          clear hf
          refine ⟨?_⟩
          go_simp
          exact ⟨Ext.refl _ _, rfl⟩
        simp only [Act.put]
        apply grow_fixed
        case hw => simp [Region.wanted, yielded]
        case ho =>
          intro w' hb hf
          clear hf
          refine ⟨?_⟩
          go_simp
          exact ⟨Ext.refl _ _, rfl⟩
        simp only [Act.put]
        apply grow_fixed (c := .int .u32 ((on tab 0#32 (z0.take k)).toNat : Int))
        case hw => simp [Region.wanted, yielded]
        case ho =>
          intro w' hb hf
          clear hf
          refine ⟨?_⟩
          go_simp
          exact (of_calls tab a0 k cap0 (z0.take k) w' (HX0'.out.below hb)).mono fun e w4 ⟨he, hb4⟩ => ⟨by rw [he]; rfl, .of_below hb.size hb4⟩
        simp only [Act.put]
        apply grow_fixed
        case hw => simp [Region.wanted, yielded]
        case ho =>
          intro w' hb hf
          clear hf
          refine ⟨?_⟩
          go_simp
          exact ⟨Ext.refl _ _, rfl⟩
        simp only [Act.put]
        apply grow_fixed
        case hw => simp [Region.wanted, yielded]
        case ho =>
          intro w' hb hf
          exact growAt_load_row 23 (.tmp 7) rfl B (by simp [Act.eval]) 23 _ (0, 0) (.array 256 22) (rowAt hrow.out hb) Try.underlying23 rfl (by rw [info23, cellsOf_size]) ⟨Ext.refl _ _, rfl⟩
        simp only [Act.put]
        apply grow_fixed
        case hw => simp [Region.wanted, yielded]
        case ho =>
          intro w' hb hf
          clear hf
          refine ⟨?_⟩
          go_simp
          exact ⟨Ext.refl _ _, rfl⟩
        simp only [Act.put]
        apply grow_fixed
        case hw => simp [Region.wanted, yielded]
        case ho =>
          intro w' hb hf
          clear hf
          refine ⟨?_⟩
          go_simp
          exact ⟨Ext.refl _ _, rfl⟩
        simp only [Act.put]
        apply grow_fixed
        case hw => simp [Region.wanted, yielded]
        case ho =>
          intro w' hb hf
          clear hf
          refine ⟨?_⟩
          go_simp
          exact ⟨Ext.refl _ _, rfl⟩
        simp only [Act.put]
        apply grow_fixed (c := .int .u32 ((on tab 0#32 (z1.take k)).toNat : Int))
        case hw => simp [Region.wanted, yielded]
        case ho =>
          intro w' hb hf
          clear hf
          refine ⟨?_⟩
          go_simp
          exact (of_calls tab a1 k cap1 (z1.take k) w' (HX1'.out.below hb)).mono fun e w4 ⟨he, hb4⟩ => ⟨by rw [he]; rfl, .of_below hb.size hb4⟩
        simp only [Act.put]
        apply grow_fixed
        case hw => simp [Region.wanted, yielded]
        case ho =>
          intro w' hb hf
          clear hf
          refine ⟨?_⟩
          go_simp
          exact ⟨Ext.refl _ _, rfl⟩
        simp only [Act.put]
        apply grow_fixed
        case hw => simp [Region.wanted, yielded]
        case ho =>
          intro w' hb hf
          exact growAt_load_row 23 (.tmp 7) rfl B (by simp [Act.eval]) 23 _ (0, 0) (.array 256 22) (rowAt hrow.out hb) Try.underlying23 rfl (by rw [info23, cellsOf_size]) ⟨Ext.refl _ _, rfl⟩
        simp only [Act.put]
        apply grow_fixed
        case hw => simp [Region.wanted, yielded]
        case ho =>
          intro w' hb hf
          clear hf
          refine ⟨?_⟩
          go_simp
          exact ⟨Ext.refl _ _, rfl⟩
        simp only [Act.put]
        apply grow_free (G := SliceOf (List.replicate k 0))
        case hw => simp [Region.wanted, yielded]
        case hm => exact SliceOf.mono
        case ho =>
          intro w' hb hf
          clear hf
          have hmk := HMK.out
          refine ⟨?_⟩
          go_simp
          exact ⟨.of_below hb.size ((Below.refl _ _).alloc (Nat.le_refl _) _), zeros_new w' wr.heap.size k hb.size (by omega)⟩
        intro v9
        simp only [Act.put]
        apply grow_fixed (c := .int .u32 ((on tab 0#32 (List.replicate k 0)).toNat : Int))
        case hw => simp [Region.wanted, yielded]
        case ho =>
          intro w' hb hf
          obtain ⟨A9, n9, c9, rfl, hB9⟩ := hf _ List.mem_cons_self (by kernel_rfl)
          clear hf
          have HB9 := Aside0.mk hB9
          clear hB9
          refine ⟨?_⟩
          go_simp
          exact (of_calls tab A9 n9 c9 (List.replicate k 0) w' HB9.out).mono fun e w4 ⟨he, hb4⟩ => ⟨by rw [he]; rfl, .of_below hb.size hb4⟩
        simp only [Act.put]
        apply grow_fixed (c := .int .u32 0)
        case hw => simp [Region.wanted, yielded]
        case ho =>
          intro w' hb hf
          clear hf
          have hq := HFS.out
          refine ⟨?_⟩
          go_simp
          exact Ext.refl _ _
        simp only [Act.put]
        apply grow_fixed
        case hw => simp [Region.wanted, yielded]
        case ho =>
          intro w' hb hf
          clear hf
          refine ⟨?_⟩
          go_simp
          exact ⟨Ext.refl _ _, rfl⟩
        simp only [Act.put]
        apply grow_fixed
        case hw => simp [Region.wanted, yielded]
        case ho =>
          intro w' hb hf
          clear hf
          refine ⟨?_⟩
          go_simp
          exact ⟨Ext.refl _ _, rfl⟩
        simp only [Act.put]
        apply grow_fixed
        case hw => simp [Region.wanted, yielded]
        case ho =>
          intro w' hb hf
          clear hf
          refine ⟨?_⟩
          go_simp
          exact ⟨Ext.refl _ _, rfl⟩
        simp only [Act.put]
        refine grow_nil (fun w' hb hf => ?_)
        clear hf
        go_wp2
        go_ret
        refine ⟨?_, below_tail (below_tail HB.out HBW.out) hb⟩
        simp
      case hsp => exact ⟨SliceOf.mono, trivial⟩
theorem walk (a0 : Option Addr) (len0 cap0 : Nat) (z0 : List Int) (a1 : Option Addr) (len1 cap1 : Nat) (z1 : List Int) (w : World) (w0 : Bytes w a0 len0 z0) (c0 : len0 ≤ cap0 ∧ cap0 ≤ 140737488351232) (w1 : Bytes w a1 len1 z1) (c1 : len1 ≤ cap1 ∧ cap1 ≤ 140737488351232) :
    Calls Try.prog 6 #[.slice a0 len0 cap0, .slice a1 len1 cap1] w fun e w' => e = .returned (.bool true) ∧ Below w.heap.size w w' := by
  by_cases hl : 9000 < min len0 len1
  · exact early a0 len0 cap0 z0 a1 len1 cap1 z1 w w0 c0 w1 c1 _ rfl hl
  · exact late a0 len0 cap0 z0 a1 len1 cap1 z1 w w0 c0 w1 c1 _ rfl hl

set_option maxRecDepth 100000 in
theorem lifted (os : Os) (started : os.Started) (H : Type) (enc : TypeId × Value → H) :
    ReturnsInHanded {} Try.checked os 6 .any (Rows.sumXorSpec.pre6 enc Try.prog Try.f6 Rows.sumXorRow.domain false) (Rows.sumXorSpec.post enc Try.prog Try.f6 false true false false) := by
  refine returnsInHanded_of_change_sized (C := Try.checked) own started (by kernel_rfl) Try.func6
    (ChangeSpec.witness6 (enc := enc) (C := Try.checked) false ⟨#[], #[.slice none 0 0, .slice none 0 0], []⟩ 8 (by kernel_rfl) (by kernel_rfl) (by kernel_rfl) (by kernel_rfl)) ?_
  intro W base args ds gs before hval0 hW hcnd hsz0 _
  have hval : ∀ (j : Nat) t v, Try.f6.params[j]? = some t → args[j]? = some v → Value.okWide Try.prog W .any base t v := hval0
  have hW' := hW
  obtain ⟨p, q, hA0, hV, rfl, hfz, hnd⟩ := hW
  have hA : DataW.TrodAll enc Try.prog W 0 (fun _ => true) true Try.f6.params.toList args.toList ds p := hA0
  have hsz : (DataW.weightsEach Try.prog (Try.f6.params.toList ++ Rows.sumXorSpec.plain.varTypes Try.prog) (ds ++ gs)).all (· ≤ reachBytes) = true := hsz0
  rw [Try.params6] at hA hval hsz
  obtain ⟨v0, vs0, d0, ds0, p0, q0, hargs, rfl, rfl, h0, r0⟩ := trodAll_cons hA
  obtain ⟨v1, vs1, d1, ds1, p1, q1, rfl, rfl, rfl, h1, r1⟩ := trodAll_cons r0
  obtain ⟨rfl, rfl, rfl⟩ := trodAll_nil r1
  obtain rfl : args = #[v0, v1] := by cases args; simp_all
  obtain ⟨rfl, rfl⟩ := trodVars_none hV
  have k0 := h0
  have lt0 : ∀ x ∈ p0, x.block < W.heap.size := by obtain ⟨m, hm⟩ := k0; exact DataW.trod_lt m _ _ _ hm
  obtain ⟨a0, len0, cap0, z0, rfl, w0, c0, m0⟩ := open_bytes 0 (hval 0 24 v0 rfl rfl) h0 hsz rfl rfl
  have k1 := h1
  have lt1 : ∀ x ∈ p1, x.block < W.heap.size := by obtain ⟨m, hm⟩ := k1; exact DataW.trod_lt m _ _ _ hm
  obtain ⟨a1, len1, cap1, z1, rfl, w1, c1, m1⟩ := open_bytes 1 (hval 1 24 v1 rfl rfl) h1 hsz rfl rfl
  clear hA0 hval0 hsz0
  refine (walk a0 len0 cap0 z0 a1 len1 cap1 z1 W w0 ⟨c0, m0⟩ w1 ⟨c1, m1⟩).mono fun e W' ⟨he, bel⟩ => ?_
  subst he
  exact ⟨_, rfl, _, _, _, [], _, [], hW', trodAll_mk1 (shut_bool Try.underlying4 _), (trodAll_cons_mk (Below.trod laidOut (by kernel_rfl) (of_decide_eq_true (by kernel_rfl)) k0 bel lt0) (trodAll_cons_mk (Below.trod laidOut (by kernel_rfl) (of_decide_eq_true (by kernel_rfl)) k1 bel lt1) trodAll_mk0)), rfl, bel.frame _, fun h => by cases h⟩

theorem over : Rows.sumXorRow.holds Try.pinned (OpenSpec.ofChange Rows.sumXorSpec) :=
  OpenClaim.holds_of_wide 6 Try.f6 rfl rfl rfl rfl rfl rfl rfl ⟨rfl, rfl, rfl, rfl, rfl⟩ rfl rfl rfl rfl rfl (by kernel_rfl) Try.func6 (by kernel_rfl)
    (of_decide_eq_true (by kernel_rfl)) (by unfold Func.isWrapper; first | (rw [if_pos (by decide +kernel)]; kernel_rfl) | (rw [if_neg (by decide +kernel)]; exact ⟨rfl, rfl⟩))
    (fun os started H enc _ => lifted os started H enc)

theorem proved : Rows.SumXorSaid := over
#print axioms proved
end Go.Proofs.Ytnbjmhlijepkfaa.sumXor
