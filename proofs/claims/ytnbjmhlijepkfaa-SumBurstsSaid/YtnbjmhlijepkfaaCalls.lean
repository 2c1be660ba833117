/-
  What the functions of layer 1 compute: Table, On, Of, and the document's Table, On, Of, Bit. Each walked once.
-/
import Derived.Test.YtnbjmhlijepkfaaRows
import Derived.Test.YtnbjmhlijepkfaaMath
import Derived.WalkKit
import Derived.WalkSpells
import Derived.WalkLawsBesides
import Derived.Deep.LoopGhost
namespace Go.Proofs.Ytnbjmhlijepkfaa
set_option linter.unusedVariables false
set_option linter.unusedSimpArgs false
open Go.RowKit Crc

/-- A fact that the walk's simp doesn't look into. -/
structure Aside0 (p : Prop) : Prop where mk :: (out : p)

def U (x : BitVec 32) : Value := .int .u32 (x.toNat : Int)
def cellsOf (f : Nat → BitVec 32) : Array Value := Array.ofFn (n := 256) fun i => U (f i.val)
theorem cellsOf_size (f) : (cellsOf f).size = 256 := by simp [cellsOf]
theorem cellsOf_get (f) (k : Nat) (h : k < 256) : (cellsOf f)[k]? = some (U (f k)) := by simp [cellsOf, h]
theorem cellsOf_one (f) : (cellsOf f).all (·.oneCell') = true := by
  rw [Array.all_eq_true]
  intro i hi
  simp [cellsOf, U, Value.oneCell']

/-- A slice of bytes that is read. -/
structure Bytes (w : World) (A : Option Addr) (n : Nat) (zs : List Int) : Prop where
  len : zs.length = n
  top : n ≤ 9223372036854775807
  rng : ∀ z ∈ zs, isByte z
  at_ : 0 < n → ∃ ad, A = some ad ∧ ∀ j, j < n → w.cell? (ad.add j) = some (.int .u8 (zs.getD j 0))
theorem Bytes.below {w w1 : World} {A n zs} (h : Bytes w A n zs) (hb : Below w.heap.size w w1) : Bytes w1 A n zs :=
  ⟨h.len, h.top, h.rng, fun hn => by
    obtain ⟨ad, e, hc⟩ := h.at_ hn
    exact ⟨ad, e, fun j hj => (hb.cell (World.block_lt_of_cell? w _ (hc j hj))).trans (hc j hj)⟩⟩
theorem Bytes.byte {w : World} {A n zs} (h : Bytes w A n zs) (k : Nat) (hk : k < n) : isByte (zs.getD k 0) := by
  have hl := h.len
  have : zs.getD k 0 ∈ zs := by
    rw [List.getD_eq_getElem?_getD, List.getElem?_eq_getElem (by omega)]; simp
  exact h.rng _ this

theorem ret_u32 {a b : Int} (h : a = b) : Ending.returned (.int .u32 a) = .returned (.int .u32 b) := by rw [h]

/-! ### Words in the walk's own form -/
theorem bits_xor32 (x y : BitVec 32) : Go.bits .xor .u32 (x.toNat : Int) (y.toNat : Int) = ((x ^^^ y).toNat : Int) := by
  rw [u32_xor_nat _ _ x.isLt y.isLt, BitVec.toNat_xor]
theorem not32 (x : BitVec 32) : Go.bits .xor .u32 (IntKind.u32.max) (x.toNat : Int) = ((~~~x).toNat : Int) := by
  have : (IntKind.u32.max) = ((BitVec.allOnes 32).toNat : Int) := by decide
  rw [this, bits_xor32, BitVec.allOnes_xor]
theorem not32' (x : BitVec 32) : Go.bits .xor .u32 (x.toNat : Int) 4294967295 = ((~~~x).toNat : Int) := by
  have : (4294967295 : Int) = ((BitVec.allOnes 32).toNat : Int) := by decide
  rw [this, bits_xor32, BitVec.xor_allOnes]
theorem shr8 (x : BitVec 32) : (x.toNat : Int) / (256 : Int) = ((x >>> 8).toNat : Int) := by
  rw [BitVec.toNat_ushiftRight, Nat.shiftRight_eq_div_pow]; omega
theorem shr1 (x : BitVec 32) : (x.toNat : Int) / (2 : Int) = ((x >>> 1).toNat : Int) := by
  rw [BitVec.toNat_ushiftRight, Nat.shiftRight_eq_div_pow]; omega
theorem lsb (x : BitVec 32) : x.getLsbD 0 = decide (x.toNat % 2 = 1) := by
  simp [BitVec.getLsbD, Nat.testBit_zero]
theorem stepGo (x : BitVec 32) : Go.bits .xor .u32 ((x.toNat : Int) / 2) (Go.bits .and .u32 (x.toNat : Int) 1 * 2197175160 % 4294967296) = ((bitStep x).toNat : Int) := by
  have h1 : Go.bits .and .u32 (x.toNat : Int) 1 = ((x.toNat % 2 : Nat) : Int) := by
    have := u32_and_nat x.toNat 1 x.isLt (by omega)
    rw [Nat.and_one_is_mod] at this
    exact this
  have h2 : Go.bits .and .u32 (x.toNat : Int) 1 * 2197175160 % 4294967296 = (((if x.getLsbD 0 then poly else 0#32) : BitVec 32).toNat : Int) := by
    rw [h1, lsb]
    by_cases h : x.toNat % 2 = 1
    · simp [h, poly]
    · have : x.toNat % 2 = 0 := by omega
      simp [this]
  rw [h2, shr1, bits_xor32]
  rfl
theorem ofInt_byte (z : Int) (h0 : 0 ≤ z) (h1 : z ≤ 255) : ((BitVec.ofInt 32 z).toNat : Int) = z := by
  rw [BitVec.toNat_ofInt]; omega
theorem idx32 (x : BitVec 32) (z : Int) (h0 : 0 ≤ z) (h1 : z ≤ 255) : Go.bits .xor .u32 (x.toNat : Int) z = ((x ^^^ BitVec.ofInt 32 z).toNat : Int) := by
  have h := bits_xor32 x (BitVec.ofInt 32 z)
  rwa [ofInt_byte z h0 h1] at h
theorem idx8 (x : BitVec 32) (z : Int) (h0 : 0 ≤ z) (h1 : z ≤ 255) : Go.bits .xor .u8 ((x.toNat : Int) % 256) z = (((x ^^^ BitVec.ofInt 32 z).toNat % 256 : Nat) : Int) := by
  have e : z = ((BitVec.ofInt 32 z).toNat : Int) := (ofInt_byte z h0 h1).symm
  have hlt : (BitVec.ofInt 32 z).toNat < 256 := by omega
  have h := u8_xor_nat (x.toNat % 256) (BitVec.ofInt 32 z).toNat (by omega) hlt
  rw [← e] at h
  rw [show (x.toNat : Int) % 256 = ((x.toNat % 256 : Nat) : Int) by omega, h, BitVec.toNat_xor]
  congr 1
  have := Nat.xor_mod_two_pow (a := x.toNat) (b := (BitVec.ofInt 32 z).toNat) (n := 8)
  rw [show (2 ^ 8 : Nat) = 256 by rfl, Nat.mod_eq_of_lt hlt] at this
  exact this.symm
theorem stepRef (x : BitVec 32) (h : x.toNat % 2 = 1) : Go.bits .xor .u32 ((x.toNat : Int) / 2) 2197175160 = ((bitStep x).toNat : Int) := by
  rw [shr1, show (2197175160 : Int) = ((poly).toNat : Int) by decide, bits_xor32]
  unfold bitStep; rw [lsb]; simp [h]
theorem stepRef0 (x : BitVec 32) (h : ¬ x.toNat % 2 = 1) : ((x.toNat : Int) / 2) = ((bitStep x).toNat : Int) := by
  rw [shr1]
  unfold bitStep; rw [lsb]; simp [h]

/-! ### The loops, by a word on the world -/
/-- Block B is a row of these 256 cells. -/
structure Row (wr : World) (B : Nat) (cs : Array Value) : Prop where
  size : cs.size = 256
  heap : wr.heap[B]? = some (.cells cs 23 (0,0))
theorem Row.cell {wr B cs} (h : Row wr B cs) (k : Nat) (hk : k < 256) : wr.cell? ⟨B, k, none⟩ = some (cs[k]'(by rw [h.1]; exact hk)) := by
  rw [cell_of_row wr B k cs 23 (0,0) h.2]; simp [h.1, hk]
theorem Row.frozen {wr B cs} (h : Row wr B cs) (k : Nat) : wr.frozen? ⟨B, k, none⟩ = false := frozen_of_row wr B k cs 23 h.2
theorem Row.set {wr B cs} (h : Row wr B cs) (k : Nat) (v : Value) : Row (wr.setCell ⟨B, k, none⟩ v) B (cs.setIfInBounds k v) := ⟨by simp [h.1], heap_setCell_same wr B k cs 23 v h.2⟩
theorem Row.other {wr B cs} (h : Row wr B cs) (a : Addr) (v : Value) (hne : B ≠ a.block) : Row (wr.setCell a v) B cs := ⟨h.1, by rw [heap_setCell_other wr a B v hne]; exact h.2⟩

def zs0 : Array Value := cellsOf fun _ => 0#32
theorem zero23 (w : World) : (zeroValue 23).run Try.prog w = .ok (.agg zs0) w := by kernel_rfl
theorem info23 : (Try.prog.info? 23).map (·.size) = some 256 := by kernel_rfl

/-- The first k cells are the table's. -/
def Told (cs : Array Value) (k : Nat) : Prop := ∀ j, j < k → cs[j]? = some (U (tab j))
theorem Told.next {cs : Array Value} {k : Nat} (h : Told cs k) (hs : cs.size = 256) (hk : k < 256) : Told (cs.setIfInBounds k (U (tab k))) (k + 1) := by
  intro j hj
  by_cases e : j = k
  · subst e; simp [hs, hk]
  · rw [Array.getElem?_setIfInBounds, if_neg (by omega)]; exact h j (by omega)
theorem Told.all {cs : Array Value} (h : Told cs 256) (hs : cs.size = 256) : cs = cellsOf tab := by
  apply Array.ext_getElem?
  intro i
  by_cases hi : i < 256
  · rw [h i hi, cellsOf_get tab i hi]
  · simp [cellsOf, hs, hi]

theorem below_setRow {B : Nat} {a w : World} (h : Below B a w) (g : Nat) (cs : Array Value) (hg : B ≤ g) : Below B a (w.setRow g cs) :=
  ⟨h.os, h.tape, h.output, by simp; exact h.size, fun k hk => (setRow_other w g k cs (by omega)).trans (h.block k hk)⟩

set_option maxRecDepth 100000 in
set_option maxHeartbeats 400000 in
theorem table_calls (w : World) :
    Calls Try.prog 10 #[] w fun e w' => e = .returned (.agg (cellsOf tab)) ∧ Below w.heap.size w w' := by
  have hz := zero23
  go_enter Try.func10, Try.ntmps10
  go_wp2
  clear hz
  go_loopg [4] 256 (fun g i wr => ∃ (k : Nat) (cs : Array Value), g + k = 256 ∧ i = .int .i64 k ∧ Row wr (w.heap.size+1) cs ∧ Row wr w.heap.size zs0 ∧ Told cs k ∧ Below w.heap.size w wr)
  case atStart => 
    refine ⟨0, zs0, rfl, rfl, ⟨cellsOf_size _, heap_alloc2_new w _ _⟩, ⟨cellsOf_size _, heap_alloc2_old w _ _⟩, fun j hj => by omega, ((Below.refl _ _).alloc (Nat.le_refl _) _).alloc (by simp) _⟩
  case round =>
    obtain ⟨k, cs, hk, rfl, hs, hr, ht, hb⟩ := hrel
    have HK := Aside0.mk hk
    clear hk
    by_cases hlt : k < 256
    · obtain ⟨g1, rfl⟩ : ∃ g1, gk = g1 + 1 := ⟨gk - 1, by have := HK.out; omega⟩
      obtain ⟨v, hc⟩ : ∃ v, wr.cell? ⟨w.heap.size + 1, k, none⟩ = some v := ⟨_, hs.cell k hlt⟩
      have hf := hs.frozen k
      have HS := Aside0.mk hs
      have HR := Aside0.mk hr
      have HT := Aside0.mk ht
      have HB := Aside0.mk hb
      clear hs hr ht hb
      go_wp2
      go_loopg [3, 9] 8 (fun g v i wi => ∃ (j : Nat), Aside0 (g + j = 8) ∧ j ≤ 8 ∧ i = .int .i64 j ∧ v = U (rep j bitStep (BitVec.ofNat 32 k)) ∧ wi = wr)
      case atStart => exact ⟨0, ⟨rfl⟩, by omega, rfl, by simp [U, rep]; omega, rfl⟩
      case round =>
        obtain ⟨j, HJ, hj, rfl, rfl, rfl⟩ := hrel
        by_cases hlj : j < 8
        · simp only [U]
          go_wp2
          go_roundg (gk - 1)
          case measure => have := HJ.out; omega
          case rel => exact ⟨j + 1, ⟨by have := HJ.out; omega⟩, by omega, by go_num, by rw [stepGo]; rfl, rfl⟩
        · have hj8 : j = 8 := by omega
          subst hj8
          simp only [U]
          go_wp2
          go_roundg g1
          case measure => omega
          case rel =>
            have hk := HK.out
            have hb := HB.out
            refine ⟨k + 1, _, by omega, by go_num, HS.out.set k _, HR.out.other _ _ (by simp), HT.out.next HS.out.1 hlt, hb.setCell (by simp) _⟩
    · have e : k = 256 := by have := HK.out; omega
      subst e
      have e := ht.all hs.1
      have HB := Aside0.mk hb
      clear ht hb
      subst e
      go_wp2_with (first | (refine wpList_load_row rfl 23 _ rfl (w.heap.size + 1) rfl 23 _ (0, 0) _ hs.2 Try.underlying23 rfl (by rw [info23, cellsOf_size]) ?_) | (refine wpList_store_row rfl 23 _ _ rfl w.heap.size (cellsOf tab) rfl rfl 23 zs0 hr.2 (by rw [info23, cellsOf_size]) (by rw [hr.1, cellsOf_size]) (cellsOf_one tab) ?_))
      exact bodyPost_ret (v := .agg (cellsOf tab)) (results_cell_row (fn := Try.f10) rfl _ _ w.heap.size 23 (cellsOf tab) (0, 0) _ rfl (setRow_heap _ _ _ _ _ _ hr.2) Try.underlying23 rfl (by rw [info23, cellsOf_size])) rfl ⟨rfl, below_setRow HB.out _ _ (Nat.le_refl _)⟩

set_option maxRecDepth 100000 in
set_option maxHeartbeats 400000 in
theorem rtable_calls (w : World) :
    Calls Try.prog 11 #[] w fun e w' => e = .returned (.agg (cellsOf tab)) ∧ Below w.heap.size w w' := by
  have hz := zero23
  go_enter Try.func11, Try.ntmps11
  go_wp2
  clear hz
  go_loopg [2] 256 (fun g i wr => ∃ (k : Nat) (cs : Array Value), g + k = 256 ∧ i = .int .i64 k ∧ Row wr (w.heap.size+1) cs ∧ Row wr w.heap.size zs0 ∧ Told cs k ∧ Below w.heap.size w wr)
  case atStart => 
    refine ⟨0, zs0, rfl, rfl, ⟨cellsOf_size _, heap_alloc2_new w _ _⟩, ⟨cellsOf_size _, heap_alloc2_old w _ _⟩, fun j hj => by omega, ((Below.refl _ _).alloc (Nat.le_refl _) _).alloc (by simp) _⟩
  case round =>
    obtain ⟨k, cs, hk, rfl, hs, hr, ht, hb⟩ := hrel
    have HK := Aside0.mk hk
    clear hk
    by_cases hlt : k < 256
    · obtain ⟨g1, rfl⟩ : ∃ g1, gk = g1 + 1 := ⟨gk - 1, by have := HK.out; omega⟩
      obtain ⟨v, hc⟩ : ∃ v, wr.cell? ⟨w.heap.size + 1, k, none⟩ = some v := ⟨_, hs.cell k hlt⟩
      have hf := hs.frozen k
      have HS := Aside0.mk hs
      have HR := Aside0.mk hr
      have HT := Aside0.mk ht
      have HB := Aside0.mk hb
      clear hs hr ht hb
      go_wp2
      go_loopg [3, 4] 8 (fun g v i wi => ∃ (j : Nat), Aside0 (g + j = 8) ∧ j ≤ 8 ∧ i = .int .i64 j ∧ v = U (rep j bitStep (BitVec.ofNat 32 k)) ∧ wi = wr)
      case atStart => exact ⟨0, ⟨rfl⟩, by omega, rfl, by simp [U, rep]; omega, rfl⟩
      case round =>
        obtain ⟨j, HJ, hj, rfl, rfl, rfl⟩ := hrel
        by_cases hlj : j < 8
        · simp only [U]
          obtain ⟨x, hx⟩ : ∃ x, x = rep j bitStep (BitVec.ofNat 32 k) := ⟨_, rfl⟩
          rw [← hx]
          have HX := Aside0.mk hx
          clear hx
          by_cases ho : x.toNat % 2 = 1
          · have hd : ((x.toNat : Int) % 2 == 1) = true := by rw [beq_iff_eq]; omega
            have HO := Aside0.mk ho
            clear ho
            go_wp2
            go_roundg (gk - 1)
            case measure => have := HJ.out; omega
            case rel => exact ⟨j + 1, ⟨by have := HJ.out; omega⟩, by omega, by go_num, by rw [stepRef x HO.out, HX.out]; rfl, rfl⟩
          · have hd : ((x.toNat : Int) % 2 == 1) = false := by rw [beq_eq_false_iff_ne]; omega
            have HO := Aside0.mk ho
            clear ho
            go_wp2
            go_roundg (gk - 1)
            case measure => have := HJ.out; omega
            case rel => exact ⟨j + 1, ⟨by have := HJ.out; omega⟩, by omega, by go_num, by rw [stepRef0 x HO.out, HX.out]; rfl, rfl⟩
        · have hj8 : j = 8 := by omega
          subst hj8
          simp only [U]
          go_wp2
          go_roundg g1
          case measure => omega
          case rel =>
            have hk := HK.out
            have hb := HB.out
            refine ⟨k + 1, _, by omega, by go_num, HS.out.set k _, HR.out.other _ _ (by simp), HT.out.next HS.out.1 hlt, hb.setCell (by simp) _⟩
    · have e : k = 256 := by have := HK.out; omega
      subst e
      have e := ht.all hs.1
      have HB := Aside0.mk hb
      clear ht hb
      subst e
      go_wp2_with (first | (refine wpList_load_row rfl 23 _ rfl (w.heap.size + 1) rfl 23 _ (0, 0) _ hs.2 Try.underlying23 rfl (by rw [info23, cellsOf_size]) ?_) | (refine wpList_store_row rfl 23 _ _ rfl w.heap.size (cellsOf tab) rfl rfl 23 zs0 hr.2 (by rw [info23, cellsOf_size]) (by rw [hr.1, cellsOf_size]) (cellsOf_one tab) ?_))
      exact bodyPost_ret (v := .agg (cellsOf tab)) (results_cell_row (fn := Try.f11) rfl _ _ w.heap.size 23 (cellsOf tab) (0, 0) _ rfl (setRow_heap _ _ _ _ _ _ hr.2) Try.underlying23 rfl (by rw [info23, cellsOf_size])) rfl ⟨rfl, below_setRow HB.out _ _ (Nat.le_refl _)⟩

theorem getD_take_succ (zs : List Int) (k : Nat) (h : k < zs.length) : zs.take (k + 1) = zs.take k ++ [zs.getD k 0] := by
  rw [List.take_succ_eq_append_getElem h, List.getD_eq_getElem?_getD, List.getElem?_eq_getElem h]; rfl
theorem run_succ (f : Nat → BitVec 32) (s : BitVec 32) (zs : List Int) (k : Nat) (h : k < zs.length) : run f s (zs.take (k + 1)) = onStep f (run f s (zs.take k)) (zs.getD k 0) := by
  rw [getD_take_succ zs k h, run_append]; rfl

set_option maxRecDepth 100000 in
set_option maxHeartbeats 400000 in
theorem on_calls (f : Nat → BitVec 32) (s : BitVec 32) (A : Option Addr) (n c : Nat) (zs : List Int) (w : World) (hr : Bytes w A n zs) :
    Calls Try.prog 12 #[.agg (cellsOf f), U s, .slice A n c] w fun e w' => e = .returned (U (on f s zs)) ∧ Below w.heap.size w w' := by
  obtain ⟨hl, hm, hb, ha⟩ := hr
  have HA := Aside0.mk ha
  have HL := Aside0.mk hl
  have HB := Aside0.mk hb
  clear ha hl hb
  simp only [U]
  go_enter Try.func12, Try.ntmps12
  go_wp2
  go_loopg [1, 13] n (fun g v i wr => ∃ (k : Nat), Aside0 (g + k = n) ∧ k ≤ n ∧ i = .int .i64 k ∧ v = U (run f (~~~ s) (zs.take k)) ∧ wr = w.alloc (.cells (cellsOf f) 23))
  case atStart => exact ⟨0, ⟨rfl⟩, by omega, rfl, by simp only [U]; rw [not32]; rfl, rfl⟩
  case round =>
    obtain ⟨k, HK, hk, rfl, rfl, rfl⟩ := hrel
    obtain ⟨x, hx⟩ : ∃ x, x = run f (~~~ s) (zs.take k) := ⟨_, rfl⟩
    rw [← hx]
    have HX := Aside0.mk hx
    clear hx
    simp only [U]
    by_cases hlt : k < n
    · obtain ⟨ad, rfl, hcell⟩ := HA.out (by omega)
      have hz := HB.out (zs.getD k 0) (by
        have hl := HL.out
        rw [List.getD_eq_getElem?_getD, List.getElem?_eq_getElem (by omega)]; simp)
      have hc : (w.alloc (.cells (cellsOf f) 23)).cell? (ad.add k) = some (.int .u8 (zs.getD k 0)) := by
        rw [World.cell?_alloc_lt _ _ _ (World.block_lt_of_cell? w _ (hcell k hlt))]; exact hcell k hlt
      clear hcell
      have HS := Aside0.mk (run_succ f (~~~ s) zs k (by have := HL.out; omega))
      generalize zs.getD k 0 = z at hz hc HS
      obtain ⟨hz0, hz1⟩ := hz
      have hix := idx8 x z hz0 hz1
      have hmod : (x ^^^ BitVec.ofInt 32 z).toNat % 256 < 256 := by omega
      generalize hm : (x ^^^ BitVec.ofInt 32 z).toNat % 256 = m at hix hmod
      have HM := Aside0.mk hm
      clear hm
      have hcm : (w.alloc (.cells (cellsOf f) 23)).cell? ⟨w.heap.size, m, none⟩ = some (U (f m)) := by
        rw [World.cell?_alloc_new, cellsOf_get f m hmod]
      simp only [U] at hcm
      go_wp2
      go_roundg (n - (k + 1))
      case measure => have := HK.out; omega
      case rel =>
        refine ⟨k + 1, ⟨by omega⟩, by omega, by go_num, ?_, rfl⟩
        simp only [U]
        rw [HS.out, ← HX.out, shr8, bits_xor32]
        unfold onStep
        rw [HM.out]
    · have e : k = n := by omega
      subst e
      go_wp2
      go_ret
      refine ⟨ret_u32 ?_, (Below.refl _ _).alloc (Nat.le_refl _) _⟩
      rw [not32, HX.out, List.take_of_length_le (by have := HL.out; omega)]; rfl

set_option maxRecDepth 100000 in
set_option maxHeartbeats 400000 in
theorem ron_calls (f : Nat → BitVec 32) (s : BitVec 32) (A : Option Addr) (n c : Nat) (zs : List Int) (w : World) (hr : Bytes w A n zs) :
    Calls Try.prog 13 #[.agg (cellsOf f), U s, .slice A n c] w fun e w' => e = .returned (U (on f s zs)) ∧ Below w.heap.size w w' := by
  obtain ⟨hl, hm, hb, ha⟩ := hr
  have HA := Aside0.mk ha
  have HL := Aside0.mk hl
  have HB := Aside0.mk hb
  clear ha hl hb
  simp only [U]
  go_enter Try.func13, Try.ntmps13
  go_wp2
  go_loopg [1, 7] n (fun g v i wr => ∃ (k : Nat), Aside0 (g + k = n) ∧ k ≤ n ∧ i = .int .i64 k ∧ v = U (run f (~~~ s) (zs.take k)) ∧ wr = w.alloc (.cells (cellsOf f) 23))
  case atStart => exact ⟨0, ⟨rfl⟩, by omega, rfl, by simp only [U]; rw [not32']; rfl, rfl⟩
  case round =>
    obtain ⟨k, HK, hk, rfl, rfl, rfl⟩ := hrel
    obtain ⟨x, hx⟩ : ∃ x, x = run f (~~~ s) (zs.take k) := ⟨_, rfl⟩
    rw [← hx]
    have HX := Aside0.mk hx
    clear hx
    simp only [U]
    by_cases hlt : k < n
    · obtain ⟨ad, rfl, hcell⟩ := HA.out (by omega)
      have hz := HB.out (zs.getD k 0) (by
        have hl := HL.out
        rw [List.getD_eq_getElem?_getD, List.getElem?_eq_getElem (by omega)]; simp)
      have hc : (w.alloc (.cells (cellsOf f) 23)).cell? (ad.add k) = some (.int .u8 (zs.getD k 0)) := by
        rw [World.cell?_alloc_lt _ _ _ (World.block_lt_of_cell? w _ (hcell k hlt))]; exact hcell k hlt
      clear hcell
      have HS := Aside0.mk (run_succ f (~~~ s) zs k (by have := HL.out; omega))
      generalize zs.getD k 0 = z at hz hc HS
      obtain ⟨hz0, hz1⟩ := hz
      have hix := idx32 x z hz0 hz1
      generalize hy : x ^^^ BitVec.ofInt 32 z = y at hix
      have HY := Aside0.mk hy
      clear hy
      have hmod : y.toNat % 256 < 256 := by omega
      have hmi : (y.toNat : Int) % 256 = ((y.toNat % 256 : Nat) : Int) := by omega
      generalize hm : y.toNat % 256 = m at hmi hmod
      have HM := Aside0.mk hm
      clear hm
      have hcm : (w.alloc (.cells (cellsOf f) 23)).cell? ⟨w.heap.size, m, none⟩ = some (U (f m)) := by
        rw [World.cell?_alloc_new, cellsOf_get f m hmod]
      simp only [U] at hcm
      go_wp2
      go_roundg (n - (k + 1))
      case measure => have := HK.out; omega
      case rel =>
        refine ⟨k + 1, ⟨by omega⟩, by omega, by go_num, ?_, rfl⟩
        simp only [U]
        rw [HS.out, ← HX.out, shr8, bits_xor32]
        unfold onStep
        rw [HY.out, HM.out]
    · have e : k = n := by omega
      subst e
      go_wp2
      go_ret
      refine ⟨ret_u32 ?_, (Below.refl _ _).alloc (Nat.le_refl _) _⟩
      rw [not32', HX.out, List.take_of_length_le (by have := HL.out; omega)]; rfl

theorem below_tail {w w1 w2 : World} (h1 : Below w.heap.size w w1) (h2 : Below w1.heap.size w1 w2) : Below w.heap.size w w2 := h1.trans (h2.mono h1.size)

set_option maxRecDepth 100000 in
set_option maxHeartbeats 400000 in
theorem bit_calls (A : Option Addr) (n c : Nat) (zs : List Int) (w : World) (hr : Bytes w A n zs) :
    Calls Try.prog 16 #[.slice A n c] w fun e w' => e = .returned (U (~~~ (bitRun (~~~ 0#32) zs))) ∧ Below w.heap.size w w' := by
  obtain ⟨hl, hm, hb, ha⟩ := hr
  have HA := Aside0.mk ha
  have HL := Aside0.mk hl
  have HB := Aside0.mk hb
  clear ha hl hb
  go_enter Try.func16, Try.ntmps16
  go_wp2
  go_loopg [3, 4] n (fun g v i wr => ∃ (k : Nat), Aside0 (g + k = n) ∧ k ≤ n ∧ i = .int .i64 k ∧ v = U (bitRun (~~~ 0#32) (zs.take k)) ∧ wr = w)
  case atStart => exact ⟨0, ⟨rfl⟩, by omega, rfl, by simp [U, bitRun], rfl⟩
  case round =>
    obtain ⟨k, HK, hk, rfl, rfl, rfl⟩ := hrel
    obtain ⟨x, hx⟩ : ∃ x, x = bitRun (~~~ 0#32) (zs.take k) := ⟨_, rfl⟩
    rw [← hx]
    have HX := Aside0.mk hx
    clear hx
    by_cases hlt : k < n
    · obtain ⟨g1, rfl⟩ : ∃ g1, gk = g1 + 1 := ⟨gk - 1, by have := HK.out; omega⟩
      obtain ⟨ad, rfl, hcell⟩ := HA.out (by omega)
      have hz := HB.out (zs.getD k 0) (by
        have hl := HL.out
        rw [List.getD_eq_getElem?_getD, List.getElem?_eq_getElem (by omega)]; simp)
      have hc := hcell k hlt
      clear hcell
      have HS : Aside0 (bitRun (~~~ 0#32) (zs.take (k + 1)) = rep 8 bitStep (bitRun (~~~ 0#32) (zs.take k) ^^^ BitVec.ofInt 32 (zs.getD k 0))) :=
        ⟨by rw [getD_take_succ zs k (by have := HL.out; omega)]; simp [bitRun]⟩
      generalize zs.getD k 0 = z at hz hc HS
      obtain ⟨hz0, hz1⟩ := hz
      have hix := idx32 x z hz0 hz1
      simp only [U]
      go_wp2
      go_loopg [3, 5] 8 (fun g v i wi => ∃ (j : Nat), Aside0 (g + j = 8) ∧ j ≤ 8 ∧ i = .int .i64 j ∧ v = U (rep j bitStep (x ^^^ BitVec.ofInt 32 z)) ∧ wi = wr)
      case atStart => exact ⟨0, ⟨rfl⟩, by omega, rfl, rfl, rfl⟩
      case round =>
        obtain ⟨j, HJ, hj, rfl, rfl, rfl⟩ := hrel
        by_cases hlj : j < 8
        · simp only [U]
          obtain ⟨y, hy⟩ : ∃ y, y = rep j bitStep (x ^^^ BitVec.ofInt 32 z) := ⟨_, rfl⟩
          rw [← hy]
          have HY := Aside0.mk hy
          clear hy
          by_cases ho : y.toNat % 2 = 1
          · have hd : ((y.toNat : Int) % 2 == 1) = true := by rw [beq_iff_eq]; omega
            have HO := Aside0.mk ho
            clear ho
            go_wp2
            go_roundg (gk - 1)
            case measure => have := HJ.out; omega
            case rel => exact ⟨j + 1, ⟨by have := HJ.out; omega⟩, by omega, by go_num, by rw [stepRef y HO.out, HY.out]; rfl, rfl⟩
          · have hd : ((y.toNat : Int) % 2 == 1) = false := by rw [beq_eq_false_iff_ne]; omega
            have HO := Aside0.mk ho
            clear ho
            go_wp2
            go_roundg (gk - 1)
            case measure => have := HJ.out; omega
            case rel => exact ⟨j + 1, ⟨by have := HJ.out; omega⟩, by omega, by go_num, by rw [stepRef0 y HO.out, HY.out]; rfl, rfl⟩
        · have hj8 : j = 8 := by omega
          subst hj8
          simp only [U]
          go_wp2
          go_roundg g1
          case measure => omega
          case rel =>
            have hk := HK.out
            refine ⟨k + 1, ⟨by omega⟩, by omega, by go_num, ?_, rfl⟩
            rw [HS.out, ← HX.out]; rfl
    · have e : k = n := by omega
      subst e
      simp only [U]
      go_wp2
      go_ret
      refine ⟨ret_u32 ?_, Below.refl _ _⟩
      rw [not32', HX.out, List.take_of_length_le (by have := HL.out; omega)]
end Go.Proofs.Ytnbjmhlijepkfaa
