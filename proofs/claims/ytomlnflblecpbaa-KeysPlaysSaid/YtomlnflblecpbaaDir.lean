/-
  Layer 13: the directory as it lies in memory.
-/
import Derived.Test.YtomlnflblecpbaaMap
import Derived.Test.YtomlnflblecpbaaBase
import Derived.Test.YtomlnflblecpbaaSplice
import Derived.Test.YtomlnflblecpbaaPhaseLast
import Derived.Test.YtomlnflblecpbaaWWords
import Derived.Test.YtomlnflblecpbaaWMore
namespace Go.Proofs.Ytomlnflblecpbaa
set_option linter.unusedVariables false
set_option linter.unusedSimpArgs false
open Go.RowKit Go.Proofs.YtomlnflblecpbaaW.PrintWords Go.Proofs.YtomlnflblecpbaaW.PrintMore
attribute [local go_sem] max2_int min2_int
/-- Places as they lie at a block's beginning. -/
structure PlAt (W : World) (b j : Nat) (p : Pl) : Prop where
  c0 : W.cell? ⟨b, j * 5, none⟩ = some (.int .i64 p.seg)
  c1 : W.cell? ⟨b, j * 5 + 1, none⟩ = some (.int .i64 p.kind)
  c2 : W.cell? ⟨b, j * 5 + 2, none⟩ = some (.string p.key)
  c3 : W.cell? ⟨b, j * 5 + 3, none⟩ = some (.int .i64 p.at_)
  c4 : W.cell? ⟨b, j * 5 + 4, none⟩ = some (.int .i64 p.size)
def ReadsP (W : World) (A : Option Addr) (l : List Pl) : Prop := 0 < l.length → ∃ b, A = some ⟨b, 0, none⟩ ∧ ∀ j (h : j < l.length), PlAt W b j l[j]
theorem cell_grows {W W' : World} (hg : Grows W W') {p : Addr} {v : Value} (hc : W.cell? p = some v) : W'.cell? p = some v :=
  (World.cell?_of_block (hg.block _ (World.block_lt_of_cell? W p hc))).trans hc
theorem PlAt.grows {W W' : World} {b j : Nat} {p : Pl} (h : PlAt W b j p) (hg : Grows W W') : PlAt W' b j p := ⟨cell_grows hg h.c0, cell_grows hg h.c1, cell_grows hg h.c2, cell_grows hg h.c3, cell_grows hg h.c4⟩
theorem ReadsP.grows {W W' : World} {A : Option Addr} {l : List Pl} (h : ReadsP W A l) (hg : Grows W W') : ReadsP W' A l := fun h0 => by
  obtain ⟨b, e, hp⟩ := h h0
  exact ⟨b, e, fun j hj => (hp j hj).grows hg⟩
/-- Where a key is. -/
def AtIs (l : List Pl) (k : ByteArray) (j : Int) : Prop := (∃ i : Nat, ∃ hi : i < l.length, j = i ∧ l[i].key = k) ∨ (j = -1 ∧ ∀ p ∈ l, p.key ≠ k)
theorem key_beq (a b : ByteArray) : (a.toList == b.toList) = decide (a = b) := by
  rw [ByteArray.toList_eq, ByteArray.toList_eq, Bool.eq_iff_iff, beq_iff_eq, decide_eq_true_iff]
  exact ⟨key_ext, fun h => by rw [h]⟩
set_option maxRecDepth 100000 in
theorem same_key {W : World} {q : Addr} {key : ByteArray} (hc : W.cell? q = some (.string key)) (a b : Int) (k : ByteArray) (c d : Int) :
    Calls Try.prog 33 #[.agg #[.int .i64 a, .int .i64 b, .string k, .int .i64 c, .int .i64 d], .pointer (some q)] W fun e w' => e = .returned (.bool (decide (k = key))) ∧ Grows W w' := by
  have hc2 : (W.alloc (.cells #[.int .i64 a, .int .i64 b, .string k, .int .i64 c, .int .i64 d] 32)).cell? q = some (.string key) := cell_grows ((Below.refl W.heap.size W).alloc (Nat.le_refl _) _) hc
  go_enter Try.func33, Try.ntmps33
  go_wp2
  go_ret
  exact ⟨by rw [← key_beq]; rfl, (Below.refl W.heap.size W).alloc (Nat.le_refl _) _⟩
set_option maxRecDepth 100000 in
set_option maxHeartbeats 1000000 in
theorem index_calls {W : World} {A : Option Addr} {c : Nat} {l : List Pl} {q : Addr} {key : ByteArray} (hr : ReadsP W A l) (hq : W.cell? q = some (.string key)) (hn : l.length ≤ 1000000) :
    Calls Try.prog 32 #[.slice A l.length c, .func (.func 33) #[] #[.pointer (some q)]] W fun e w' => (∃ j : Int, e = .returned (.int .i64 j) ∧ AtIs l key j) ∧ Grows W w' := by
  have HR := Aside0.mk hr
  have HQ := Aside0.mk hq
  clear hr hq
  go_enter Try.func32, Try.ntmps32
  go_wp2
  go_loopg [5, 8] l.length (fun f v5 v8 wr => ∃ i : Nat, Aside0 (f + i = l.length) ∧ i ≤ l.length ∧ v8 = .int .i64 i ∧ Aside0 (Grows W wr ∧ ∀ k (hk : k < l.length), k < i → l[k].key ≠ key))
  case atStart => exact ⟨0, ⟨by omega⟩, by omega, rfl, ⟨Grows.refl _, fun k hk h => by omega⟩⟩
  case round =>
    obtain ⟨i, HF, hi, rfl, HS⟩ := hrel
    by_cases hlt : i < l.length
    · obtain ⟨b, ev, hp⟩ := (HR.out.grows HS.out.1) (by omega)
      subst ev
      obtain ⟨k0, k1, k2, k3, k4⟩ := hp i hlt
      clear hp
      obtain ⟨x, hx⟩ : ∃ x, l[i] = x := ⟨_, rfl⟩
      rw [hx] at k0 k1 k2 k3 k4
      have HX := Aside0.mk hx
      clear hx
      obtain ⟨a, kd, k, at_, sz⟩ := x
      simp only at k0 k1 k2 k3 k4
      have HC := Aside0.mk (same_key (cell_grows HS.out.1 HQ.out) a kd k at_ sz)
      by_cases hk : k = key
      · have hkd : decide (k = key) = true := decide_eq_true hk
        have HK := Aside0.mk hk
        clear hk
        rw [hkd] at HC
        go_wp2_with (go_at_call 33; refine HC.out.mono ?_; clear HC; rintro e w2 ⟨rfl, hg⟩; have HG := Aside0.mk hg; clear hg)
        go_ret
        exact ⟨⟨_, rfl, .inl ⟨i, hlt, rfl, by rw [HX.out]; exact HK.out⟩⟩, HS.out.1.trans (HG.out.mono HS.out.1.size)⟩
      · have hkd : decide (k = key) = false := decide_eq_false hk
        have HK := Aside0.mk hk
        clear hk
        rw [hkd] at HC
        go_wp2_with (go_at_call 33; refine HC.out.mono ?_; clear HC; rintro e w2 ⟨rfl, hg⟩; have HG := Aside0.mk hg; clear hg)
        go_roundg (l.length - (i + 1))
        case measure => have := HF.out; omega
        case rel =>
          refine ⟨i + 1, ⟨by omega⟩, by omega, by go_num, ⟨HS.out.1.trans (HG.out.mono HS.out.1.size), fun k' hk' h => ?_⟩⟩
          by_cases hki : k' = i
          · subst hki; rw [HX.out]; exact HK.out
          · exact HS.out.2 k' hk' (by omega)
    · obtain rfl : i = l.length := by omega
      go_wp2
      go_ret
      refine ⟨⟨_, rfl, .inr ⟨rfl, fun r hr => ?_⟩⟩, HS.out.1⟩
      obtain ⟨k, hk, rfl⟩ := List.getElem_of_mem hr
      exact HS.out.2 k hk hk
/-! ### The row of a key -/
def hbyte (s : ByteArray) (i : Nat) : Int := (((s.data[i]?).map UInt8.toNat).getD 0 : Nat)
def hstep (h b : Int) : Int := bits .xor .u32 h (b % 4294967296) * 16777619 % 4294967296
def hashN (s : ByteArray) : Nat → Int
  | 0 => 2166136261
  | i + 1 => hstep (hashN s i) (hbyte s i)
def rowOf (s : ByteArray) : Nat := ((hashN s s.size).tmod 64).toNat
theorem hashN_nonneg (s : ByteArray) : ∀ i, 0 ≤ hashN s i
  | 0 => by show (0 : Int) ≤ 2166136261; omega
  | i + 1 => Int.emod_nonneg _ (by omega)
theorem rowOf_eq (s : ByteArray) : (hashN s s.size).tmod 64 = (rowOf s : Int) ∧ rowOf s < 64 := by
  have h := hashN_nonneg s s.size
  unfold rowOf
  rw [Int.tmod_eq_emod_of_nonneg h]
  omega
theorem hbyte_at (s : ByteArray) (i : Nat) (h : i < s.size) : hbyte s i = (s[i].toNat : Int) := by
  unfold hbyte
  rw [Array.getElem?_eq_getElem (show i < s.data.size from h)]
  rfl
set_option maxRecDepth 100000 in
set_option maxHeartbeats 1000000 in
theorem of_calls {W : World} {d : Nat} {key : ByteArray} {A : Option Addr} {c : Nat} {l : List Pl} (hn : key.size ≤ 1000000) (hcell : W.cell? ⟨d, rowOf key, none⟩ = some (.slice A l.length c)) (hr : ReadsP W A l) (hl : l.length ≤ 1000000) :
    Calls Try.prog 27 #[.pointer (some ⟨d, 0, none⟩), .string key] W fun e w' => (∃ j : Int, e = .returned (.tuple #[.pointer (some ⟨d, rowOf key, none⟩), .int .i64 j]) ∧ AtIs l key j) ∧ Grows W w' := by
  have g0 : Grows W (W.alloc (Obj.cells #[Value.string key] 9)) := (Below.refl W.heap.size W).alloc (Nat.le_refl _) _
  have hcell := cell_grows g0 hcell
  have HR := Aside0.mk (hr.grows g0)
  have HG0 := Aside0.mk g0
  obtain ⟨hm, hj⟩ := rowOf_eq key
  have HM := Aside0.mk hm
  clear hr g0 hm
  go_enter Try.func27, Try.ntmps27
  go_upto_region 2 with fail
  have hb : (W.alloc (Obj.cells #[Value.string key] 9)).cell? ⟨W.heap.size, 0, none⟩ = some (.string key) := cell_of_row _ _ 0 _ 9 (0, 0) (heap_alloc_new W _)
  generalize W.alloc (Obj.cells #[Value.string key] 9) = W1 at *
  generalize W.heap.size = bk at hb ⊢
  go_wp2
  go_loopg [6, 7, 11] key.size (fun f v6 v7 v11 wr => ∃ i : Nat, ∃ h : Int, Aside0 (f + i = key.size) ∧ i ≤ key.size ∧ v11 = .int .i64 i ∧ v6 = .int .u32 h ∧ wr = W1 ∧ Aside0 (h = hashN key i))
  case atStart => exact ⟨0, 2166136261, ⟨by omega⟩, by omega, rfl, rfl, rfl, ⟨rfl⟩⟩
  case round =>
    obtain ⟨i, h, HF, hi, rfl, rfl, rfl, HH⟩ := hrel
    by_cases hlt : i < key.size
    · clear hcell
      go_wp2
      go_roundg (key.size - (i + 1))
      case measure => have := HF.out; omega
      case rel => exact ⟨i + 1, _, ⟨by omega⟩, by omega, by go_num, rfl, rfl, ⟨by rw [HH.out]; show _ = hstep _ _; rw [hbyte_at key i hlt]; rfl⟩⟩
    · obtain rfl : i = key.size := by omega
      have hm : h.tmod 64 = (rowOf key : Int) := by rw [HH.out]; exact HM.out
      have HC := Aside0.mk (index_calls (c := c) HR.out hb hl)
      clear HH hb
      go_wp2_with (go_at_call 32; refine HC.out.mono ?_; clear HC; rintro e w2 ⟨⟨j, rfl, hA⟩, hg⟩; have HA := Aside0.mk hA; have HG := Aside0.mk hg; clear hA hg)
      go_ret2
      exact ⟨⟨j, rfl, HA.out⟩, HG0.out.trans (HG.out.mono HG0.out.size)⟩
end Go.Proofs.Ytomlnflblecpbaa
