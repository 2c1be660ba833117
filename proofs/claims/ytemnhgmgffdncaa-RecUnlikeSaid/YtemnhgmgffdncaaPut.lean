/-
  Layer 4: bytes that numbers are put behind.
-/
import Derived.Test.YtemnhgmgffdncaaBase
import Derived.WalkKit
import Derived.RegionTactic
import Derived.Deep.RegionWith
import Derived.Deep.RegionLaw
import Derived.Deep.QuietTactic
import Derived.BigQuiet
import Derived.Deep.LoopGhost
import Derived.Deep.Cut
import Derived.Deep.CutBlock
namespace Go.Proofs.Ytemnhgmgffdncaa
set_option linter.unusedVariables false
set_option linter.unusedSimpArgs false
open Go.RowKit Go.Proofs.YtemnhgmgffdncaaW.PrintWords

/-- Bytes behind a pointer, in a row of the call's own. -/
structure BufIs (W : World) (gb B : Nat) (v : Value) (xs : List Int) : Prop where
  blk : W.heap[gb]? = some (.cells #[v] 50 (0, 0))
  own : W.ownsRow B 5 1 v xs.length (nums .u8 xs)
def BufAt (W : World) (gb B : Nat) (xs : List Int) : Prop := ∃ v, BufIs W gb B v xs
theorem BufIs.grows {W W' : World} {gb B : Nat} {v : Value} {xs : List Int} (h : BufIs W gb B v xs) (hg : Grows W W') : BufIs W' gb B v xs :=
  ⟨(hg.block gb (lt_heap h.blk)).trans h.blk, own_grows h.own hg⟩
theorem BufAt.grows {W W' : World} {gb B : Nat} {xs : List Int} (h : BufAt W gb B xs) (hg : Grows W W') : BufAt W' gb B xs := h.elim fun v h => ⟨v, h.grows hg⟩
theorem BufIs.cell {W : World} {gb B : Nat} {v : Value} {xs : List Int} (h : BufIs W gb B v xs) : W.cell? ⟨gb, 0, none⟩ = some v := cell_of_row W gb 0 _ 50 (0, 0) h.blk
theorem BufIs.fr {W : World} {gb B : Nat} {v : Value} {xs : List Int} (h : BufIs W gb B v xs) : W.frozen? ⟨gb, 0, none⟩ = false := frozen_of_row W gb 0 _ 50 h.blk
/-- What a put leaves: all but the pointer's block and rows of bytes from B on. -/
structure KeepT (gb B : Nat) (W W' : World) : Prop where
  os : W'.os = W.os
  tape : W'.tape = W.tape
  output : W'.output = W.output
  size : W.heap.size ≤ W'.heap.size
  block : ∀ (k : Nat) (o : Obj), W.heap[k]? = some o → k ≠ gb → (k < B ∨ ∀ cs, o ≠ .cells cs 5 (0, 0)) → W'.heap[k]? = some o
theorem KeepT.refl (gb B : Nat) (W : World) : KeepT gb B W W := ⟨rfl, rfl, rfl, Nat.le_refl _, fun _ _ h _ _ => h⟩
theorem KeepT.trans {gb B : Nat} {a b c : World} (h : KeepT gb B a b) (k : KeepT gb B b c) : KeepT gb B a c :=
  ⟨k.os.trans h.os, k.tape.trans h.tape, k.output.trans h.output, Nat.le_trans h.size k.size, fun i o hi h1 h2 => k.block i o (h.block i o hi h1 h2) h1 h2⟩
theorem KeepT.of_grows {gb B : Nat} {W W' : World} (h : Grows W W') : KeepT gb B W W' := ⟨h.os, h.tape, h.output, h.size, fun k o hk _ _ => (h.block k (lt_heap hk)).trans hk⟩
theorem KeepT.below {gb B : Nat} {W W' : World} (h : KeepT gb B W W') (hB : B ≤ W.heap.size) (hg : B ≤ gb) : Below B W W' :=
  ⟨h.os, h.tape, h.output, h.size, fun k hk => by
    have hk' : k < W.heap.size := by omega
    rw [h.block k _ (Array.getElem?_eq_getElem hk') (by omega) (.inl hk), Array.getElem?_eq_getElem hk']⟩
theorem KeepT.of_keep {gb B : Nat} {W W' : World} (h : KeepS (fun k => k = gb ∨ (B ≤ k ∧ ∃ cs, W.heap[k]? = some (.cells cs 5 (0, 0)))) W W') : KeepT gb B W W' :=
  ⟨h.os, h.tape, h.output, h.size, fun k o hk h1 h2 => (h.block k (lt_heap hk) (fun e => by
    rcases e with e | ⟨e, cs, hcs⟩
    · exact h1 e
    · rw [hk] at hcs
      injection hcs with hcs
      rcases h2 with h2 | h2
      · omega
      · exact h2 cs hcs)).trans hk⟩
/-- A number's bytes, the highest first. -/
def beI (n : Int) (size : Nat) : List Int := (List.range size).map fun i => (n / 256 ^ (size - 1 - i)) % 256
theorem beI_length (n : Int) (size : Nat) : (beI n size).length = size := by simp [beI]
theorem beI_u8s (n : Int) (size : Nat) : u8s (beI n size) := by
  intro x hx
  obtain ⟨i, _, rfl⟩ := List.mem_map.1 hx
  omega
theorem beI_take (n : Int) (size k : Nat) (hk : k < size) : (beI n size).take (k + 1) = (beI n size).take k ++ [(n / 256 ^ (size - 1 - k)) % 256] := by
  rw [List.take_succ_eq_append_getElem (by rw [beI_length]; exact hk)]
  simp [beI]

/-- One byte's row. -/
def Made1 (B : Nat) (z : Int) (v : Value) (W : World) : Prop := ∃ q, v = .slice (some ⟨q, 0, none⟩) 1 1 ∧ B ≤ q ∧ W.heap[q]? = some (.cells #[.int .u8 z] 5 (0, 0))
theorem Made1.keep {B : Nat} {z : Int} {v : Value} {W W' : World} (h : Made1 B z v W) (hk : ∀ (q : Nat) (o : Obj), B ≤ q → W.heap[q]? = some o → W'.heap[q]? = some o) : Made1 B z v W' := h.elim fun q h => ⟨q, h.1, h.2.1, hk q _ h.2.1 h.2.2⟩
theorem made1_reads {z : Int} {W : World} {q : Nat} (h : W.heap[q]? = some (.cells #[.int .u8 z] 5 (0, 0))) : ReadsInt W .u8 (some ⟨q, 0, none⟩) 1 [z] := by
  refine ⟨rfl, by decide, fun _ => ⟨_, rfl, fun j hj => ?_⟩⟩
  obtain rfl : j = 0 := by omega
  rw [add_plain, cell_of_row W q 0 _ 5 (0, 0) h]; rfl
theorem pow_shr (k : Nat) (hk : k ≤ 7) (c : Int) (hc : c = 8 * (k : Int)) : (2 : Int) ^ min c.toNat 64 = 256 ^ k := by
  have h1 : min c.toNat 64 = 8 * k := by omega
  rw [h1, Int.pow_mul]; rfl
set_option maxRecDepth 100000 in
set_option maxHeartbeats 4000000 in
theorem put_calls (gb B : Nat) (n : Int) (size : Nat) (xs : List Int) (w : World) (hb : BufAt w gb B xs) (hB : B ≤ w.heap.size) (hs : size ≤ 8) (hx : xs.length ≤ 1000000) :
    Calls Try.prog 43 #[.pointer (some ⟨gb, 0, none⟩), .int .i64 n, .int .i64 (size : Int)] w fun e w' => e = .returned (.tuple #[]) ∧ BufAt w' gb B (xs ++ beI n size) ∧ KeepT gb B w w' := by
  have HBF := Aside0.mk hb
  have HB := Aside0.mk hB
  have HX := Aside0.mk hx
  clear hb hB hx
  go_enter Try.func43, Try.ntmps43
  go_wp2
  go_loopg [6, 8] size (fun f v6 v8 wz => ∃ i : Nat, Aside0 (f + i = size) ∧ i ≤ size ∧ v8 = .int .i64 i ∧ Aside0 (BufAt wz gb B (xs ++ (beI n size).take i)) ∧ Aside0 (KeepT gb B w wz))
  case atStart => exact ⟨0, ⟨rfl⟩, by omega, rfl, ⟨by simpa using HBF.out⟩, ⟨KeepT.refl _ _ _⟩⟩
  case round =>
    obtain ⟨i, HF, hi, rfl, HU, HK⟩ := hrel
    by_cases hlt : i < size
    · obtain ⟨v, hv⟩ := HU.out
      have HV := Aside0.mk hv
      obtain ⟨k, hk⟩ : ∃ k, k = size - 1 - i := ⟨_, rfl⟩
      have hpw := pow_shr k (by omega) (8 * (k : Int)) rfl
      have hw1 : IntKind.i64.wrap ((size : Int) - 1) = (size : Int) - 1 := IntWalk.i64_in _ ⟨by omega, by omega⟩
      have hw2 : IntKind.i64.wrap ((size : Int) - 1 - (i : Int)) = (k : Int) := by rw [IntWalk.i64_in _ ⟨by omega, by omega⟩]; omega
      have hw3 : IntKind.i64.wrap (8 * (k : Int)) = 8 * (k : Int) := IntWalk.i64_in _ ⟨by omega, by omega⟩
      have hw4 : (0 : Int) ≤ 8 * (k : Int) := by omega
      have HKK := Aside0.mk hk
      clear hk
      clear hv HU
      go_upto_region 3 with fail
      have HY := Aside0.mk (show ∃ cs, v.ownBlock = none ∨ ∃ q, v.ownBlock = some q ∧ wr.heap[q]? = some (Obj.cells cs 5 (0, 0)) from by
        cases hq : v.ownBlock with
        | none => exact ⟨#[], .inl rfl⟩
        | some q => exact (own_typed HV.out.own q hq).elim fun cs h => ⟨cs, .inr ⟨q, rfl, h⟩⟩)
      generalize hys : xs ++ (beI n size).take i = ys at HV
      have HYS := Aside0.mk hys
      have hyl : ys.length ≤ 1000008 := by rw [← hys, List.length_append, List.length_take, beI_length]; have := HX.out; omega
      have HYL := Aside0.mk hyl
      have HBW := Aside0.mk (Nat.le_trans HB.out HK.out.size)
      obtain ⟨zs, hzs⟩ : ∃ zs, ys ++ [(n / 256 ^ k) % 256] = zs := ⟨_, rfl⟩
      have HZS := Aside0.mk hzs
      clear hzs
      clear hys hyl
      apply wp_region_phase Grows (KeepS (fun k => k = gb ∨ (B ≤ k ∧ ∃ cs, wr.heap[k]? = some (.cells cs 5 (0, 0))))) (phaseK _) (fun w' => BufIs w' gb B v ys) HV.out (fun a c h hh => hh.grows h) (hm := by kernel_rfl) (hB := by kernel_rfl)
      case h =>
        iterate 3
          apply phase_fixed
          case hw => simp [Region.wanted, yielded]
          case ho =>
            intro w' hk hf
            clear hf
            refine ⟨?_⟩
            go_simp
            exact ⟨Grows.refl _, rfl⟩
          simp only [Act.put, List.setIfInBounds_toArray, List.set_cons_zero, List.set_cons_succ]
        apply phase_turn (c := v) (J := fun w' => BufIs w' gb B v ys)
        case hw => simp [Region.wanted, yielded]
        case ho =>
          intro w' hk hf hI
          clear hf
          have k0 := hI.cell
          have HI := Aside0.mk hI
          clear hI
          refine ⟨?_⟩
          go_simp
          exact ⟨KeepS.refl _ _, HI.out, rfl⟩
        case hJ => exact fun a c h hh => hh.grows h
        simp only [Act.put, List.setIfInBounds_toArray, List.set_cons_zero, List.set_cons_succ]
        iterate 6
          apply phase_fixed
          case hw => simp [Region.wanted, yielded]
          case ho =>
            intro w' hk hf
            clear hf
            refine ⟨?_⟩
            go_simp
            exact ⟨Grows.refl _, rfl⟩
          simp only [Act.put, List.setIfInBounds_toArray, List.set_cons_zero, List.set_cons_succ]
        apply phase_fixed (c := .int .i64 (n / 256 ^ k))
        case hw => simp [Region.wanted, yielded]
        case ho =>
          intro w' hk hf
          clear hf
          refine ⟨?_⟩
          go_simp
          exact ⟨Grows.refl _, rfl⟩
        simp only [Act.put, List.setIfInBounds_toArray, List.set_cons_zero, List.set_cons_succ]
        apply phase_fixed (c := .int .u8 ((n / 256 ^ k) % 256))
        case hw => simp [Region.wanted, yielded]
        case ho =>
          intro w' hk hf
          clear hf
          refine ⟨?_⟩
          go_simp
          exact ⟨Grows.refl _, rfl⟩
        simp only [Act.put, List.setIfInBounds_toArray, List.set_cons_zero, List.set_cons_succ]
        apply phase_free (G := Made1 wr.heap.size ((n / 256 ^ k) % 256))
        case hw => simp [Region.wanted, yielded]
        case ho =>
          intro w' hk hf
          clear hf
          refine ⟨?_⟩
          go_simp
          exact ⟨(Below.refl _ _).alloc (Nat.le_refl _) _, _, rfl, hk.size, heap_alloc_new w' _⟩
        case hm => exact fun v a c h hk => h.keep (fun q o hB hc => (hk.block q (lt_heap hc) (fun e => e.elim (fun e => by have := lt_heap HV.out.blk; omega) (fun e => e.2.elim fun cs e => by have := lt_heap e; omega))).trans hc)
        intro v23
        simp only [Act.put, List.setIfInBounds_toArray, List.set_cons_zero, List.set_cons_succ]
        apply phase_turn_free (G := fun v W => True) (J := fun v24 w' => w'.heap[gb]? = some (.cells #[v] 50 (0, 0)) ∧ w'.ownsRow B 5 1 v24 zs.length (nums .u8 zs))
        case hw => simp [Region.wanted, yielded]
        case ho =>
          intro w' hk hf hI
          obtain ⟨q, e23, hq1, hq2⟩ : Made1 wr.heap.size ((n / 256 ^ k) % 256) v23 w' := hf _ (List.Mem.head _) (by kernel_rfl)
          clear hf
          subst e23
          obtain ⟨v1, w1, hr, ho, hg, _⟩ := bytes_run (t := 50) (u := 50) (ty := 50) Try.underlying50 Try.underlying50 B v ys [(n / 256 ^ k) % 256] (some ⟨q, 0, none⟩) 1 1 hI.own (made1_reads hq2) (Nat.le_trans HBW.out hk.size) (by have := HYL.out; omega)
          rw [HZS.out] at ho
          have hgb : gb < w'.heap.size := lt_heap hI.blk
          have hne : v.ownBlock ≠ some gb := fun e => by
            obtain ⟨cs, hcs⟩ := own_typed hI.own gb e
            rw [hI.blk] at hcs
            injection hcs with hcs
            injection hcs with _ hcs
            cases hcs
          refine growAt_append (.tmp 14) (.tmp 23) 50 rfl rfl rfl ⟨v1, w1, hr, KeepS.of_grown hg (fun q' e => .inr ⟨(hI.own.lt q' e).1, ?_⟩), ⟨(hg.block gb hgb (fun e => hne e.symm)).trans hI.blk, ho⟩, trivial⟩
          · rcases HY.out with ⟨cs, h | ⟨q2, h, hcs⟩⟩
            · rw [h] at e; cases e
            · rw [h] at e; injection e with e; exact ⟨cs, e ▸ hcs⟩
        case hJ => exact fun v a c h hh => ⟨(h.block gb (lt_heap hh.1)).trans hh.1, own_grows hh.2 h⟩
        case hm => exact fun _ _ _ _ _ => trivial
        intro v24
        simp only [Act.put, List.setIfInBounds_toArray, List.set_cons_zero, List.set_cons_succ]
        iterate 1
          apply phase_fixed
          case hw => simp [Region.wanted, yielded]
          case ho =>
            intro w' hk hf
            clear hf
            refine ⟨?_⟩
            go_simp
            exact ⟨Grows.refl _, rfl⟩
          simp only [Act.put, List.setIfInBounds_toArray, List.set_cons_zero, List.set_cons_succ]
        apply phase_turn (c := undef) (J := fun w' => BufAt w' gb B zs)
        case hw => simp [Region.wanted, yielded]
        case ho =>
          intro w' hk hf hI
          clear hf
          obtain ⟨A24, c24, e24, _⟩ := own_slice hI.2
          subst e24
          have k0 := cell_of_row w' gb 0 _ 50 (0, 0) hI.1
          have f0 := frozen_of_row w' gb 0 _ 50 hI.1
          have HI := Aside0.mk hI
          clear hI
          refine ⟨?_⟩
          go_simp
          refine ⟨KeepS.of_grown (grown_set w' gb 0 _) (fun q e => .inl (by injection e with e; exact e.symm)), ⟨_, blk_set HI.out.1 0 _, own_keep HI.out.2 fun q hq _ cs hcs => set_other w' gb 0 _ hcs (fun e => ?_)⟩, rfl⟩
          subst e
          rw [HI.out.1] at hcs
          injection hcs with hcs
          injection hcs with _ hcs
          cases hcs
        case hJ => exact fun a c h hh => hh.grows h
        simp only [Act.put, List.setIfInBounds_toArray, List.set_cons_zero, List.set_cons_succ]
        refine phase_nil (fun w5 hk5 hI _ => ?_)
        have HU5 := Aside0.mk hI
        have HK5 := Aside0.mk (HK.out.trans (KeepT.of_keep hk5))
        clear hI hk5 hpw hw1 hw2 hw3 hw4
        go_wp2
        go_roundg (size - (i + 1))
        case measure => have := HF.out; omega
        case rel => exact ⟨i + 1, ⟨by have := HF.out; omega⟩, by omega, by go_num, ⟨by have h := HU5.out; rw [← HZS.out, ← HYS.out, HKK.out, List.append_assoc, ← beI_take n size i hlt] at h; exact h⟩, HK5⟩
      case ht => kernel_rfl
    · obtain rfl : i = size := by omega
      go_wp2
      go_end0
      refine ⟨rfl, by have h := HU.out; rw [List.take_of_length_le (by rw [beI_length]; exact Nat.le_refl _)] at h; exact h, HK.out⟩
end Go.Proofs.Ytemnhgmgffdncaa
