/-
  Layer 13: where a key stands among keys in order.
-/
import Derived.Shelf.Spec.SearchS
import Derived.Test.YtomlnflblecpbaaMap
import Derived.Test.YtomlnflblecpbaaProg
namespace Go.Proofs.Ytomlnflblecpbaa
set_option linter.unusedVariables false
set_option linter.unusedSimpArgs false
theorem search_at {l : List ByteArray} (h : l.Pairwise fun a b => klt a b = true) (k : ByteArray) (f lo hi : Nat) (h1 : hi - lo ≤ f) (h2 : lo ≤ (l.takeWhile fun x => klt x k).length) (h3 : (l.takeWhile fun x => klt x k).length ≤ hi) :
    Go.Lib.bsGo (fun t => Op.bytesLess (l.getD t k).toList k.toList) f lo hi = (l.takeWhile fun x => klt x k).length := by
  refine Go.Lib.bsGo_spec _ _ (fun t ht => ?_) (fun t ht => ?_) f lo hi h1 h2 h3
  · have e : (l.takeWhile fun x => klt x k)[t]? = l[t]? := by
      conv => rhs; rw [← List.takeWhile_append_dropWhile (p := fun x => klt x k) (l := l)]
      rw [List.getElem?_append_left ht]
    rw [List.getElem?_eq_getElem ht] at e
    rw [List.getD_eq_getElem?_getD, ← e, Option.getD_some]
    exact (takeWhile_all (f := fun x => klt x k) (List.getElem_mem ht) :)
  · show klt (l.getD t k) k = false
    rw [List.getD_eq_getElem?_getD]
    cases e : l[t]? with
    | none => exact klt_irrefl k
    | some x =>
      have hd := from_drop h k
      have hx : x ∈ l.drop (l.takeWhile fun x => klt x k).length := by
        rw [List.mem_iff_getElem?]
        refine ⟨t - (l.takeWhile fun x => klt x k).length, ?_⟩
        rw [List.getElem?_drop, show (l.takeWhile fun x => klt x k).length + (t - (l.takeWhile fun x => klt x k).length) = t by omega, e]
      rw [hd] at hx
      have := (List.mem_filter.1 hx).2
      simpa using this
open Go.Shelf
def lays26_ren : Go.Shelf.Ren := ⟨fun | 26 => 30 | 33 => 34 | 34 => 35 | 38 => 38 | n => n, fun | 24 => 38 | 9 => 9 | 3 => 3 | 4 => 4 | 40 => 65 | 0 => 0 | n => n, fun | n => n⟩
theorem lays26 : Go.Proofs.Lays2.n26 Try.prog lays26_ren := {
  mixed := by kernel_rfl
  f26 := Try.func30.trans (congrArg some (by kernel_rfl))
  f33 := Try.func34.trans (congrArg some (by kernel_rfl))
  f34 := Try.func35.trans (congrArg some (by kernel_rfl))
  f38 := Try.func38.trans (congrArg some (by kernel_rfl))
  t0 := Try.underlying0
  a0 := Try.isAgg0
  z0 := Try.sizeOf0
  v0 := Try.zeroValue0
  t3 := Try.underlying3
  a3 := Try.isAgg3
  z3 := Try.sizeOf3
  v3 := Try.zeroValue3
  t4 := Try.underlying4
  a4 := Try.isAgg4
  z4 := Try.sizeOf4
  v4 := Try.zeroValue4
  t9 := Try.underlying9
  a9 := Try.isAgg9
  z9 := Try.sizeOf9
  v9 := Try.zeroValue9
  t24 := Try.underlying38
  a24 := Try.isAgg38
  z24 := Try.sizeOf38
  v24 := Try.zeroValue38
  t40 := Try.underlying65
  a40 := Try.isAgg65
  z40 := Try.sizeOf65
  v40 := Try.zeroValue65 }
/-- BinarySearch of keys in order. -/
theorem search_calls {W : World} {b n c : Nat} {l : List ByteArray} (h : l.Pairwise fun a b => klt a b = true) (k : ByteArray) (hn : l.length = n) (hs : n < 4611686018427387904) (hc : ∀ j, j < n → W.cell? ⟨b, j, none⟩ = some (.string (l.getD j k))) :
    Calls Try.prog 30 #[.slice (some ⟨b, 0, none⟩) n c, .string k] W fun e w' => (∃ bb, e = .returned (.tuple #[.int .i64 (l.takeWhile fun x => klt x k).length, .bool bb])) ∧ ∃ q, w' = W.drewN q := by
  have := Any2.slices_BinarySearch_string lays26 b 0 n c (fun t => l.getD t k) k W hs (fun j hj => by rw [Nat.zero_add]; exact hc j hj)
  rw [search_at h k n 0 n (by omega) (Nat.zero_le _) (by rw [← hn]; exact takeWhile_le _ _)] at this
  exact this.mono fun e w' h => ⟨⟨_, h.1⟩, h.2⟩
end Go.Proofs.Ytomlnflblecpbaa
