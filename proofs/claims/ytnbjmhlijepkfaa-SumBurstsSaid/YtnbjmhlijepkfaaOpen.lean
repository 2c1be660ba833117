/-
  A table that came in by value: its cells are those of a function of 256 numbers. A number, and a slice of bytes, that came in.
-/
import Derived.Test.YtnbjmhlijepkfaaHead
import Derived.ProofKit
import Derived.OpenShut
import Derived.SizedLaws
import Derived.Test.YtnbjmhlijepkfaaWWords
namespace Go.Proofs.Ytnbjmhlijepkfaa
set_option linter.unusedVariables false
set_option linter.unusedSimpArgs false
open Go.ChangeShapes Go.WideShapes Go.ChangeAt Go.RowKit Crc

theorem okWide_array {P : Program} {w : World} {r : Reach} {base : Nat} {t : TypeId} {v : Value} {n : Nat} {e : TypeId} (ht : P.underlying t = some (.array n e)) (h : Value.okWide P w r base t v) : ∃ cs, v = .agg cs ∧ cs.size = P.cellsOf t := by
  simp only [Value.okWide, ht] at h
  obtain ⟨cs, h1, h2, _⟩ := h
  exact ⟨cs, h1, h2⟩

theorem open_table {H : Type} {enc : TypeId × Value → H} {w : World} {r : Reach} {b0 base : Nat} {spare : Nat → Bool} {held : Bool} {v : Value} {d : DataW H} {p : List MemPlace}
    (hv : Value.okWide Try.prog w r b0 23 v) (h : DataW.Trod enc Try.prog w base spare held 23 v d p) : ∃ f : Nat → BitVec 32, v = .agg (cellsOf f) := by
  obtain ⟨cs, rfl, hsz⟩ := okWide_array Try.underlying23 hv
  have hC : Try.prog.cellsOf 23 = 256 := by kernel_rfl
  have hE : Try.prog.cellsOf 22 = 1 := by kernel_rfl
  rw [hC] at hsz
  obtain ⟨fuel, hf⟩ := h
  obtain ⟨xs, m, _, _, _, hn, hel⟩ := DataW.trod_array Try.underlying23 hf
  have key : ∀ i, i < 256 → ∃ x : BitVec 32, cs[i]? = some (U x) := by
    intro i hi
    have h1 := hel i hi
    rw [hE] at h1
    simp only [Value.cells, Nat.mul_one] at h1
    cases hx : xs[i]? with
    | none => rw [List.getElem?_eq_none_iff] at hx; omega
    | some y =>
      rw [hx] at h1
      obtain ⟨n, e1, _, hwf⟩ := DataW.trod_int Try.underlying22 h1
      have hb : 0 ≤ n ∧ n ≤ 4294967295 := by simpa [Lit.wf, IntKind.min, IntKind.max, IntKind.signed, IntKind.bits] using hwf
      refine ⟨BitVec.ofInt 32 n, ?_⟩
      have e2 : cs[i]? = some (.int .u32 n) := by
        have hl : i < cs.size := by omega
        have := congrArg List.head? e1
        rw [List.head?_take] at this
        simpa [List.head?_drop] using this
      rw [e2]
      unfold U
      congr 2
      rw [BitVec.toNat_ofInt]; omega
  refine ⟨fun i => if h : i < 256 then Classical.choose (key i h) else 0#32, ?_⟩
  have e : cs = cellsOf fun i => if h : i < 256 then Classical.choose (key i h) else 0#32 := by
    apply Array.ext_getElem?
    intro i
    by_cases hi : i < 256
    · rw [cellsOf_get _ i hi, dif_pos hi]
      exact Classical.choose_spec (key i hi)
    · rw [Array.getElem?_eq_none (by omega), Array.getElem?_eq_none (by rw [cellsOf_size]; omega)]
  exact congrArg Value.agg e

/-- A slice of bytes that came in: what it reads as, and how long it can be. -/
theorem open_bytes {H : Type} {enc : TypeId × Value → H} {w : World} {r : Reach} {b0 base : Nat} {held : Bool} {v : Value} {d : DataW H} {p : List MemPlace} {ts : List TypeId} {ds : List (DataW H)} (j : Nat)
    (hv : Value.okWide Try.prog w r b0 24 v) (h : DataW.Trod enc Try.prog w base (fun _ => true) held 24 v d p)
    (hsz : (DataW.weightsEach Try.prog ts ds).all (· ≤ reachBytes) = true) (ht : ts[j]? = some 24) (hd : ds[j]? = some d) :
    ∃ a len cap zs, v = .slice a len cap ∧ Bytes w a len zs ∧ len ≤ cap ∧ cap ≤ 140737488351232 := by
  obtain ⟨a, len, cap, rfl⟩ := okWide_slice Try.underlying24 hv
  obtain ⟨fuel, hf⟩ := h
  rcases open_ints Try.underlying24 Try.underlying5 (by kernel_rfl) hf with ⟨hcs, _⟩ | ⟨x, l, c, zs, hcs, _, hl, hm, hz, hx, hcell, hwz⟩
  · simp [Value.cells] at hcs
    obtain ⟨rfl, rfl, rfl⟩ := hcs
    exact ⟨_, _, _, [], rfl, slice_nil w, Nat.le_refl _, by omega⟩
  · simp [Value.cells] at hcs
    obtain ⟨rfl, rfl, rfl⟩ := hcs
    simp at hz
    simp only [Prod.mk.injEq] at hx
    obtain ⟨rfl, _⟩ := hx
    have hs := sized_slice hsz ht hd Try.underlying24
    have hb : Try.prog.bytesOf 5 = 1 := by kernel_rfl
    rw [hb] at hs
    simp only [lits, List.length_map, List.length_take, List.length_drop, reachBytes] at hs
    refine ⟨_, _, _, zs.take len, rfl, ⟨by simp; omega, by omega, fun z hz' => ?_, fun hn => ⟨x, rfl, fun j hj => ?_⟩⟩, hl, by omega⟩
    · have := hwz z (List.mem_of_mem_take hz')
      simpa [Lit.wf, IntKind.min, IntKind.max, IntKind.signed, IntKind.bits, isByte] using this
    · rw [hcell j (by omega)]
      simp [List.getD_eq_getElem?_getD, List.getElem?_take, hj]
theorem Bytes.reads {w : World} {A : Option Addr} {n : Nat} {zs : List Int} (h : Bytes w A n zs) : YtnbjmhlijepkfaaW.PrintWords.ReadsInt w .u8 A n zs := ⟨h.len, h.top, h.at_⟩
theorem bytes_of_reads {w : World} {A : Option Addr} {n : Nat} {zs : List Int} (h : YtnbjmhlijepkfaaW.PrintWords.ReadsInt w .u8 A n zs) (hb : ∀ z ∈ zs, isByte z) : Bytes w A n zs := ⟨h.1, h.2.1, hb, h.2.2⟩
theorem info5 : (Try.prog.info? 5).map (fun i => (i.zero, i.size, i.bytes)) = some (some (.int .u8 0), 1, 1) := by kernel_rfl
theorem u32_of {n : Int} (h : (Lit.int .u32 n).wf = true) : ∃ x : BitVec 32, n = (x.toNat : Int) := by
  have hb : 0 ≤ n ∧ n ≤ 4294967295 := by simpa [Lit.wf, IntKind.min, IntKind.max, IntKind.signed, IntKind.bits] using h
  exact ⟨BitVec.ofInt 32 n, by rw [BitVec.toNat_ofInt]; omega⟩
theorem min2_num (k k' : IntKind) (x y : Int) : Builtin.min2 (.int k x) (.int k' y) = pure (.int k (if y < x then y else x)) := by simp only [Builtin.min2]
theorem min_of_two (ats : Array TypeId) (ty : TypeId) (a b : Value) : Builtin.min_ ats ty #[a, b] = (Builtin.min2 a b >>= fun s => pure s) := by simp only [Builtin.min_, List.foldlM_cons, List.foldlM_nil]

/-- Block B is a row of n cells. -/
structure RowT (w : World) (B t n : Nat) (cs : Array Value) : Prop where
  size : cs.size = n
  heap : w.heap[B]? = some (.cells cs t (0, 0))
theorem RowT.cell {w : World} {B t n : Nat} {cs : Array Value} (h : RowT w B t n cs) (k : Nat) (hk : k < n) : ∃ v, w.cell? ⟨B, k, none⟩ = some v := by
  refine ⟨cs[k]'(by rw [h.size]; exact hk), ?_⟩
  rw [cell_of_row w B k cs t (0, 0) h.heap]; simp [h.size, hk]
theorem RowT.frozen {w : World} {B t n : Nat} {cs : Array Value} (h : RowT w B t n cs) (k : Nat) : w.frozen? ⟨B, k, none⟩ = false := frozen_of_row w B k cs t h.heap
theorem RowT.set {w : World} {B t n : Nat} {cs : Array Value} (h : RowT w B t n cs) (k : Nat) (v : Value) : RowT (w.setCell ⟨B, k, none⟩ v) B t n (cs.setIfInBounds k v) := ⟨by simp [h.size], heap_setCell_same w B k cs t v h.heap⟩
theorem RowT.drew {w : World} {B t n : Nat} {cs : Array Value} (h : RowT w B t n cs) : RowT w.drew B t n cs := ⟨h.size, h.heap⟩
/-- The first k cells of a row are told by f. -/
def ToldBy (f : Nat → Value) (cs : Array Value) (k : Nat) : Prop := ∀ j, j < k → cs[j]? = some (f j)
theorem ToldBy.next {f : Nat → Value} {cs : Array Value} {k : Nat} (h : ToldBy f cs k) (hk : k < cs.size) : ToldBy f (cs.setIfInBounds k (f k)) (k + 1) := by
  intro j hj
  by_cases e : j = k
  · subst e; simp [hk]
  · rw [Array.getElem?_setIfInBounds, if_neg (by omega)]; exact h j (by omega)
end Go.Proofs.Ytnbjmhlijepkfaa
