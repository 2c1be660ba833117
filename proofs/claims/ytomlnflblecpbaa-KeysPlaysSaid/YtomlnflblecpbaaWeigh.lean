/-
  What rows within rows weigh.
-/
import Derived.SizedLaws
import Derived.Deep.Matrix
namespace Go.Proofs.Ytomlnflblecpbaa
theorem weights_all {H : Type} {P : Program} {e : TypeId} : ∀ {ds : List (DataW H)} {d : DataW H}, d ∈ ds → ∀ n ∈ d.weights P e, n ∈ DataW.weightsAll P e ds
  | d0 :: ds, d, hd, n, hn => by
    simp only [DataW.weightsAll, List.mem_append]
    rcases List.mem_cons.1 hd with rfl | hd
    · exact .inl hn
    · exact .inr (weights_all hd n hn)
  | [], _, hd, _, _ => by simp at hd
theorem sized_inner {H : Type} {P : Program} {ts : List TypeId} {ds : List (DataW H)} (h : (DataW.weightsEach P ts ds).all (· ≤ reachBytes) = true) {j : Nat} {t e : TypeId} {elems spare : List (DataW H)} (ht : ts[j]? = some t) (hd : ds[j]? = some (.slice elems spare)) (hu : P.underlying t = some (.slice e))
    {x : DataW H} (hx : x ∈ elems) (n : Nat) (hn : n ∈ x.weights P e) : n ≤ reachBytes := by
  have := List.all_eq_true.1 h _ (DataW.weights_mem_each ht hd n (by simp only [DataW.weights, hu, List.mem_cons, List.mem_append]; exact .inr (.inl (weights_all hx n hn))))
  simpa using this
theorem sized_row {H : Type} {P : Program} {ts : List TypeId} {ds : List (DataW H)} (h : (DataW.weightsEach P ts ds).all (· ≤ reachBytes) = true) {j : Nat} {t e q : TypeId} {k : IntKind} {elems spare : List (DataW H)} (ht : ts[j]? = some t) (hd : ds[j]? = some (.slice elems spare)) (hu : P.underlying t = some (.slice e)) (he : P.underlying e = some (.slice q))
    {a : Addr} {L : Nat} {Z : List Int} (hx : Go.Deep.intRow k (some a) L Z ∈ elems) : Z.length * P.bytesOf q ≤ 140737488351232 := by
  refine sized_inner h ht hd hu hx _ ?_
  unfold Go.Deep.intRow
  simp only [DataW.weights, he, List.mem_cons]
  left
  congr 1
  simp [ChangeShapes.lits]
  omega
end Go.Proofs.Ytomlnflblecpbaa
