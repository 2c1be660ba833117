/-
  Cells of a row, set one by one, as a splice of its list.
-/
import Derived.Test.YtomlnflblecpbaaBase
import Derived.Laws.IdiomCopy
namespace Go.Proofs.Ytomlnflblecpbaa
set_option linter.unusedVariables false
set_option linter.unusedSimpArgs false
open Go.RowKit Go.Proofs.YtomlnflblecpbaaW.PrintWords
/-- A row from place o on. -/
def spl (cs : Array Value) : Nat → List Value → Array Value
  | _, [] => cs
  | o, v :: r => spl (cs.setIfInBounds o v) (o + 1) r
theorem spl_size : ∀ (vs : List Value) (o : Nat) (cs : Array Value), (spl cs o vs).size = cs.size
  | [], _, _ => rfl
  | v :: r, o, cs => by rw [spl, spl_size r]; simp
theorem spl_list : ∀ (vs : List Value) (o : Nat) (cs : Array Value), o + vs.length ≤ cs.size → (spl cs o vs).toList = cs.toList.take o ++ vs ++ cs.toList.drop (o + vs.length)
  | [], o, cs, h => by simp [spl]
  | v :: r, o, cs, h => by
    simp only [List.length_cons] at h
    rw [spl, spl_list r (o + 1) _ (by simp; omega), Array.toList_setIfInBounds]
    have hlen : o < cs.toList.length := by simp; omega
    rw [List.take_set, List.drop_set, if_pos (by omega), List.take_succ_eq_append_getElem hlen, List.set_append_right _ _ (by simp; omega)]
    have h1 : o - (List.take o cs.toList).length = 0 := by rw [List.length_take]; omega
    rw [h1, List.set_cons_zero, List.append_assoc, List.append_assoc, List.length_cons, show o + 1 + r.length = o + (r.length + 1) by omega]
    simp
theorem heap_spl (b : Nat) {t : TypeId} {fr : Nat × Nat} : ∀ (vs : List Value) (o : Nat) (w : World) (cs : Array Value), w.heap[b]? = some (.cells cs t fr) → (w.setCells b o vs).heap[b]? = some (.cells (spl cs o vs) t fr)
  | [], _, _, _, h => h
  | v :: r, o, w, cs, h => by
    rw [World.setCells, spl]
    refine heap_spl b r (o + 1) _ _ ?_
    show (w.heap.modify b _)[b]? = _
    rw [Array.getElem?_modify, if_pos rfl, h]
    rfl
theorem heap_spl_ne (b : Nat) : ∀ (vs : List Value) (o : Nat) (w : World) (k : Nat), k ≠ b → (w.setCells b o vs).heap[k]? = w.heap[k]?
  | [], _, _, _, _ => rfl
  | v :: r, o, w, k, h => by
    rw [World.setCells, heap_spl_ne b r (o + 1) _ k h]
    exact Below.heap_setCell w ⟨b, o, none⟩ v k h
theorem grown_spl (b : Nat) : ∀ (vs : List Value) (o : Nat) (w : World), w.grownBy (w.setCells b o vs) (some b)
  | [], _, w => World.grownBy.refl w _
  | v :: r, o, w => grown_trans (grown_set w b o v) (grown_spl b r (o + 1) _)
end Go.Proofs.Ytomlnflblecpbaa
