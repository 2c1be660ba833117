/-
  Layer 13: a place of a row is written anew.
-/
import Derived.Test.YtomlnflblecpbaaPut
namespace Go.Proofs.Ytomlnflblecpbaa
set_option linter.unusedVariables false
set_option linter.unusedSimpArgs false
open Go.RowKit Go.Proofs.YtomlnflblecpbaaW.PrintWords Go.Proofs.YtomlnflblecpbaaW.PrintMore
theorem flatP_take : ∀ (l : List Pl) (i : Nat), flatP (l.take i) = (flatP l).take (i * 5)
  | [], i => by simp [flatP]
  | r :: l, 0 => by simp [flatP]
  | r :: l, i + 1 => by
    show flatP (r :: l.take i) = (r.vals ++ flatP l).take _
    rw [List.take_append, show r.vals.length = 5 from rfl, List.take_of_length_le (show r.vals.length ≤ (i + 1) * 5 by show 5 ≤ _; omega), show (i + 1) * 5 - 5 = i * 5 by omega, ← flatP_take l i]
    rfl
theorem flatP_drop : ∀ (l : List Pl) (i : Nat), flatP (l.drop i) = (flatP l).drop (i * 5)
  | [], i => by simp [flatP]
  | r :: l, 0 => by simp [flatP]
  | r :: l, i + 1 => by
    show flatP (l.drop i) = (r.vals ++ flatP l).drop _
    rw [List.drop_append, show r.vals.length = 5 from rfl, List.drop_eq_nil_of_le (show r.vals.length ≤ (i + 1) * 5 by show 5 ≤ _; omega), show (i + 1) * 5 - 5 = i * 5 by omega, ← flatP_drop l i]
    rfl
theorem flatP_set {l : List Pl} {i : Nat} (hi : i < l.length) (r : Pl) : flatP (l.set i r) = (flatP l).take (i * 5) ++ r.vals ++ (flatP l).drop (i * 5 + 5) := by
  rw [List.set_eq_take_append_cons_drop, if_pos hi, flatP_app, flatP_take, show flatP (r :: l.drop (i + 1)) = r.vals ++ flatP (l.drop (i + 1)) from rfl, flatP_drop, show (i + 1) * 5 = i * 5 + 5 by omega, List.append_assoc]
theorem slice_inj {b b' n c c' : Nat} (h : Value.slice (some ⟨b, 0, none⟩) n c = .slice (some ⟨b', 0, none⟩) n c') : b = b' ∧ c = c' := by
  injection h with h1 h2 h3
  injection h1 with h1
  injection h1 with h1
  exact ⟨h1, h3⟩
theorem pl_set {W : World} {B b c : Nat} {l : List Pl} (h : W.ownsRow B 32 5 (.slice (some ⟨b, 0, none⟩) l.length c) l.length (flatP l)) {i : Nat} (hi : i < l.length) (r : Pl) :
    (W.setCells b (i * 5) r.vals).ownsRow B 32 5 (.slice (some ⟨b, 0, none⟩) l.length c) (l.set i r).length (flatP (l.set i r)) := by
  rcases h.2 with ⟨h, _⟩ | ⟨b', cap, cur, hv, hBb, hb, hc, hcm, hcs, hcur⟩
  · cases h
  · obtain ⟨e1, e2⟩ := slice_inj hv
    subst e1 e2
    have hls : (l.set i r).length = l.length := List.length_set
    have hv5 : r.vals.length = 5 := rfl
    have hsz : cur.toList.length = c * 5 := by rw [Array.length_toList]; exact hcs
    have hfl := flatP_len l
    generalize hvs : r.vals = vs at *
    have hfs : flatP (l.set i r) = (flatP l).take (i * 5) ++ vs ++ (flatP l).drop (i * 5 + 5) := by rw [← hvs]; exact flatP_set hi r
    have hln : (flatP (l.set i r)).length = (l.set i r).length * 5 := flatP_len _
    rw [hls] at hln ⊢
    generalize flatP (l.set i r) = F at *
    refine ⟨hln, .inr ⟨b, c, spl cur (i * 5) vs, rfl, hBb, heap_spl b vs (i * 5) W cur hb, hc, hcm, ?_, ?_⟩⟩
    · rw [spl_size]; exact hcs
    rw [spl_list _ _ _ (by rw [hv5, ← Array.length_toList, hsz]; omega), hfs, ← hcur]
    have h1 : i * 5 ≤ l.length * 5 := by omega
    have hlen : (List.take (i * 5) cur.toList ++ vs).length = i * 5 + 5 := by rw [List.length_append, List.length_take, hv5, hsz, Nat.min_eq_left (by omega)]
    rw [hv5, List.take_take, Nat.min_eq_left h1, List.take_append, List.take_of_length_le (by rw [hlen]; omega), hlen, List.drop_take]
end Go.Proofs.Ytomlnflblecpbaa
