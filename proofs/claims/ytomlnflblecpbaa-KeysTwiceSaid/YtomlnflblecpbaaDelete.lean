/-
  Layer 13: slices.Delete of one place (under way).
-/
import Derived.Test.YtomlnflblecpbaaMany
import Derived.Laws.OwnMore
namespace Go.Proofs.Ytomlnflblecpbaa
set_option linter.unusedVariables false
set_option linter.unusedSimpArgs false
open Go.RowKit Go.Proofs.YtomlnflblecpbaaW.PrintWords Go.Proofs.YtomlnflblecpbaaW.PrintMore
attribute [local go_sem] max2_int min2_int
theorem own_take {W : World} {b c : Nat} {l : List Pl} (h : W.ownsRow 0 32 5 (.slice (some ⟨b, 0, none⟩) l.length c) l.length (flatP l)) (i : Nat) (hi : i ≤ l.length) :
    W.ownsRow 0 32 5 (.slice (some ⟨b, 0, none⟩) i c) i (flatP (l.take i)) := by
  rcases h.2 with ⟨h, _⟩ | ⟨b', cap, cur, hv, hBb, hb, hc, hcm, hcs, hcur⟩
  · cases h
  · obtain ⟨e1, e2⟩ := slice_inj hv
    subst e1 e2
    refine ⟨by rw [flatP_len, List.length_take, Nat.min_eq_left hi], .inr ⟨b, c, cur, rfl, hBb, hb, by omega, hcm, hcs, ?_⟩⟩
    rw [flatP_take, ← hcur, List.take_take, Nat.min_eq_left (by omega)]
/-- append(s[:i], s[i+1:]...) of a row of one's own. -/
theorem close_run {W : World} {b c : Nat} {l : List Pl} (h : W.ownsRow 0 32 5 (.slice (some ⟨b, 0, none⟩) l.length c) l.length (flatP l)) {i : Nat} (hi : i < l.length) (a : Addr) (c2 : Nat) (ha : i + 1 < l.length → a = ⟨b, (i + 1) * 5, none⟩) :
    ∃ w', (Builtin.append_ #[48, 48] 48 #[.slice (some ⟨b, 0, none⟩) i c, .slice (some a) (l.length - (i + 1)) c2]).run Try.prog W = .ok (.slice (some ⟨b, 0, none⟩) (l.length - 1) c) w' ∧
      w'.ownsRow 0 32 5 (.slice (some ⟨b, 0, none⟩) (l.length - 1) c) (l.length - 1) (flatP (l.take i ++ l.drop (i + 1))) ∧ W.grownBy w' (some b) := by
  obtain ⟨i0, hi0, hz0, hz1, hz2⟩ := parts3 info32
  obtain ⟨A, c', e, hc, hr⟩ := reads_of_own h
  obtain ⟨_, e2⟩ : some (⟨b, 0, none⟩ : Addr) = A ∧ c = c' := by injection e with e1 _ e3; exact ⟨e1, e3⟩
  have hcells : ∀ j u, (flatP l)[j]? = some u → W.cell? ⟨b, j, none⟩ = some u := by
    rcases h.2 with ⟨h, _⟩ | ⟨b', cap, cur, hv, hBb, hb, hc, hcm, hcs, hcur⟩
    · cases h
    · obtain ⟨e1, e2⟩ := slice_inj hv
      subst e1 e2
      intro j u hu
      rw [cell_of_row W b j cur 32 (0, 0) hb, ← Array.getElem?_toList]
      rw [← hcur, List.getElem?_take] at hu
      split at hu
      · exact hu
      · cases hu
  obtain ⟨w1, hrun, ho, hg⟩ := run_append_fits (P := Try.prog) W 0 48 48 32 i0 5 Try.underlying48 hi0 hz1 b i c (flatP (l.take i)) (own_take h i (by omega)) a (l.length - (i + 1)) c2 (flatP (l.drop (i + 1)))
    (by rw [flatP_len, List.length_drop]) (fun j u hu => by
      have hlt : i + 1 < l.length := by
        rcases Nat.lt_or_ge (i + 1) l.length with h | h
        · exact h
        · rw [List.drop_eq_nil_of_le h] at hu; simp [flatP] at hu
      rw [ha hlt]
      have hadd : (⟨b, (i + 1) * 5, none⟩ : Addr).add j = ⟨b, (i + 1) * 5 + j, none⟩ := by unfold Addr.add; split <;> simp_all
      rw [hadd]
      rw [flatP_drop, List.getElem?_drop] at hu
      exact hcells _ _ hu) (flatP_one _) (by omega)
  have e3 : i + (l.length - (i + 1)) = l.length - 1 := by omega
  rw [e3] at hrun ho
  rw [← flatP_app] at ho
  exact ⟨w1, hrun, ho, hg⟩
theorem zero32 (w : World) : (zeroValue 32).run Try.prog w = .ok (.agg zeroPl.cells) w := by
  have e : (Try.prog.info? 32).map (fun i => i.zero) = some (some (.agg zeroPl.cells)) := by kernel_rfl
  obtain ⟨i, hi, hz⟩ := Option.map_eq_some_iff.1 e
  simp [zeroValue, typeInfo, hi, hz]
/-- clear of the last place of what was a row. -/
theorem clear_run {W : World} {b k c cc : Nat} {l : List Pl} (h : W.ownsRow 0 32 5 (.slice (some ⟨b, 0, none⟩) k c) k (flatP l)) (hk : k + 1 ≤ c) :
    ∃ w', (Builtin.clear_ #[48] 0 #[.slice (some ⟨b, k * 5, none⟩) 1 cc]).run Try.prog W = .ok (.tuple #[]) w' ∧ w'.ownsRow 0 32 5 (.slice (some ⟨b, 0, none⟩) k c) k (flatP l) ∧ W.grownBy w' (some b) := by
  rcases h.2 with ⟨h, _⟩ | ⟨b', cap, cur, hv, hBb, hb, hc, hcm, hcs, hcur⟩
  · cases h
  · obtain ⟨e1, e2⟩ := slice_inj hv
    subst e1 e2
    have hfit : k * 5 + zeroPl.vals.length ≤ cur.size := by rw [hcs, show zeroPl.vals.length = 5 from rfl]; omega
    have hst := run_storeCells_at Try.prog b (k * 5) 32 zeroPl.vals 0 cur W hb (by simpa using hfit) (fun u hu => flatP_one [zeroPl] u (by simpa [flatP] using hu))
    simp only [Nat.add_zero] at hst
    have hz5 : (Builtin.zeroCells zeroPl.cells 1).toList = zeroPl.vals := by kernel_rfl
    have hz6 : (Builtin.zeroCells (Value.agg zeroPl.cells).cells 1).toList = zeroPl.vals := by kernel_rfl
    obtain ⟨R, hR⟩ : ∃ R, R = (List.take (k * 5) cur.toList ++ zeroPl.vals ++ List.drop (k * 5 + zeroPl.vals.length) cur.toList).toArray := ⟨_, rfl⟩
    rw [← hR] at hst
    refine ⟨W.setRow b R, ?_, ⟨h.1, .inr ⟨b, c, R, rfl, hBb, setRow_heap W b cur R 32 _ hb, hc, hcm, ?_, ?_⟩⟩, ⟨rfl, rfl, rfl, by simp, fun k _ hk => setRow_other W b k _ (fun e => hk (by simp [e]))⟩⟩
    rotate_left
    · rw [hR]
      simp only [List.size_toArray, List.length_append, List.length_take, List.length_drop, Array.length_toList]
      omega
    · rw [hR]
      show List.take (k * 5) (List.take (k * 5) cur.toList ++ zeroPl.vals ++ List.drop (k * 5 + zeroPl.vals.length) cur.toList) = flatP l
      rw [List.append_assoc, List.take_append_of_le_length (by rw [List.length_take, Array.length_toList]; omega), List.take_take, Nat.min_self]
      exact hcur
    · simp only [Builtin.clear_, run_underlying Try.underlying48, Sem.run_bind, Result.andThen_ok]
      simp [run_underlying Try.underlying48, zero32, hz6, hst, Result.andThen]
      rw [show (Builtin.zeroCells (Value.agg #[.int .i64 0, .int .i64 0, .string ⟨#[]⟩, .int .i64 0, .int .i64 0]).cells 1).toList = zeroPl.vals by kernel_rfl, hst]
end Go.Proofs.Ytomlnflblecpbaa
