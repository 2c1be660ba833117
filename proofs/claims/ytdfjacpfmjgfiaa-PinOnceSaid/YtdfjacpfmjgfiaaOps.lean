/-
  Layer 17: calls as they are handed to the laws.
-/
import Derived.Test.YtdfjacpfmjgfiaaClosed
import Derived.Test.YtdfjacpfmjgfiaaGreat
namespace Go.Proofs.Ytdfjacpfmjgfiaa
set_option linter.unusedVariables false
set_option linter.unusedSimpArgs false
open Go.Shelf Go.RowKit Go.Proofs.YtdfjacpfmjgfiaaW.PrintWords Go.Proofs.YtdfjacpfmjgfiaaW.PrintMore PPinPlays
def tot (l : List S31) : Nat := (l.map fun x => x.f3.length).sum
theorem great_l (l : List S31) (hl : l.length ≤ 4611686018427387904) : ∀ (d : Nat) (i : Nat) (n : Nat) (k : Nat), i + d = l.length → d < k → n ≤ 4611686018427387904 → ∃ r, souterrainlaw17_great.l0 k l (n : Int) (i : Int) = some r ∧ (r = false → n + tot (l.drop i) < 9000 ∧ l.length ≤ 300)
  | 0, i, n, k, hd, hk, hn => by
    obtain ⟨k, rfl⟩ : ∃ m, k = m + 1 := ⟨k - 1, by omega⟩
    have hz : tot (l.drop i) = 0 := by rw [List.drop_eq_nil_of_le (by omega)]; rfl
    rw [hz]
    simp only [souterrainlaw17_great.l0]
    rw [if_neg (by omega)]
    by_cases h : (n : Int) ≥ 9000
    · exact ⟨true, by rw [if_pos h], fun h => by cases h⟩
    · refine ⟨decide ((l.length : Int) > 300), by rw [if_neg h], fun h2 => ?_⟩
      simp at h2; omega
  | d + 1, i, n, k, hd, hk, hn => by
    obtain ⟨k, rfl⟩ : ∃ m, k = m + 1 := ⟨k - 1, by omega⟩
    have hi : i < l.length := by omega
    by_cases hlt : n < 9000
    · have hrd : rd_T31 l (i : Int) = l[i] := by simp [rd_T31, List.getD_eq_getElem?_getD, List.getElem?_eq_getElem hi]
      obtain ⟨r, hr, hf⟩ := great_l l hl d (i + 1) (n + min l[i].f3.length 9000) k (by omega) (by omega) (by omega)
      refine ⟨r, ?_, fun h => ?_⟩
      · simp only [souterrainlaw17_great.l0]
        rw [if_pos (by omega), if_pos (by omega), if_pos (by omega), hrd]
        have e1 : wrap64 ((n : Int) + mn (l[i].f3.length : Int) 9000) = ((n + min l[i].f3.length 9000 : Nat) : Int) := by
          have : mn (l[i].f3.length : Int) 9000 = ((min l[i].f3.length 9000 : Nat) : Int) := by unfold mn; omega
          rw [this, IntWalk.wrap64_in _ ⟨by omega, by omega⟩]; omega
        have e2 : wrap64 ((i : Int) + 1) = ((i + 1 : Nat) : Int) := by rw [IntWalk.wrap64_in _ ⟨by omega, by omega⟩]; omega
        rw [e1, e2]; exact hr
      · have h1 := hf h
        have h2 : tot (l.drop i) = l[i].f3.length + tot (l.drop (i + 1)) := by
          unfold tot
          rw [List.drop_eq_getElem_cons hi, List.map_cons, List.sum_cons]
        rw [h2]
        omega
    · simp only [souterrainlaw17_great.l0]
      rw [if_pos (by omega), if_neg (by omega), if_pos (by omega)]
      exact ⟨true, rfl, fun h => by cases h⟩
theorem great_tells (l : List S31) (hl : l.length ≤ 4611686018427387904) : ∃ k r, souterrainlaw17_great.f k l = some r ∧ (r = false → l.length + tot l < 9000 ∧ l.length ≤ 300) := by
  obtain ⟨r, hr, hf⟩ := great_l l hl l.length 0 l.length (l.length + 1) (by omega) (by omega) hl
  exact ⟨l.length + 1, r, hr, fun h => by have := hf h; simpa using this⟩
theorem cell_below {w W : World} (hb : Below w.heap.size w W) {p : Addr} {v : Value} (h : w.cell? p = some v) : W.cell? p = some v :=
  (World.cell?_of_block (w := w) (hb.block p.block (World.block_lt_of_cell? w p h))).trans h
theorem op_at {w W : World} {A : Option Addr} {l : List S31} (h : Kd.C k31 w A l.length l) (hb : Below w.heap.size w W) {i : Nat} (hi : i < l.length) :
    ∃ ad A3 c3, A = some ad ∧ W.cell? (ad.add (i * 4)) = some (.int .i64 l[i].f0) ∧ W.cell? ⟨(ad.add (i * 4)).block, (ad.add (i * 4)).off + 1, none⟩ = some (.int .i64 l[i].f1) ∧ W.cell? ⟨(ad.add (i * 4)).block, (ad.add (i * 4)).off + 2, none⟩ = some (.int .i64 l[i].f2) ∧ W.cell? ⟨(ad.add (i * 4)).block, (ad.add (i * 4)).off + 3, none⟩ = some (.slice A3 l[i].f3.length c3) ∧ l[i].f3.length ≤ c3 ∧ ReadsInt w .i64 A3 l[i].f3.length l[i].f3 := by
  obtain ⟨ad, A3, c3, e, h0, h1, h2, h3, hc, hr⟩ := at_T31 h (i : Int) (by omega) (by omega)
  have hrd : rd_T31 l (i : Int) = l[i] := by simp [rd_T31, List.getD_eq_getElem?_getD, List.getElem?_eq_getElem hi]
  rw [hrd, Int.toNat_natCast] at h0 h1 h2 h3
  rw [hrd] at hc hr
  exact ⟨ad, A3, c3, e, cell_below hb h0, cell_below hb h1, cell_below hb h2, cell_below hb h3, hc, reads_of_C hr⟩
end Go.Proofs.Ytdfjacpfmjgfiaa
