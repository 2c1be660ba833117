/-
  Layer 6: pieces as they are read; a literal that is a string's bytes.
-/
import Derived.Test.YtoaokmlpeijepaaWrite
namespace Go.Proofs.Ytoaokmlpeijepaa
set_option linter.unusedVariables false
set_option linter.unusedSimpArgs false
open Go.RowKit Go.Proofs.YtoaokmlpeijepaaW.PrintWords

/-- What Write has handed out, as it lies. -/
structure PiecesAt (W : World) (n0 : Nat) (v : Value) (each : Nat) (L : List Int) (xs : List (Nat × Nat)) : Prop where
  row : W.ownsRow n0 29 1 v xs.length (xs.map (hdr each))
  piece : ∀ (j : Nat) (x : Nat × Nat), xs[j]? = some x → Piece W n0 x (chunk L each j)
  le : each * xs.length ≤ L.length
theorem PiecesAt.step {W W' : World} {n0 : Nat} {v : Value} {each : Nat} {L : List Int} {xs : List (Nat × Nat)} (h : PiecesAt W n0 v each L xs) {row : Option Nat} (hg : W.grownBy W' row)
    (hne : ∀ (k : Nat) (cs : Array Value) (t : TypeId), row = some k → W.heap[k]? = some (Obj.cells cs t (0, 0)) → t ≠ 5 ∧ t ≠ 29) : PiecesAt W' n0 v each L xs := by
  refine ⟨h.row.kept hg ?_, fun j x e => (h.piece j x e).step fun cs hc => (hg.block _ (lt_heap hc) (fun e2 => (hne _ _ _ e2.symm hc).1 rfl)).trans hc, h.le⟩
  cases hv : v.ownBlock with
  | none => exact .inl rfl
  | some k =>
    right
    intro e
    obtain ⟨cs, hcs⟩ := own_typed h.row k hv
    exact (hne k cs 29 e.symm hcs).2 rfl
theorem chunk_len {L : List Int} {each j n : Nat} (hj : j < n) (h : each * n ≤ L.length) : (chunk L each j).length = each := by
  unfold chunk
  rw [List.length_take, List.length_drop]
  have : each * (j + 1) ≤ each * n := Nat.mul_le_mul_left _ (by omega)
  rw [Nat.mul_succ] at this
  omega
theorem C_of_u8 {w : World} {A : Option Addr} {n : Nat} {xs : List Int} (h : ReadsInt w .u8 A n xs) : Kd.C (Kd.int .u8) w A n xs := by
  refine ⟨h.1, h.2.1, fun hn => ?_⟩
  obtain ⟨ad, e, hc⟩ := h.2.2 hn
  refine ⟨ad, e, fun j p hp => ⟨[.int .u8 p], rfl, rfl, fun t u hu => ?_⟩⟩
  have hj : j < xs.length := by
    rcases Nat.lt_or_ge j xs.length with h | h
    · exact h
    · rw [List.getElem?_eq_none h] at hp; cases hp
  cases t with
  | zero =>
    obtain rfl := Option.some.inj hu
    have := hc j (by rw [← h.1]; exact hj)
    rw [List.getD_eq_getElem?_getD, hp] at this
    rw [show j * (Kd.int .u8).sz + 0 = j by show j * 1 + 0 = j; omega]
    exact this
  | succ t => cases hu
/-- The pieces, as rows that are read. -/
theorem PiecesAt.reads {W : World} {n0 : Nat} {v : Value} {each : Nat} {L : List Int} {xs : List (Nat × Nat)} (h : PiecesAt W n0 v each L xs) (hm : L.length ≤ 140737488355328) (he : 1 ≤ each) :
    ∃ A c, v = .slice A xs.length c ∧ xs.length ≤ c ∧ Kd.C (Kd.slice 5 (Kd.int .u8)) W A ((List.range xs.length).map (chunk L each)).length ((List.range xs.length).map (chunk L each)) := by
  have hn : xs.length ≤ L.length := Nat.le_trans (Nat.le_mul_of_pos_left _ (by omega)) h.le
  rcases h.row.2 with ⟨rfl, h0⟩ | ⟨g, cap, cur, rfl, h1, h2, h3, h4, h5, h6⟩
  · rw [h0]; exact ⟨none, 0, rfl, Nat.le_refl _, rfl, Nat.zero_le _, fun h => absurd h (Nat.lt_irrefl 0)⟩
  · refine ⟨_, cap, rfl, h3, rfl, by simp; omega, fun _ => ⟨_, rfl, fun j p hp => ?_⟩⟩
    have hj : j < xs.length := by
      rcases Nat.lt_or_ge j xs.length with h | h
      · exact h
      · simp [List.getElem?_eq_none, h] at hp
    rw [List.getElem?_map, List.getElem?_range hj] at hp
    obtain rfl := Option.some.inj hp
    have hel : each ≤ L.length := Nat.le_trans (Nat.le_mul_of_pos_right each (by omega)) h.le
    have hl := chunk_len (L := L) (each := each) hj h.le
    have hpc := h.piece j xs[j] (List.getElem?_eq_getElem hj)
    have hle2 : (chunk L each j).length ≤ xs[j].2 := own_le hpc
    obtain ⟨_, hleft⟩ := Left.of_own hpc
    refine ⟨[hdr each xs[j]], rfl, ⟨_, xs[j].2, by rw [hl]; rfl, hle2, C_of_u8 (hleft.reads (by rw [hl]; omega))⟩, fun t u hu => ?_⟩
    cases t with
    | zero =>
      obtain rfl := Option.some.inj hu
      have hadd : (⟨g, 0, none⟩ : Addr).add (j * 1 + 0) = ⟨g, j, none⟩ := by unfold Addr.add; split <;> simp_all
      show W.cell? ((⟨g, 0, none⟩ : Addr).add (j * 1 + 0)) = _
      rw [hadd, cell_of_row W g j cur 29 (0, 0) h2]
      have : (cur.toList.take (xs.length * 1))[j]? = (xs.map (hdr each))[j]? := by rw [h6]
      rw [List.getElem?_take, if_pos (by omega), Array.getElem?_toList] at this
      rw [this, List.getElem?_map, List.getElem?_eq_getElem hj]; rfl
    | succ t => cases hu
/-- The mark of a constant string's bytes. -/
theorem wpList_mark {ops : Array Oper} {rest : List Oper} {o : Oper} {a : Act} {w : World} {Q : Exit → Act → World → Prop} (x : Operand) (hgd : Region.wanted o (yielded ops a.tmps) = true) (ho : o.op = .convert 29 29 x) (g n c : Nat) (C : Array Value) (hx : a.eval x = .slice (some ⟨g, 0, none⟩) n c)
    (hg : w.heap[g]? = some (.cells C 5 (0, 0)))
    (h : ∀ w1, w.grownBy w1 (some g) → (∃ fr, w1.heap[g]? = some (Obj.cells C 5 fr)) → wpList Try.prog ops Q rest (a.put o.dst (.slice (some ⟨g, 0, none⟩) n c)) w1) : wpList Try.prog ops Q (o :: rest) a w := by
  have hr : (convert 29 29 (.slice (some ⟨g, 0, none⟩) n c)).run Try.prog w = .ok (.slice (some ⟨g, 0, none⟩) n c) (w.freeze ⟨g, C.size, none⟩ 1) := by
    have hsh : w.shape? g = some (5, C.size) := by unfold World.shape?; rw [hg]
    simp [convert, run_underlying Try.underlying29, run_underlying Try.underlying5, markStringish, hsh]
  refine wpList_step fun K hK => ?_
  rw [if_pos hgd]
  unfold Oper.wp execOp
  simp only [ho, hx, Sem.run_bind, hr, Result.andThen_ok, Sem.run_pure]
  refine hK _ _ (h _ ?_ ?_)
  · unfold World.freeze
    split
    · exact World.grownBy.refl _ _
    · exact ⟨rfl, rfl, rfl, by simp, fun k hk hne => by simp only [Array.getElem?_modify]; rw [if_neg (fun e => hne (by rw [e]))]⟩
  · unfold World.freeze
    split
    · exact ⟨_, hg⟩
    · simp only [Array.getElem?_modify, if_true, hg, Option.map_some]
      exact ⟨_, rfl⟩
theorem lit_reads {W : World} {g : Nat} {xs : List Int} {fr : Nat × Nat} (hm : xs.length ≤ 9223372036854775807) (h : W.heap[g]? = some (Obj.cells (xs.map (Value.int .u8)).toArray 5 fr)) : ReadsInt W .u8 (some ⟨g, 0, none⟩) xs.length xs := by
  refine ⟨rfl, hm, fun _ => ⟨_, rfl, fun j hj => ?_⟩⟩
  have hadd : (⟨g, 0, none⟩ : Addr).add j = ⟨g, j, none⟩ := by unfold Addr.add; split <;> simp_all
  rw [hadd, cell_of_row W g j _ 5 fr h]
  simp [List.getD_eq_getElem?_getD, List.getElem?_eq_getElem hj]
end Go.Proofs.Ytoaokmlpeijepaa
