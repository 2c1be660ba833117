/-
  append onto a row of the call's own, or onto a slice of nothing.
-/
import Derived.Test.YtomlnflblecpbaaPhase
import Derived.Maps.AppendAt
import Derived.Laws.OwnMore
namespace Go.Proofs.Ytomlnflblecpbaa
set_option linter.unusedVariables false
set_option linter.unusedSimpArgs false
open Go.RowKit
section
variable {P : Program}
/-- A slice of nothing, wherever it points, or a row of the call's own. -/
def OwnE (W : World) (B : Nat) (e : TypeId) (size : Nat) (v : Value) (n : Nat) (xs : List Value) : Prop := (∃ a, v = .slice a 0 0 ∧ n = 0 ∧ xs = []) ∨ W.ownsRow B e size v n xs
theorem OwnE.of {W : World} {B : Nat} {e : TypeId} {size : Nat} {v : Value} {n : Nat} {xs : List Value} (h : W.ownsRow B e size v n xs) : OwnE W B e size v n xs := .inr h
theorem OwnE.nil {W : World} {B : Nat} {e : TypeId} {size : Nat} (a : Option Addr) : OwnE W B e size (.slice a 0 0) 0 [] := .inl ⟨a, rfl, rfl, rfl⟩
theorem OwnE.slice {W : World} {B : Nat} {e : TypeId} {size : Nat} {v : Value} {n : Nat} {xs : List Value} (h : OwnE W B e size v n xs) : ∃ A c, v = .slice A n c ∧ n ≤ c := by
  rcases h with ⟨a, rfl, rfl, _⟩ | h
  · exact ⟨a, 0, rfl, Nat.le_refl _⟩
  · rcases h.2 with ⟨e, h0⟩ | ⟨g, cap, cur, e, _, _, h3, _⟩
    · exact ⟨none, 0, by rw [e, h0], by omega⟩
    · exact ⟨_, cap, e, h3⟩
/-- The row's cells. -/
theorem OwnE.cells {W : World} {B : Nat} {e : TypeId} {size : Nat} {A : Option Addr} {n c : Nat} {xs : List Value} (h : OwnE W B e size (.slice A n c) n xs) : ∀ j u, xs[j]? = some u → ∃ g, A = some ⟨g, 0, none⟩ ∧ B ≤ g ∧ g < W.heap.size ∧ W.cell? ⟨g, j, none⟩ = some u := by
  intro j u hu
  rcases h with ⟨a, _, _, rfl⟩ | h
  · simp at hu
  · rcases h.2 with ⟨e, h0⟩ | ⟨g, cap, cur, e, h1, h2, h3, h4, h5, h6⟩
    · have := h.1
      rw [h0, Nat.zero_mul] at this
      rw [List.eq_nil_of_length_eq_zero this] at hu
      simp at hu
    · injection e with e1 e2 e3
      refine ⟨g, e1, h1, (Array.getElem?_eq_some_iff.1 h2).1, ?_⟩
      rw [cell_of_row W g j cur _ (0, 0) h2]
      have hj : j < xs.length := by
        rcases Nat.lt_or_ge j xs.length with h | h
        · exact h
        · rw [List.getElem?_eq_none h] at hu; cases hu
      have : (cur.toList.take (n * size))[j]? = some u := by rw [h6]; exact hu
      rw [List.getElem?_take, if_pos (by rw [← h.1]; exact hj), Array.getElem?_toList] at this
      exact this
/-- What stands in the row's block stays. -/
theorem OwnE.keep {W W' : World} {B : Nat} {e : TypeId} {size : Nat} {v : Value} {n : Nat} {xs : List Value} (h : OwnE W B e size v n xs) (hk : ∀ (g : Nat) (cs : Array Value), B ≤ g → W.heap[g]? = some (.cells cs e (0, 0)) → W'.heap[g]? = some (.cells cs e (0, 0))) : OwnE W' B e size v n xs := by
  rcases h with h | h
  · exact .inl h
  · rcases h.2 with h0 | ⟨g, cap, cur, e1, h1, h2, h3⟩
    · exact .inr ⟨h.1, .inl h0⟩
    · exact .inr ⟨h.1, .inr ⟨g, cap, cur, e1, h1, hk g cur h1 h2, h3⟩⟩
theorem OwnE.grows {W W' : World} {B : Nat} {e : TypeId} {size : Nat} {v : Value} {n : Nat} {xs : List Value} (h : OwnE W B e size v n xs) (hg : Grows W W') : OwnE W' B e size v n xs :=
  h.keep fun g cs _ hc => (hg.block g (Array.getElem?_eq_some_iff.1 hc).1).trans hc
theorem run_append_zero {w : World} (t ty e : TypeId) (i : TypeInfo) (z : Value) (ht : P.underlying t = some (.slice e)) (hi : P.info? e = some i) (hz : i.zero = some z) (b : Addr) (a : Addr) (m c : Nat) (hm : 0 < m) (hb : m * i.bytes ≤ 140737488355328) (hbm : m ≤ maxLen) :
    (Builtin.append_ #[t, t] ty #[.slice (some b) 0 0, .slice (some a) m c]).run P w = (Builtin.append_ #[t, t] ty #[.slice none 0 0, .slice (some a) m c]).run P w := by
  have h1 : ¬ m ≤ 0 := by omega
  have h1' : ¬ m = 0 := by omega
  have h2 : Builtin.nextslicecap m 0 = m := by simp [Builtin.nextslicecap]; intro h; omega
  simp only [maxLen] at hbm
  have h3 : ¬ (2 ^ 48 < m * i.bytes) := by omega
  have h3' : ¬ (281474976710656 < m * i.bytes) := by omega
  simp [Builtin.append_, run_underlying ht, sizeOf, typeInfo, hi, Builtin.lenOf, Builtin.firstCells, h1, h1', h2, loadCells, loadCellsFrom, h3, h3']
theorem own_type {W : World} {B : Nat} {e : TypeId} {size n k : Nat} {v : Value} {xs : List Value} (h : W.ownsRow B e size v n xs) (hk : v.ownBlock = some k) : ∃ cs, W.heap[k]? = some (.cells cs e (0, 0)) := by
  rcases h.2 with ⟨rfl, _⟩ | ⟨g, cap, cur, rfl, _, h2, _⟩
  · cases hk
  · simp only [Value.ownBlock] at hk
    injection hk with hk
    subst hk
    exact ⟨cur, h2⟩
theorem append_ownE {W : World} (B : Nat) (t ty e : TypeId) (i : TypeInfo) (z : Value) (size bytes : Nat) (ht : P.underlying t = some (.slice e)) (hi : P.info? e = some i) (hz : i.zero = some z)
    (hsize : i.size = size) (hby : i.bytes = bytes) (hzs : z.cells.size = size) (hsz : 0 < size) (v : Value) (n : Nat) (xs : List Value) (hown : OwnE W B e size v n xs)
    (A : Option Addr) (m c : Nat) (news : List Value) (hl : news.length = m * size) (hnews : 0 < m → ∃ a, A = some a ∧ ∀ j u, news[j]? = some u → W.cell? (a.add j) = some u) (h1 : ∀ u ∈ news, u.oneCell' = true)
    (h63 : n + m ≤ maxLen) (hbytes : (n + m) * bytes ≤ 140737488355328) (hbase : B ≤ W.heap.size) :
    ∃ v' w', (Builtin.append_ #[t, t] ty #[v, .slice A m c]).run P W = .ok v' w' ∧ OwnE w' B e size v' (n + m) (xs ++ news) ∧ KeepS (fun k => B ≤ k ∧ some k = v.ownBlock ∧ ∃ cs, W.heap[k]? = some (.cells cs e (0, 0))) W w' := by
  rcases Nat.eq_zero_or_pos m with hm | hm
  · subst hm
    have hn : news = [] := List.eq_nil_of_length_eq_zero (by simpa using hl)
    subst hn
    obtain ⟨A', c', rfl, hc⟩ := hown.slice
    refine ⟨.slice A' n c', W, ?_, by simpa using hown, KeepS.refl _ _⟩
    cases A with
    | none => cases A' <;> simp [Builtin.append_, run_underlying ht, sizeOf, typeInfo, hi, Builtin.lenOf, Builtin.firstCells, hc, storeCells]
    | some a => cases A' <;> simp [Builtin.append_, run_underlying ht, sizeOf, typeInfo, hi, Builtin.lenOf, Builtin.firstCells, hc, storeCells, loadCells, loadCellsFrom]
  · obtain ⟨a, rfl, hcell⟩ := hnews hm
    have key : ∀ v0, W.ownsRow B e size v0 n xs → ∃ v' w', (Builtin.append_ #[t, t] ty #[v0, .slice (some a) m c]).run P W = .ok v' w' ∧ OwnE w' B e size v' (n + m) (xs ++ news) ∧ KeepS (fun k => B ≤ k ∧ some k = v0.ownBlock ∧ ∃ cs, W.heap[k]? = some (.cells cs e (0, 0))) W w' := fun v0 ho => by
      obtain ⟨v', w', hr, h2, h3, _⟩ := run_append_own_at (P := P) W B t ty e i z size bytes ht hi hz hsize hby hzs hsz v0 n xs ho a m c news hl hcell h1 h63 hbytes hbase
      exact ⟨v', w', hr, .inr h2, KeepS.of_grown h3 fun k hk => ⟨(ho.lt k hk).1, hk.symm, own_type ho hk⟩⟩
    rcases hown with ⟨b, rfl, rfl, rfl⟩ | ho
    · obtain ⟨v', w', hr, h2, h3⟩ := key (.slice none 0 0) (World.ownsRow_nil _ _ _ _)
      cases b with
      | none => exact ⟨v', w', hr, h2, h3⟩
      | some b =>
        rw [← run_append_zero t ty e i z ht hi hz b a m c hm (by rw [hby]; simpa using hbytes) (by simpa using h63)] at hr
        exact ⟨v', w', hr, h2, h3.mono fun k _ e => absurd e.2.1 (by simp [Value.ownBlock])⟩
    · exact key v ho
/-- .. as an operation of a drawn region. -/
theorem growAt_append {o : Oper} {a : Act} {w : World} {R : Value → World → Prop} (s x : Operand) (t : TypeId) (ho : o.op = .call { callee := .builtin .append, args := #[s, x], argTypes := #[t, t] }) {v x' : Value} (hs : a.eval s = v) (hx : a.eval x = x')
    (h : ∃ v' w', (Builtin.append_ #[t, t] o.type #[v, x']).run P w = .ok v' w' ∧ R v' w') : growAt P o a w R := by
  obtain ⟨v', w', hr, h⟩ := h
  refine ⟨?_⟩
  unfold execOp
  simp only [ho, resolve, invoke, builtin, Sem.run_bind, Sem.run_pure, Result.andThen_ok, List.map_toArray, List.map_cons, List.map_nil, hs, hx, hr]
  exact h
theorem wpList_appendE {ops : Array Oper} {rest : List Oper} {o : Oper} {a : Act} {W : World} {Q : Exit → Act → World → Prop} (s x : Operand) (t : TypeId) (hgd : o.guard = none)
    (ho : o.op = .call { callee := .builtin .append, args := #[s, x], argTypes := #[t, t] }) {v x' : Value} (hs : a.eval s = v) (hx : a.eval x = x')
    (h : ∃ v' w', (Builtin.append_ #[t, t] o.type #[v, x']).run P W = .ok v' w' ∧ wpList P ops Q rest (a.put o.dst v') w') : wpList P ops Q (o :: rest) a W := by
  obtain ⟨v', w', hr, h⟩ := h
  refine wpList_plain hgd fun K hK => ?_
  unfold Oper.wp execOp
  simp only [ho, resolve, invoke, builtin, Sem.run_bind, Sem.run_pure, Result.andThen_ok, List.map_toArray, List.map_cons, List.map_nil, hs, hx, hr]
  exact hK _ _ h
end
end Go.Proofs.Ytomlnflblecpbaa
