/-
  Regions that draw their order, make boxes, and fill them: new blocks of some types may turn, all else stays.
-/
import Derived.Test.YtemnhgmgffdncaaBase
import Derived.Laws.Tables
import Derived.Great.BuildSlice
namespace Go.Proofs.Ytemnhgmgffdncaa
set_option linter.unusedVariables false
set_option linter.unusedSimpArgs false
open Go.RowKit
/-- Blocks from B on of a type of T may turn; their type and their size stay. -/
structure KeepN (T : TypeId → Prop) (B : Nat) (w w' : World) : Prop where
  os : w'.os = w.os
  tape : w'.tape = w.tape
  output : w'.output = w.output
  size : w.heap.size ≤ w'.heap.size
  block : ∀ (k : Nat) (o : Obj), w.heap[k]? = some o → (k < B ∨ ∀ cs t, o = .cells cs t (0, 0) → ¬ T t) → w'.heap[k]? = some o
  kind : ∀ (k : Nat) (cs : Array Value) (t : TypeId), w.heap[k]? = some (.cells cs t (0, 0)) → ∃ cs', w'.heap[k]? = some (.cells cs' t (0, 0)) ∧ cs'.size = cs.size
section
variable {T : TypeId → Prop} {B : Nat}
theorem KeepN.of_grows {w w' : World} (h : Grows w w') : KeepN T B w w' :=
  ⟨h.os, h.tape, h.output, h.size, fun k o hk _ => (h.block k (lt_heap hk)).trans hk, fun k cs t hk => ⟨cs, (h.block k (lt_heap hk)).trans hk, rfl⟩⟩
theorem KeepN.refl (T : TypeId → Prop) (B : Nat) (w : World) : KeepN T B w w := KeepN.of_grows (Grows.refl w)
theorem KeepN.trans {a b c : World} (h : KeepN T B a b) (k : KeepN T B b c) : KeepN T B a c :=
  ⟨k.os.trans h.os, k.tape.trans h.tape, k.output.trans h.output, Nat.le_trans h.size k.size, fun i o hi hn => k.block i o (h.block i o hi hn) hn, fun i cs t hi => by
    obtain ⟨cs1, h1, e1⟩ := h.kind i cs t hi
    obtain ⟨cs2, h2, e2⟩ := k.kind i cs1 t h1
    exact ⟨cs2, h2, e2.trans e1⟩⟩
theorem keepN_phase (T : TypeId → Prop) (B : Nat) : PhaseK Grows (KeepN T B) := ⟨KeepN.refl T B, KeepN.trans, KeepN.of_grows, fun w => (Below.refl w.heap.size w).drew⟩
theorem KeepN.below {w w' : World} (h : KeepN T B w w') (hB : B ≤ w.heap.size) : Below B w w' :=
  ⟨h.os, h.tape, h.output, h.size, fun k hk => by
    have hk' : k < w.heap.size := by omega
    rw [h.block k _ (Array.getElem?_eq_getElem hk') (.inl hk), Array.getElem?_eq_getElem hk']⟩
theorem setRow_same {w : World} {g : Nat} {t : TypeId} {old : Array Value} (cells : Array Value) (hg : w.heap[g]? = some (.cells old t (0, 0))) : (w.setRow g cells).heap[g]? = some (.cells cells t (0, 0)) := by
  simp [World.setRow, Array.getElem?_modify, hg]
theorem setRow_other (w : World) (g : Nat) (cells : Array Value) {k : Nat} (h : k ≠ g) : (w.setRow g cells).heap[k]? = w.heap[k]? := by
  simp [World.setRow, Array.getElem?_modify, Ne.symm h]
theorem KeepN.setRow {w : World} {g : Nat} {t : TypeId} {old : Array Value} (cells : Array Value) (hg : w.heap[g]? = some (.cells old t (0, 0))) (hs : old.size = cells.size) (hB : B ≤ g) (hT : T t) : KeepN T B w (w.setRow g cells) := by
  refine ⟨rfl, rfl, rfl, by simp, fun k o hk hn => ?_, fun k cs t' hk => ?_⟩
  · by_cases hkg : k = g
    · subst hkg
      rw [hg] at hk
      injection hk with hk
      rcases hn with hn | hn
      · omega
      · exact absurd hT (hn _ _ hk.symm)
    · rw [setRow_other w g cells hkg]; exact hk
  · by_cases hkg : k = g
    · subst hkg
      rw [hg] at hk
      injection hk with hk
      injection hk with h1 h2
      subst h1 h2
      exact ⟨cells, setRow_same cells hg, hs.symm⟩
    · exact ⟨cs, by rw [setRow_other w g cells hkg]; exact hk, rfl⟩
/-- A box, made from B on, whatever it holds. -/
def Box (B : Nat) (t : TypeId) (n : Nat) (v : Value) (W : World) : Prop := ∃ q, v = .pointer (some ⟨q, 0, none⟩) ∧ B ≤ q ∧ ∃ cs, W.heap[q]? = some (.cells cs t (0, 0)) ∧ cs.size = n
/-- .. that holds this. -/
def Full (B : Nat) (t : TypeId) (cs : Array Value) (v : Value) (W : World) : Prop := ∃ q, v = .pointer (some ⟨q, 0, none⟩) ∧ B ≤ q ∧ W.heap[q]? = some (.cells cs t (0, 0))
theorem Box.alloc {W : World} (t : TypeId) (cs : Array Value) (hB : B ≤ W.heap.size) : Box B t cs.size (.pointer (some ⟨W.heap.size, 0, none⟩)) (W.alloc (.cells cs t)) := ⟨_, rfl, hB, cs, heap_alloc_new W _, rfl⟩
theorem Box.keep {t : TypeId} {n : Nat} {v : Value} {W W' : World} (h : Box B t n v W) (k : KeepN T B W W') : Box B t n v W' := by
  obtain ⟨q, e, hB, cs, hc, hs⟩ := h
  obtain ⟨cs', h', e'⟩ := k.kind q cs t hc
  exact ⟨q, e, hB, cs', h', e'.trans hs⟩
theorem Full.grows {t : TypeId} {cs : Array Value} {v : Value} {W W' : World} (h : Full B t cs v W) (k : Grows W W') : Full B t cs v W' := by
  obtain ⟨q, e, hB, hc⟩ := h
  exact ⟨q, e, hB, (k.block q (lt_heap hc)).trans hc⟩
theorem Full.setRow {W : World} {g : Nat} {t t' : TypeId} {old cs : Array Value} {v : Value} (h : Full B t' cs v W) (cells : Array Value) (hg : W.heap[g]? = some (.cells old t (0, 0))) (hne : t' ≠ t) : Full B t' cs v (W.setRow g cells) := by
  obtain ⟨q, e, hB, hc⟩ := h
  refine ⟨q, e, hB, ?_⟩
  rw [setRow_other W g cells (fun e2 => by subst e2; rw [hg] at hc; injection hc with hc; injection hc with _ hc; exact hne hc.symm)]
  exact hc
end
/-! ### One box alone: no other of its type is made -/
/-- Memory grows; no block of type t is new. -/
structure GrowsN (t : TypeId) (w w' : World) : Prop where
  grows : Grows w w'
  new : ∀ (k : Nat) (cs : Array Value), w.heap.size ≤ k → w'.heap[k]? ≠ some (.cells cs t (0, 0))
theorem GrowsN.same {t : TypeId} {w w' : World} (h : Grows w w') (hs : w'.heap.size = w.heap.size) : GrowsN t w w' :=
  ⟨h, fun k cs hk e => by have := lt_heap e; omega⟩
theorem GrowsN.refl (t : TypeId) (w : World) : GrowsN t w w := GrowsN.same (Grows.refl w) rfl
theorem growsN_phase (t : TypeId) (B : Nat) : PhaseK (GrowsN t) (KeepN (fun x => x = t) B) := ⟨KeepN.refl _ B, KeepN.trans, fun h => KeepN.of_grows h.grows, fun w => GrowsN.same ((Below.refl w.heap.size w).drew) rfl⟩
/-- No box of type t stands from B on. -/
def NoBox (B : Nat) (t : TypeId) (W : World) : Prop := B ≤ W.heap.size ∧ ∀ (k : Nat) (cs : Array Value), B ≤ k → W.heap[k]? ≠ some (.cells cs t (0, 0))
theorem NoBox.start (W : World) (t : TypeId) : NoBox W.heap.size t W := ⟨Nat.le_refl _, fun k cs hk e => by have := lt_heap e; omega⟩
theorem NoBox.grows {B : Nat} {t : TypeId} {W W' : World} (h : NoBox B t W) (k : GrowsN t W W') : NoBox B t W' :=
  ⟨Nat.le_trans h.1 k.grows.size, fun i cs hi e => by
    rcases Nat.lt_or_ge i W.heap.size with hlt | hge
    · exact h.2 i cs hi ((k.grows.block i hlt).symm.trans e)
    · exact k.new i cs hge e⟩
/-- One box of type t stands from B on, and holds this. -/
def OneBox (B : Nat) (t : TypeId) (cs : Array Value) (W : World) : Prop := ∃ q, B ≤ q ∧ W.heap[q]? = some (.cells cs t (0, 0)) ∧ ∀ (k : Nat) (cs' : Array Value), B ≤ k → W.heap[k]? = some (.cells cs' t (0, 0)) → k = q
theorem OneBox.grows {B : Nat} {t : TypeId} {cs : Array Value} {W W' : World} (h : OneBox B t cs W) (k : GrowsN t W W') : OneBox B t cs W' := by
  obtain ⟨q, hB, hc, ho⟩ := h
  refine ⟨q, hB, (k.grows.block q (lt_heap hc)).trans hc, fun i cs' hi e => ?_⟩
  rcases Nat.lt_or_ge i W.heap.size with hlt | hge
  · exact ho i cs' hi ((k.grows.block i hlt).symm.trans e)
  · exact absurd e (k.new i cs' hge)
theorem NoBox.alloc {B : Nat} {t : TypeId} {W : World} (h : NoBox B t W) (cs : Array Value) : OneBox B t cs (W.alloc (.cells cs t)) ∧ Box B t cs.size (.pointer (some ⟨W.heap.size, 0, none⟩)) (W.alloc (.cells cs t)) := by
  refine ⟨⟨W.heap.size, h.1, heap_alloc_new W _, fun k cs' hk e => ?_⟩, Box.alloc t cs h.1⟩
  rcases Nat.lt_trichotomy k W.heap.size with hlt | he | hgt
  · rw [((Below.refl W.heap.size W).alloc (Nat.le_refl _) (.cells cs t)).block k hlt] at e
    exact absurd e (h.2 k cs' hk)
  · exact he
  · have := lt_heap e
    have hs : (W.alloc (.cells cs t)).heap.size = W.heap.size + 1 := by show (W.heap.push _).size = _; simp
    omega
theorem OneBox.setRow {B q : Nat} {t : TypeId} {cs old : Array Value} {W : World} (h : OneBox B t cs W) (cells : Array Value) (hB : B ≤ q) (hq : W.heap[q]? = some (.cells old t (0, 0))) : OneBox B t cells (W.setRow q cells) := by
  obtain ⟨q', hB', hc, ho⟩ := h
  obtain rfl := ho q old hB hq
  refine ⟨q, hB, setRow_same cells hq, fun k cs' hk e => ?_⟩
  by_cases hkq : k = q
  · exact hkq
  · rw [setRow_other W q cells hkq] at e
    exact ho k cs' hk e
theorem OneBox.full {B n : Nat} {t : TypeId} {cs : Array Value} {v : Value} {W : World} (h : OneBox B t cs W) (hb : Box B t n v W) : Full B t cs v W := by
  obtain ⟨q, hB, hc, ho⟩ := h
  obtain ⟨q', e, hB', cs', hc', _⟩ := hb
  obtain rfl := ho q' cs' hB' hc'
  exact ⟨q', e, hB', hc⟩
section
variable {P : Program} {o : Oper} {a : Act} {w : World} {R : Value → World → Prop}
theorem growAt_store_row (ty : TypeId) (x y : Operand) (ho : o.op = .store ty x y) (g : Nat) (cells : Array Value) (hx : a.eval x = .pointer (some ⟨g, 0, none⟩)) (hy : a.eval y = .agg cells)
    (t : TypeId) (old : Array Value) (hg : w.heap[g]? = some (.cells old t (0, 0))) (hi : (P.info? ty).map (·.size) = some cells.size) (hold : old.size = cells.size) (h1 : cells.all (·.oneCell') = true)
    (h : R undef (w.setRow g cells)) : growAt P o a w R := by
  refine ⟨?_⟩
  unfold execOp
  simp only [ho, hx, hy, Instr.storeAt, Instr.sureAddr, Sem.run_bind, Sem.run_pure, Result.andThen_ok, run_storeVar_row w g t ty old cells hg hi hold h1]
  exact h
theorem growAt_store_one (ty : TypeId) (x y : Operand) (ho : o.op = .store ty x y) (g : Nat) (v : Value) (hx : a.eval x = .pointer (some ⟨g, 0, none⟩)) (hy : a.eval y = v)
    (t : TypeId) (old : Array Value) (hg : w.heap[g]? = some (.cells old t (0, 0))) (hi : (P.info? ty).map (·.size) = some 1) (hold : old.size = 1) (h1 : v.cells = #[v]) (h2 : v.oneCell' = true)
    (h : R undef (w.setRow g #[v])) : growAt P o a w R := by
  have hs := run_storeVar_row (P := P) w g t ty old #[v] hg hi hold (by simp [h2])
  have hc : (storeVar ty ⟨g, 0, none⟩ v).run P w = .ok () (w.setRow g #[v]) := by
    have e : (storeVar ty ⟨g, 0, none⟩ v) = (storeVar ty ⟨g, 0, none⟩ (.agg #[v])) := by
      unfold storeVar
      rw [h1]; rfl
    rw [e]; exact hs
  refine ⟨?_⟩
  unfold execOp
  simp only [ho, hx, hy, Instr.storeAt, Instr.sureAddr, Sem.run_bind, Sem.run_pure, Result.andThen_ok, hc]
  exact h
end
end Go.Proofs.Ytemnhgmgffdncaa
