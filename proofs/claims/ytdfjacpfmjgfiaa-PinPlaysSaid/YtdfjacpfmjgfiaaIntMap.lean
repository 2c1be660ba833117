/-
  A map whose keys are whole numbers, as a list of its entries: look-up, store, delete, len.
-/
import Derived.Test.YtdfjacpfmjgfiaaBase
import Derived.MapKept
namespace Go.Proofs.Ytdfjacpfmjgfiaa
set_option linter.unusedVariables false
set_option linter.unusedSimpArgs false
open Go.RowKit Go.Proofs.YtdfjacpfmjgfiaaW.PrintWords
abbrev Ents := List (Int × Value)
def alook : Ents → Int → Option Value
  | [], _ => none
  | (k', v) :: es, k => if k' = k then some v else alook es k
def aput : Ents → Int → Value → Ents
  | [], k, v => [(k, v)]
  | (k', v') :: es, k, v => if k' = k then (k, v) :: es else (k', v') :: aput es k v
def adel : Ents → Int → Ents
  | [], _ => []
  | (k', v') :: es, k => if k' = k then es else (k', v') :: adel es k
def pairM (e : MapEntry) : Value × Value := (e.key, e.val)
def pairE (p : Int × Value) : Value × Value := (.int .i64 p.1, p.2)
/-- Block B is a map of these entries. -/
def IMap (W : World) (B : Nat) (es : Ents) : Prop := ∃ (a : Array MapEntry) (clock : Nat), W.heap[B]? = some (.map a clock) ∧ a.toList.map pairM = es.map pairE
theorem IMap.keep {W W' : World} {B : Nat} {es : Ents} (h : IMap W B es) (hk : W'.heap[B]? = W.heap[B]?) : IMap W' B es := h.elim fun a h => h.elim fun c h => ⟨a, c, hk.trans h.1, h.2⟩
theorem IMap.lt {W : World} {B : Nat} {es : Ents} (h : IMap W B es) : B < W.heap.size := h.elim fun a h => h.elim fun c h => lt_heap h.1
theorem IMap.made {W : World} {B : Nat} {c : Nat} (h : W.heap[B]? = some (.map #[] c)) : IMap W B [] := ⟨_, _, h, rfl⟩
theorem int_inj {a b : Int} : Value.int .i64 a = Value.int .i64 b ↔ a = b := ⟨fun h => by injection h, fun h => by rw [h]⟩
theorem find_i (k : Int) : ∀ (es : Ents) (l : List MapEntry) (i : Nat), l.map pairM = es.map pairE →
    (alook es k = none ∧ Instr.findNow (.int .i64) (.int .i64 k) l i = some none) ∨
    ∃ j v e, alook es k = some v ∧ Instr.findNow (.int .i64) (.int .i64 k) l i = some (some (i + j, v)) ∧ l[j]? = some e ∧ e.key = .int .i64 k ∧
      (∀ u, (l.modify j fun e => { e with key := .int .i64 k, val := u }).map pairM = (aput es k u).map pairE) ∧ (l.eraseIdx j).map pairM = (adel es k).map pairE
  | [], [], i, h => .inl ⟨rfl, rfl⟩
  | [], _ :: _, i, h => by cases h
  | _ :: _, [], i, h => by cases h
  | (k', v) :: es, e :: l, i, h => by
    obtain ⟨h1, h2⟩ := List.cons.inj h
    obtain ⟨ek, ev⟩ := Prod.mk.inj h1
    have hkey : e.key = .int .i64 k' := ek
    have hval : e.val = v := ev
    obtain ⟨r, hr, hiff⟩ := Go.MapKept.sameNow_of_keys (d := .int .i64) (a := .int .i64 k) (b := e.key) rfl (by rw [hkey]; rfl)
    by_cases hk : k' = k
    · subst hk
      obtain rfl : r = true := hiff.2 hkey.symm
      refine .inr ⟨0, v, e, by rw [alook, if_pos rfl], by simp [Instr.findNow, hr, hval], rfl, hkey, fun u => ?_, ?_⟩
      · rw [aput, if_pos rfl]
        show pairM _ :: l.map pairM = pairE (k', u) :: es.map pairE
        rw [h2]; rfl
      · rw [adel, if_pos rfl]; exact h2
    · have hrf : r = false := by
        cases r with
        | false => rfl
        | true => exact absurd ((int_inj.1 ((hiff.1 rfl).trans hkey)).symm) hk
      subst hrf
      rcases find_i k es l (i + 1) h2 with ⟨h3, h4⟩ | ⟨j, v', e', h3, h4, h5, h6, h7, h8⟩
      · exact .inl ⟨by rw [alook, if_neg hk]; exact h3, by simp [Instr.findNow, hr, h4]⟩
      · refine .inr ⟨j + 1, v', e', by rw [alook, if_neg hk]; exact h3, by simp [Instr.findNow, hr, h4]; omega, by simpa using h5, h6, fun u => ?_, ?_⟩
        · rw [aput, if_neg hk]
          show pairM e :: (l.modify j _).map pairM = pairE (k', v) :: (aput es k u).map pairE
          rw [h7 u, show pairM e = pairE (k', v) from h1]
        · rw [adel, if_neg hk]
          show pairM e :: (l.eraseIdx j).map pairM = pairE (k', v) :: (adel es k).map pairE
          rw [h8, show pairM e = pairE (k', v) from h1]
section
variable {P : Program} {T K E : TypeId} {W : World} {B : Nat} {es : Ents}
theorem run_look_i (hT : P.underlying T = some (.map K E)) (hK : P.underlying K = some (.int .i64)) {z : Value} (hz : ∀ w, (zeroValue E).run P w = .ok z w) (h : IMap W B es) (k : Int) :
    (Instr.lookup T (.map (some B)) (.int .i64 k) false).run P W = .ok ((alook es k).getD z) W := by
  obtain ⟨a, c, hb, hm⟩ := h
  rcases find_i k es a.toList 0 hm with ⟨h1, h2⟩ | ⟨j, v, e, h1, h2, _⟩
  · simp [Instr.lookup, run_underlying hT, Go.MapKept.run_getObj_map hb, Go.MapKept.run_checkKey hK (show Go.MapKept.IsKey (.int .i64) (.int .i64 k) from rfl), Go.MapKept.run_findKey hK h2, Result.andThen, h1, hz]
  · simp [Instr.lookup, run_underlying hT, Go.MapKept.run_getObj_map hb, Go.MapKept.run_checkKey hK (show Go.MapKept.IsKey (.int .i64) (.int .i64 k) from rfl), Go.MapKept.run_findKey hK h2, Result.andThen, h1]
theorem run_lookok_i (hT : P.underlying T = some (.map K E)) (hK : P.underlying K = some (.int .i64)) {z : Value} (hz : ∀ w, (zeroValue E).run P w = .ok z w) (h : IMap W B es) (k : Int) :
    (Instr.lookup T (.map (some B)) (.int .i64 k) true).run P W = .ok (.tuple #[(alook es k).getD z, .bool (alook es k).isSome]) W := by
  obtain ⟨a, c, hb, hm⟩ := h
  rcases find_i k es a.toList 0 hm with ⟨h1, h2⟩ | ⟨j, v, e, h1, h2, _⟩
  · simp [Instr.lookup, run_underlying hT, Go.MapKept.run_getObj_map hb, Go.MapKept.run_checkKey hK (show Go.MapKept.IsKey (.int .i64) (.int .i64 k) from rfl), Go.MapKept.run_findKey hK h2, Result.andThen, h1, hz]
  · simp [Instr.lookup, run_underlying hT, Go.MapKept.run_getObj_map hb, Go.MapKept.run_checkKey hK (show Go.MapKept.IsKey (.int .i64) (.int .i64 k) from rfl), Go.MapKept.run_findKey hK h2, Result.andThen, h1]
theorem heap_put (W : World) (B : Nat) (o : Obj) (es' : Ents) (a : Array MapEntry) (c : Nat) (hb : ∃ o0, W.heap[B]? = some o0) (ho : o = .map a c) (hm : a.toList.map pairM = es'.map pairE) :
    IMap { W with heap := W.heap.setIfInBounds B o } B es' ∧ W.grownBy { W with heap := W.heap.setIfInBounds B o } (some B) := by
  obtain ⟨o0, hb⟩ := hb
  subst ho
  exact ⟨⟨a, c, (Go.MapKept.heap_set hb).1, hm⟩, rfl, rfl, rfl, by simp, fun i hi hne => (Go.MapKept.heap_set hb).2 i (fun e => hne (by rw [e]))⟩
theorem run_put_i (hT : P.underlying T = some (.map K E)) (hK : P.underlying K = some (.int .i64)) (h : IMap W B es) (k : Int) (u : Value) :
    ∃ W', (Instr.mapUpdate T (.map (some B)) (.int .i64 k) u).run P W = .ok () W' ∧ IMap W' B (aput es k u) ∧ W.grownBy W' (some B) := by
  obtain ⟨a, c, hb, hm⟩ := h
  have hk : Go.MapKept.IsKey (.int .i64) (.int .i64 k) := rfl
  rcases find_i k es a.toList 0 hm with ⟨h1, h2⟩ | ⟨j, v, e, h1, h2, h3, h4, h5, _⟩
  · have hput : (es.map pairE) ++ [pairE (k, u)] = (aput es k u).map pairE := by
      clear h2 hm
      induction es with
      | nil => rfl
      | cons p es ih =>
        obtain ⟨k', v'⟩ := p
        rw [alook] at h1
        split at h1
        · cases h1
        · rename_i hne
          rw [aput, if_neg hne, List.map_cons, List.map_cons, List.cons_append, ih h1]
    refine ⟨_, by simp [Instr.mapUpdate, run_underlying hT, Go.MapKept.run_getObj_map hb, Go.MapKept.run_checkKey hK hk, Go.MapKept.run_findKey hK h2, Go.MapKept.run_setObj_map _ hb, Result.andThen]; rfl, ?_⟩
    exact heap_put W B _ _ (a.push { key := .int .i64 k, val := u, born := c }) (c + 1) ⟨_, hb⟩ rfl (by rw [Array.toList_push, List.map_append, hm, ← hput]; rfl)
  · have hj : a[j]? = some e := by simpa using h3
    refine ⟨_, by simp [Instr.mapUpdate, run_underlying hT, Go.MapKept.run_getObj_map hb, Go.MapKept.run_checkKey hK hk, Go.MapKept.run_findKey hK h2, hj, h4, Go.MapKept.run_keyThatStays hk, Go.MapKept.run_setObj_map _ hb, Result.andThen]; rfl, ?_⟩
    exact heap_put W B _ _ (a.modify j fun e => { e with key := .int .i64 k, val := u }) c ⟨_, hb⟩ rfl (by rw [Array.toList_modify]; exact h5 u)
theorem run_del_i (hT : P.underlying T = some (.map K E)) (hK : P.underlying K = some (.int .i64)) (ty : TypeId) (h : IMap W B es) (k : Int) :
    ∃ W', (Builtin.delete_ #[T, K] ty #[.map (some B), .int .i64 k]).run P W = .ok (.tuple #[]) W' ∧ IMap W' B (adel es k) ∧ W.grownBy W' (some B) := by
  obtain ⟨a, c, hb, hm⟩ := h
  have hk : Go.MapKept.IsKey (.int .i64) (.int .i64 k) := rfl
  rcases find_i k es a.toList 0 hm with ⟨h1, h2⟩ | ⟨j, v, e, h1, h2, h3, h4, _, h6⟩
  · have hdel : adel es k = es := by
      clear h2 hm
      induction es with
      | nil => rfl
      | cons p es ih =>
        obtain ⟨k', v'⟩ := p
        rw [alook] at h1
        split at h1
        · cases h1
        · rename_i hne
          rw [adel, if_neg hne, ih h1]
    refine ⟨_, by simp [Builtin.delete_, run_underlying hT, Go.MapKept.run_getObj_map hb, Go.MapKept.run_checkKey hK hk, Go.MapKept.run_findKey hK h2, Go.MapKept.run_setObj_map _ hb, Result.andThen]; rfl, ?_⟩
    exact heap_put W B _ _ a c ⟨_, hb⟩ rfl (by rw [hdel]; exact hm)
  · have hlt : j < a.size := by have := (List.getElem?_eq_some_iff.1 h3).1; simpa using this
    refine ⟨_, by simp [Builtin.delete_, run_underlying hT, Go.MapKept.run_getObj_map hb, Go.MapKept.run_checkKey hK hk, Go.MapKept.run_findKey hK h2, Go.MapKept.run_setObj_map _ hb, Result.andThen]; rfl, ?_⟩
    exact heap_put W B _ _ (a.eraseIdxIfInBounds j) c ⟨_, hb⟩ rfl (by unfold Array.eraseIdxIfInBounds; rw [dif_pos hlt, Array.toList_eraseIdx]; exact h6)
theorem IMap.len (h : IMap W B es) : ∃ a c, W.heap[B]? = some (.map a c) ∧ a.size = es.length := by
  obtain ⟨a, c, hb, hm⟩ := h
  exact ⟨a, c, hb, by have := congrArg List.length hm; simpa using this⟩
end
end Go.Proofs.Ytdfjacpfmjgfiaa
