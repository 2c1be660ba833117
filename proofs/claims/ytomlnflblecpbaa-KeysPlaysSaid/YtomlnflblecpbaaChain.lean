/-
  Appends one behind the other onto a row of the call's own: rows of one element stay (what is appended next, made beside it).
-/
import Derived.Test.YtomlnflblecpbaaOwn
import Derived.Deep.AppendSrc
namespace Go.Proofs.Ytomlnflblecpbaa
set_option linter.unusedVariables false
set_option linter.unusedSimpArgs false
open Go.RowKit
section
variable {P : Program}
/-- A row of one's own, or a slice of nothing: a row without elements is no block. -/
structure ChainE (W : World) (B : Nat) (e : TypeId) (size : Nat) (v : Value) (n : Nat) (xs : List Value) : Prop where
  own : OwnE W B e size v n xs
  zero : n = 0 → ∃ a, v = .slice a 0 0
theorem ChainE.nil {W : World} {B : Nat} {e : TypeId} {size : Nat} (a : Option Addr) : ChainE W B e size (.slice a 0 0) 0 [] := ⟨OwnE.nil a, fun _ => ⟨a, rfl⟩⟩
theorem ChainE.grows {W W' : World} {B : Nat} {e : TypeId} {size : Nat} {v : Value} {n : Nat} {xs : List Value} (h : ChainE W B e size v n xs) (hg : Grows W W') : ChainE W' B e size v n xs := ⟨h.own.grows hg, h.zero⟩
/-- What these appends do: blocks of the call's own, of this type, of two elements at least, alone turn. -/
def OneC (B : Nat) (e : TypeId) (size : Nat) (a b : World) : Prop :=
  KeepS (fun k => B ≤ k) a b ∧ ∀ (k : Nat) (cs : Array Value) (fr : Nat × Nat), a.heap[k]? = some (Obj.cells cs e fr) → cs.size < 2 * size → b.heap[k]? = a.heap[k]?
theorem oneC_phase (B : Nat) (e : TypeId) (size : Nat) : PhaseK Grows (OneC B e size) :=
  ⟨fun a => ⟨KeepS.refl _ _, fun _ _ _ _ _ => rfl⟩, fun h k => ⟨h.1.trans k.1, fun i cs fr hi hs => (k.2 i cs fr ((h.2 i cs fr hi hs).trans hi) hs).trans (h.2 i cs fr hi hs)⟩, fun h => ⟨KeepS.of_grows h, fun k cs fr hk _ => h.block k (Array.getElem?_eq_some_iff.1 hk).1⟩, fun a => (Below.refl a.heap.size a).drew⟩
theorem OneC.below {B : Nat} {e : TypeId} {size : Nat} {a b : World} (h : OneC B e size a b) (hB : B ≤ a.heap.size) : Below B a b := h.1.below hB fun _ h => h
theorem OneC.grows {e : TypeId} {size : Nat} {a b : World} (h : OneC a.heap.size e size a b) : Grows a b := h.below (Nat.le_refl _)
theorem append_chain {W : World} (B : Nat) (t ty e : TypeId) (i : TypeInfo) (z : Value) (size bytes : Nat) (ht : P.underlying t = some (.slice e)) (hi : P.info? e = some i) (hz : i.zero = some z)
    (hsize : i.size = size) (hby : i.bytes = bytes) (hzs : z.cells.size = size) (hsz : 0 < size) (v : Value) (n : Nat) (xs : List Value) (hown : ChainE W B e size v n xs) (hone : ∀ u ∈ xs, u.oneCell' = true)
    (A : Option Addr) (m c : Nat) (news : List Value) (hl : news.length = m * size) (hnews : 0 < m → ∃ a, A = some a ∧ ∀ j u, news[j]? = some u → W.cell? (a.add j) = some u) (h1 : ∀ u ∈ news, u.oneCell' = true)
    (h63 : n + m ≤ maxLen) (hbytes : (n + m) * bytes ≤ 140737488355328) (hbase : B ≤ W.heap.size) :
    ∃ v' w', (Builtin.append_ #[t, t] ty #[v, .slice A m c]).run P W = .ok v' w' ∧ ChainE w' B e size v' (n + m) (xs ++ news) ∧ OneC B e size W w' := by
  rcases Nat.eq_zero_or_pos m with hm | hm
  · subst hm
    have hn : news = [] := List.eq_nil_of_length_eq_zero (by simpa using hl)
    subst hn
    obtain ⟨A', c', rfl, hc⟩ := hown.own.slice
    refine ⟨.slice A' n c', W, ?_, ⟨by simpa using hown.own, by simpa using hown.zero⟩, (oneC_phase _ _ _).refl _⟩
    cases A with
    | none => cases A' <;> simp [Builtin.append_, run_underlying ht, sizeOf, typeInfo, hi, Builtin.lenOf, Builtin.firstCells, hc, storeCells]
    | some a => cases A' <;> simp [Builtin.append_, run_underlying ht, sizeOf, typeInfo, hi, Builtin.lenOf, Builtin.firstCells, hc, storeCells, loadCells, loadCellsFrom]
  · obtain ⟨a, rfl, hcell⟩ := hnews hm
    rcases Nat.eq_zero_or_pos n with hn | hn
    · subst hn
      obtain ⟨b, rfl⟩ := hown.zero rfl
      have hx : xs = [] := by
        rcases hown.own with ⟨_, _, _, h⟩ | h
        · exact h
        · exact List.eq_nil_of_length_eq_zero (by have := h.1; simpa using this)
      subst hx
      obtain ⟨v', w', hr, h2, h3, _⟩ := run_append_own_at (P := P) W B t ty e i z size bytes ht hi hz hsize hby hzs hsz (.slice none 0 0) 0 [] (World.ownsRow_nil _ _ _ _) a m c news hl hcell h1 h63 hbytes hbase
      refine ⟨v', w', ?_, ⟨.inr h2, fun h => by omega⟩, KeepS.of_grown h3 (fun k e => by cases e), fun k cs fr hk _ => h3.block k (Array.getElem?_eq_some_iff.1 hk).1 (fun e => by cases e)⟩
      cases b with
      | none => exact hr
      | some b => rw [run_append_zero t ty e i z ht hi hz b a m c hm (by rw [hby]; simpa using hbytes) (by simpa using h63)]; exact hr
    · rcases hown.own with ⟨_, _, h0, _⟩ | ho
      · omega
      · obtain ⟨v', w', hr, h2, h3, _⟩ := run_append_own_at (P := P) W B t ty e i z size bytes ht hi hz hsize hby hzs hsz v n xs ho a m c news hl hcell h1 h63 hbytes hbase
        refine ⟨v', w', hr, ⟨.inr h2, fun h => by omega⟩, KeepS.of_grown h3 fun k e => (ho.lt k e).1, fun k cs fr hk hs => ?_⟩
        rcases ho.2 with ⟨_, h0⟩ | ⟨b, cap, cur, rfl, hBb, hb, hc, hcm, hcs, hcur⟩
        · omega
        · by_cases hroom : n + m ≤ cap
          · refine h3.block k (Array.getElem?_eq_some_iff.1 hk).1 fun e => ?_
            have e2 : some k = some b := e
            injection e2 with e2
            subst e2
            rw [hb] at hk
            injection hk with hk
            injection hk with hk _
            rw [← hk, hcs] at hs
            have : 2 * size ≤ cap * size := Nat.mul_le_mul_right _ (by omega)
            omega
          · subst hsize
            have hsrc : Src P i.size t (.slice (some a) m c) m news W := Src.ofSlice W ht a m c news hl hcell h1
            have hold : (Builtin.firstCells i.size n (.slice (some ⟨b, 0, none⟩) n cap)).run P W.drew = .ok xs.toArray W.drew := by
              refine run_firstCells_some (P := P) W.drew i.size n _ n cap xs ho.1 fun j u hu => ?_
              have hadd : (⟨b, 0, none⟩ : Addr).add j = ⟨b, j, none⟩ := by unfold Addr.add; split <;> simp_all
              show W.cell? _ = _
              rw [hadd, cell_of_row W b j cur e (0, 0) hb, ← Array.getElem?_toList]
              rw [← hcur, List.getElem?_take] at hu
              split at hu
              · exact hu
              · cases hu
            have hg := run_append_grow_src (P := P) (w := W) t t ty e i z ht hi hz (some ⟨b, 0, none⟩) n cap xs hold _ m news hsrc (by omega) (by simp only [maxLen] at h63; omega) (by rw [hby]; exact growslice_fits (by omega) hbytes)
            rw [hg] at hr
            injection hr with _ hw
            rw [← hw]
            exact Go.RowKit.Below.block ((Below.refl W.heap.size W).drew.alloc (Nat.le_refl _) _) k (Array.getElem?_eq_some_iff.1 hk).1
end
end Go.Proofs.Ytomlnflblecpbaa
