/-
  A law's argument of whatever kind, laid open: what is read at a type is a value of a kind, and no part of it is longer than memory bears.
-/
import Derived.Test.YtomlnflblecpbaaWWords
import Derived.Test.YtomlnflblecpbaaWeigh
import Derived.Deep.Slices
import Derived.ChangeSame
namespace Go.Proofs.Ytomlnflblecpbaa
set_option linter.unusedVariables false
set_option linter.unusedSimpArgs false
open Go.RowKit Go.Proofs.YtomlnflblecpbaaW.PrintWords

theorem mapM_get {α β : Type} (f : α → Option β) : ∀ (l : List α) (ys : List β), l.mapM f = some ys → ys.length = l.length ∧ ∀ (i : Nat) (x : α), l[i]? = some x → f x = ys[i]?
  | [], ys, h => by
    simp at h
    subst h
    exact ⟨rfl, fun i x hx => by simp at hx⟩
  | a :: l, ys, h => by
    rw [List.mapM_cons] at h
    obtain ⟨y, hy, h⟩ := Option.bind_eq_some_iff.1 h
    obtain ⟨zs, hz, h⟩ := Option.bind_eq_some_iff.1 h
    obtain rfl := Option.some.inj h
    obtain ⟨h1, h2⟩ := mapM_get f l zs hz
    refine ⟨by simp [h1], fun i x hx => ?_⟩
    cases i with
    | zero => obtain rfl := Option.some.inj hx; exact hy
    | succ i => exact h2 i x hx
theorem exists_list {α : Type} {p : Nat → α → Prop} : ∀ (n : Nat), (∀ i, i < n → ∃ x, p i x) → ∃ xs : List α, xs.length = n ∧ ∀ (i : Nat) (x : α), xs[i]? = some x → p i x
  | 0, _ => ⟨[], rfl, fun i x h => by simp at h⟩
  | n + 1, h => by
    obtain ⟨xs, hl, hx⟩ := exists_list n fun i hi => h i (by omega)
    obtain ⟨x, hp⟩ := h n (by omega)
    refine ⟨xs ++ [x], by simp [hl], fun i y hy => ?_⟩
    rcases Nat.lt_or_ge i xs.length with hi | hi
    · rw [List.getElem?_append_left hi] at hy; exact hx i y hy
    · rw [List.getElem?_append_right hi] at hy
      have e : i - xs.length = 0 := by
        rcases Nat.eq_zero_or_pos (i - xs.length) with h | h
        · exact h
        · rw [List.getElem?_eq_none (by simp; omega)] at hy; cases hy
      rw [e] at hy
      obtain rfl := Option.some.inj hy
      obtain rfl : i = n := by omega
      exact hp

section
variable {H : Type} (enc : TypeId × Value → H) (P : Program) (W : World)
structure Opener {α : Type} (t : TypeId) (d : Kd α) (Fit : α → Prop) : Prop where
  size : P.cellsOf t = d.sz
  opens : ∀ (fuel : Nat) (cs : List Value) (D : DataW H) (Pl : List MemPlace), DataW.trod enc P W 0 (fun _ => true) true fuel t cs = some (D, Pl) → (∀ n ∈ D.weights P t, n ≤ reachBytes) → ∃ a, d.K W a cs ∧ Fit a
structure OpenerF {α : Type} (fs : List Field) (off : Nat) (d : Kd α) (Fit : α → Prop) : Prop where
  opens : ∀ (fuel : Nat) (cs : List Value) (xs : List (DataW H × List MemPlace)), fs.mapM (fun f => DataW.trod enc P W 0 (fun _ => true) true fuel f.type ((cs.drop f.offset).take (P.cellsOf f.type))) = some xs → cs.length = off + d.sz →
    (∀ n ∈ DataW.weightsEach P (fs.map (·.type)) (xs.map (·.1)), n ≤ reachBytes) → ∃ a, d.K W a (cs.drop off) ∧ Fit a
end
section
variable {H : Type} {enc : TypeId × Value → H} {P : Program} {W : World}
theorem op_int {t : TypeId} {k : IntKind} (ht : P.underlying t = some (.int k)) (hc : P.cellsOf t = 1) : Opener enc P W t (Kd.int k) (fun n => (Lit.int k n).wf = true) := by
  refine ⟨hc, fun fuel cs D Pl h _ => ?_⟩
  cases fuel with
  | zero => simp [DataW.trod] at h
  | succ n =>
    unfold DataW.trod at h
    rw [ht] at h
    split at h <;> simp_all
    exact ⟨_, rfl, h.1.2⟩
theorem op_bool {t : TypeId} (ht : P.underlying t = some .bool) (hc : P.cellsOf t = 1) : Opener enc P W t Kd.bool (fun _ => True) := by
  refine ⟨hc, fun fuel cs D Pl h _ => ?_⟩
  cases fuel with
  | zero => simp [DataW.trod] at h
  | succ n =>
    unfold DataW.trod at h
    rw [ht] at h
    split at h <;> try (simp_all; done)
    exact ⟨_, rfl, trivial⟩
theorem op_string {t : TypeId} (ht : P.underlying t = some .string) (hc : P.cellsOf t = 1) : Opener enc P W t Kd.string (fun s => s.size ≤ reachBytes) := by
  refine ⟨hc, fun fuel cs D Pl h hw => ?_⟩
  cases fuel with
  | zero => simp [DataW.trod] at h
  | succ n =>
    unfold DataW.trod at h
    rw [ht] at h
    split at h <;> simp_all
    rename_i s
    obtain ⟨_, h, _⟩ := h
    refine ⟨s, rfl, ?_⟩
    have := hw s.data.toList.length (by rw [← h]; simp [DataW.weights])
    simpa using this
theorem op_slice {α : Type} {t e : TypeId} {d : Kd α} {Fit : α → Prop} (ht : P.underlying t = some (.slice e)) (hc : P.cellsOf t = 1) (ho : Opener enc P W e d Fit) : Opener enc P W t (Kd.slice e d) (fun xs => xs.length * P.bytesOf e ≤ reachBytes ∧ ∀ x ∈ xs, Fit x) := by
  refine ⟨hc, fun fuel cs D Pl h hw => ?_⟩
  rcases Go.Deep.open_slice ht h with ⟨rfl, _⟩ | ⟨a, len, cap, m, n, D', Pl', rfl, hb, hl, hm, hmm, hx, hel⟩
  · exact ⟨[], ⟨none, 0, rfl, Nat.le_refl _, rfl, Nat.zero_le _, fun h => absurd h (Nat.lt_irrefl 0)⟩, by simp, fun x hx => by simp at hx⟩
  · simp only [if_true] at hmm
    subst hmm
    injection hx with hx _
    subst hx
    obtain ⟨xs, hlen, hxs⟩ := exists_list (p := fun i x => ∃ cs', W.cells? 0 (a.add (i * P.cellsOf e)) (P.cellsOf e) = some cs' ∧ d.K W x cs' ∧ Fit x) len fun i hi => by
      obtain ⟨cs', h1, h2⟩ := hel i (by omega)
      obtain ⟨x, hK, hF⟩ := ho.opens _ _ _ _ h2 fun q hq => hw q (by
        simp only [DataW.weights, ht, List.mem_cons, List.mem_append]
        exact .inr (.inl (weights_all (List.mem_map.2 ⟨i, List.mem_range.2 hi, rfl⟩) q hq)))
      exact ⟨x, cs', h1, hK, hF⟩
    refine ⟨xs, ⟨some a, m, by rw [hlen], by omega, hlen ▸ rfl, by rw [hlen]; simp only [maxLen] at hm; omega, fun _ => ⟨a, rfl, fun j p hp => ?_⟩⟩, ?_, fun x hx => ?_⟩
    · obtain ⟨cs', h1, hK, _⟩ := hxs j p hp
      refine ⟨cs', d.K_len hK, hK, fun i u hu => ?_⟩
      unfold World.cells? at h1
      rw [if_pos (Nat.zero_le _)] at h1
      obtain ⟨hl2, hg⟩ := mapM_get _ _ _ h1
      have hi : i < P.cellsOf e := by
        rcases Nat.lt_or_ge i cs'.length with h | h
        · rw [hl2, List.length_range] at h; exact h
        · rw [List.getElem?_eq_none h] at hu; cases hu
      have := hg i i (List.getElem?_range hi)
      rw [hu, Addr.add_add] at this
      rw [← ho.size]
      exact this
    · have := hw _ (by simp only [DataW.weights, ht, List.mem_cons]; exact .inl rfl)
      simp only [List.length_map, List.length_range] at this
      rw [hlen]
      exact Nat.le_trans (Nat.mul_le_mul_right _ (by omega)) this
    · obtain ⟨i, hi, rfl⟩ := List.getElem_of_mem hx
      exact (hxs i _ (List.getElem?_eq_getElem hi)).elim fun _ h => h.2.2
theorem of_one {α : Type} {f : Field} {d : Kd α} {Fit : α → Prop} (ho : Opener enc P W f.type d Fit) : OpenerF enc P W [f] f.offset d Fit := by
  refine ⟨fun fuel cs xs h hl hw => ?_⟩
  rw [List.mapM_cons] at h
  obtain ⟨y, hy, h⟩ := Option.bind_eq_some_iff.1 h
  obtain ⟨zs, hz, h⟩ := Option.bind_eq_some_iff.1 h
  simp at hz
  subst hz
  obtain rfl := Option.some.inj h
  obtain ⟨a, hK, hF⟩ := ho.opens _ _ _ _ hy fun n hn => hw n (by simp [DataW.weightsEach, hn])
  rw [ho.size, List.take_of_length_le (by rw [List.length_drop]; omega)] at hK
  exact ⟨a, hK, hF⟩
theorem of_cons {α β : Type} {f : Field} {fs : List Field} {d : Kd α} {d2 : Kd β} {Fit : α → Prop} {Fit2 : β → Prop} (ho : Opener enc P W f.type d Fit) (hs : OpenerF enc P W fs (f.offset + d.sz) d2 Fit2) :
    OpenerF enc P W (f :: fs) f.offset (Kd.pair d d2) (fun x => Fit x.1 ∧ Fit2 x.2) := by
  refine ⟨fun fuel cs xs h hl hw => ?_⟩
  rw [List.mapM_cons] at h
  obtain ⟨y, hy, h⟩ := Option.bind_eq_some_iff.1 h
  obtain ⟨zs, hz, h⟩ := Option.bind_eq_some_iff.1 h
  obtain rfl := Option.some.inj h
  have hl' : cs.length = f.offset + (d.sz + d2.sz) := hl
  obtain ⟨a, hK, hF⟩ := ho.opens _ _ _ _ hy fun n hn => hw n (by simp [DataW.weightsEach, hn])
  obtain ⟨b, hK2, hF2⟩ := hs.opens fuel cs zs hz (by omega) fun n hn => hw n (by
    simp only [List.map_cons, DataW.weightsEach, List.mem_append]
    exact .inr hn)
  rw [ho.size] at hK
  refine ⟨(a, b), ⟨_, _, ?_, hK, hK2⟩, hF, hF2⟩
  rw [← List.drop_drop, List.take_append_drop]
theorem op_struct {α β : Type} {t : TypeId} {fs : Array Field} {d : Kd α} {Fit : α → Prop} (f : β → α) (g : α → β) (hfg : ∀ y, f (g y) = y) (ht : P.underlying t = some (.struct fs)) (hc : P.cellsOf t = d.sz) (ho : OpenerF enc P W fs.toList 0 d Fit) :
    Opener enc P W t (Kd.iso d f) (fun b => Fit (f b)) := by
  refine ⟨hc, fun fuel cs D Pl h hw => ?_⟩
  cases fuel with
  | zero => simp [DataW.trod] at h
  | succ n =>
    unfold DataW.trod at h
    rw [ht] at h
    have h' : (if cs.length = P.cellsOf t then ((fs.toList.mapM fun f => DataW.trod enc P W 0 (fun _ => true) true n f.type ((cs.drop f.offset).take (P.cellsOf f.type))).map fun xs => ((.agg (xs.map (·.1)) : DataW H), xs.flatMap (·.2))) else none) = some (D, Pl) := by
      split at h <;> simp_all
    split at h'
    · rename_i hl
      obtain ⟨xs, hxs, h2⟩ := Option.map_eq_some_iff.1 h'
      injection h2 with h2 _
      subst h2
      obtain ⟨a, hK, hF⟩ := ho.opens n cs xs hxs (by rw [hl, hc]; omega) fun q hq => hw q (by simpa [DataW.weights, ht] using hq)
      refine ⟨g a, ?_, by rw [hfg]; exact hF⟩
      show d.K W (f (g a)) cs
      rw [hfg]
      exact hK
    · cases h'
/-- A law's own argument. -/
theorem Opener.arg {α : Type} {t : TypeId} {d : Kd α} {Fit : α → Prop} (ho : Opener enc P W t d Fit) {ts : List TypeId} {ds : List (DataW H)} (h : (DataW.weightsEach P ts ds).all (· ≤ reachBytes) = true) {j : Nat} {D : DataW H} {v : Value} {ps : List MemPlace} (ht : ts[j]? = some t) (hd : ds[j]? = some D)
    (hv : DataW.Trod enc P W 0 (fun _ => true) true t v D ps) : ∃ a, d.K W a v.cells.toList ∧ Fit a := by
  obtain ⟨fuel, hf⟩ := hv
  refine ho.opens fuel _ _ _ hf fun n hn => ?_
  have := List.all_eq_true.1 h _ (DataW.weights_mem_each ht hd n hn)
  simpa using this
end
end Go.Proofs.Ytomlnflblecpbaa
