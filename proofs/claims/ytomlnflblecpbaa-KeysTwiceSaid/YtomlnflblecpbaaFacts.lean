/-
  Layer 13: what puts and dels do to each other; keys from one on.
-/
import Derived.Test.YtomlnflblecpbaaMap
namespace Go.Proofs.Ytomlnflblecpbaa
set_option linter.unusedVariables false
set_option linter.unusedSimpArgs false
theorem SortedM.nodup {m : List Pl} (h : SortedM m) : m.Nodup := by
  unfold SortedM at h
  exact h.imp fun h e => klt_ne h (congrArg Pl.key e)
theorem sorted_ext {m m' : List Pl} (h : SortedM m) (h' : SortedM m') (he : ∀ p, p ∈ m ↔ p ∈ m') : m = m' :=
  sorted_unique h h' ((List.perm_ext_iff_of_nodup h.nodup h'.nodup).2 he)
theorem del_put_ne {m : List Pl} (h : SortedM m) (p : Pl) (k : ByteArray) (hn : p.key ≠ k) : delM (putM m p) k = putM (delM m k) p :=
  sorted_ext ((h.put p).del k) ((h.del k).put p) fun q => by
    rw [mem_delM, mem_putM, mem_putM, mem_delM]
    constructor
    · rintro ⟨rfl | ⟨h1, h2⟩, h3⟩
      · exact .inl rfl
      · exact .inr ⟨⟨h1, h3⟩, h2⟩
    · rintro (rfl | ⟨⟨h1, h2⟩, h3⟩)
      · exact ⟨.inl rfl, hn⟩
      · exact ⟨.inr ⟨h1, h3⟩, h2⟩
theorem del_put_eq {m : List Pl} (h : SortedM m) (p : Pl) : delM (putM m p) p.key = delM m p.key :=
  sorted_ext ((h.put p).del _) (h.del _) fun q => by
    rw [mem_delM, mem_putM, mem_delM]
    constructor
    · rintro ⟨rfl | ⟨h1, h2⟩, h3⟩
      · exact absurd rfl h3
      · exact ⟨h1, h3⟩
    · rintro ⟨h1, h2⟩
      exact ⟨.inr ⟨h1, h2⟩, h2⟩
theorem del_comm (m : List Pl) (a b : ByteArray) : delM (delM m a) b = delM (delM m b) a := by
  unfold delM; rw [List.filter_filter, List.filter_filter]; congr 1; funext p; exact Bool.and_comm _ _
theorem put_len (m : List Pl) (p : Pl) : (putM m p).length = (delM m p.key).length + 1 := by unfold putM; rw [(insM_perm _ _).length_eq, List.length_cons]
theorem del_len_some {m : List Pl} (h : SortedM m) {k : ByteArray} {p : Pl} (hg : getM m k = some p) : (delM m k).length + 1 = m.length := by
  obtain ⟨h1, rfl⟩ := getM_mem hg
  have e : m = putM (delM m p.key) p := sorted_ext h ((h.del _).put p) fun q => by
    rw [mem_putM, mem_delM]
    constructor
    · intro hq
      by_cases e : q.key = p.key
      · have := getM_of h.keys hq
        rw [e, hg] at this
        exact .inl (Option.some.inj this).symm
      · exact .inr ⟨⟨hq, e⟩, e⟩
    · rintro (rfl | ⟨⟨h1, h2⟩, h3⟩)
      · exact h1
      · exact h1
  conv => rhs; rw [e]
  rw [put_len]
  unfold delM; rw [List.filter_filter]; simp
theorem put_len_some {m : List Pl} (h : SortedM m) {p q : Pl} (hg : getM m p.key = some q) : (putM m p).length = m.length := by rw [put_len, del_len_some h hg]
theorem put_len_none {m : List Pl} {p : Pl} (hg : getM m p.key = none) : (putM m p).length = m.length + 1 := by rw [put_len, del_absent hg]
theorem put_length_le (m : List Pl) (p : Pl) : (putM m p).length ≤ m.length + 1 := by rw [put_len]; have := List.length_filter_le (fun q : Pl => decide (q.key ≠ p.key)) m; unfold delM; omega
theorem del_length_le (m : List Pl) (k : ByteArray) : (delM m k).length ≤ m.length := List.length_filter_le _ m
theorem mem_keysM {m : List Pl} {k : ByteArray} : k ∈ keysM m ↔ (getM m k).isSome = true := by
  unfold keysM
  rw [List.mem_map]
  constructor
  · rintro ⟨p, hp, rfl⟩
    cases hg : getM m p.key with
    | none => exact absurd rfl (getM_none.1 hg p hp)
    | some q => rfl
  · intro h
    cases hg : getM m k with
    | none => rw [hg] at h; cases h
    | some q => exact ⟨q, getM_mem hg⟩
theorem keys_del (m : List Pl) (k : ByteArray) : keysM (delM m k) = (keysM m).filter fun x => decide (x ≠ k) := by
  unfold keysM delM; rw [List.filter_map]; rfl
/-! ### From a key on -/
theorem lt_zero (a b : List UInt8) : a < b ++ [0] ↔ a ≤ b := by
  induction a generalizing b with
  | nil => cases b <;> simp
  | cons x a ih => cases b with
    | nil => simp [List.cons_lt_cons_iff]
    | cons y b => simp only [List.cons_append, List.cons_lt_cons_iff, List.cons_le_cons_iff, ih]
def next0 (k : ByteArray) : ByteArray := ⟨k.data ++ #[0]⟩
theorem klt_next (x k : ByteArray) : klt x (next0 k) = !klt k x := by
  have h : klt x (next0 k) = true ↔ ¬ klt k x = true := by
    rw [klt_iff, klt_iff]
    show x.data.toList < (k.data ++ #[0]).toList ↔ _
    rw [Array.toList_append, lt_zero]
    exact List.not_lt.symm
  cases h1 : klt k x <;> simp_all
/-- What is told behind the last of what was told. -/
theorem from_next {l : List ByteArray} (h : l.Pairwise fun a b => klt a b = true) {k : ByteArray} {n : Nat} (hn : n < (fromK l k).length) :
    fromK l k = (fromK l k).take (n + 1) ++ fromK l (next0 (fromK l k)[n]) := by
  have hp : (fromK l k).Pairwise fun a b => klt a b = true := h.filter _
  conv => lhs; rw [← List.take_append_drop (n + 1) (fromK l k)]
  congr 1
  have e : fromK l (next0 (fromK l k)[n]) = fromK (fromK l k) (next0 (fromK l k)[n]) := by
    unfold fromK
    rw [List.filter_filter]
    refine List.filter_congr fun x hx => ?_
    rw [klt_next, Bool.not_not]
    have hk : klt (fromK l k)[n] k = false := by
      have := (List.mem_filter.1 (List.getElem_mem hn)).2
      simpa using this
    show klt (fromK l k)[n] x = (klt (fromK l k)[n] x && !klt x k)
    cases h1 : klt (fromK l k)[n] x with
    | false => rfl
    | true =>
      cases h2 : klt x k with
      | false => rfl
      | true => rw [klt_trans h1 h2] at hk; cases hk
  rw [e]
  generalize hL : fromK l k = L at hp hn
  rw [← from_drop hp]
  congr 1
  have : ∀ (L : List ByteArray) (n : Nat) (hn : n < L.length), L.Pairwise (fun a b => klt a b = true) → n + 1 = (L.takeWhile fun x => klt x (next0 L[n])).length := by
    intro L
    induction L with
    | nil => intro n hn _; simp at hn
    | cons a L ih =>
      intro n hn hp
      cases n with
      | zero =>
        rw [List.getElem_cons_zero, List.takeWhile_cons, klt_next, klt_irrefl]
        cases L with
        | nil => rfl
        | cons b L =>
          rw [List.takeWhile_cons, klt_next, (List.pairwise_cons.1 hp).1 b List.mem_cons_self]; rfl
      | succ n =>
        have hn' : n < L.length := by simpa using hn
        rw [List.getElem_cons_succ, List.takeWhile_cons, klt_next, klt_asymm ((List.pairwise_cons.1 hp).1 _ (List.getElem_mem hn'))]
        simp only [Bool.not_false, if_true, List.length_cons]
        rw [← ih n hn' hp.of_cons]
  exact this L n hn hp
end Go.Proofs.Ytomlnflblecpbaa
