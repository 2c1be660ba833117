/-
  Layer 13: a directory as a plain list of places, in the order of their keys.
-/
import Derived.Sort.Walk0
import Derived.Laws.Rows
namespace Go.Proofs.Ytomlnflblecpbaa
set_option linter.unusedVariables false
set_option linter.unusedSimpArgs false
/-- A place: five cells. -/
structure Pl where
  seg : Int
  kind : Int
  key : ByteArray
  at_ : Int
  size : Int
deriving DecidableEq
def Pl.vals (p : Pl) : List Value := [.int .i64 p.seg, .int .i64 p.kind, .string p.key, .int .i64 p.at_, .int .i64 p.size]
def zeroPl : Pl := ⟨0, 0, ByteArray.empty, 0, 0⟩
/-- One key ahead of another one. -/
def klt (a b : ByteArray) : Bool := Op.bytesLess a.toList b.toList
theorem klt_iff {a b : ByteArray} : klt a b = true ↔ a.data.toList < b.data.toList := by
  unfold klt; rw [ByteArray.toList_eq, ByteArray.toList_eq, bytesLess_eq, decide_eq_true_iff]
theorem klt_irrefl (a : ByteArray) : klt a a = false := by
  rw [Bool.eq_false_iff]; intro h; exact absurd (klt_iff.1 h) (List.lt_irrefl _)
theorem klt_trans {a b c : ByteArray} (h1 : klt a b = true) (h2 : klt b c = true) : klt a c = true := klt_iff.2 (List.lt_trans (klt_iff.1 h1) (klt_iff.1 h2))
theorem key_ext {a b : ByteArray} (h : a.data.toList = b.data.toList) : a = b := by
  cases a with | mk a => cases b with | mk b => exact congrArg ByteArray.mk (Array.toList_inj.1 h)
theorem klt_tri (a b : ByteArray) : klt a b = true ∨ a = b ∨ klt b a = true := by
  by_cases h : a.data.toList < b.data.toList
  · exact .inl (klt_iff.2 h)
  · by_cases h2 : b.data.toList < a.data.toList
    · exact .inr (.inr (klt_iff.2 h2))
    · exact .inr (.inl (key_ext (List.le_antisymm (List.not_lt.1 h2) (List.not_lt.1 h))))
theorem klt_ne {a b : ByteArray} (h : klt a b = true) : a ≠ b := fun e => by rw [e, klt_irrefl] at h; cases h
theorem klt_asymm {a b : ByteArray} (h : klt a b = true) : klt b a = false := by
  rw [Bool.eq_false_iff]; intro h2; exact absurd (klt_trans h h2) (by rw [klt_irrefl]; decide)
theorem klt_of_not {a b : ByteArray} (h : klt a b = false) (hne : a ≠ b) : klt b a = true := by
  rcases klt_tri a b with h1 | h1 | h1
  · rw [h] at h1; cases h1
  · exact absurd h1 hne
  · exact h1
def SortedM (m : List Pl) : Prop := m.Pairwise fun p q => klt p.key q.key = true
def getM (m : List Pl) (k : ByteArray) : Option Pl := m.find? fun p => decide (p.key = k)
def delM (m : List Pl) (k : ByteArray) : List Pl := m.filter fun p => decide (p.key ≠ k)
def insM (m : List Pl) (p : Pl) : List Pl := m.takeWhile (fun q => klt q.key p.key) ++ p :: m.dropWhile fun q => klt q.key p.key
def putM (m : List Pl) (p : Pl) : List Pl := insM (delM m p.key) p
theorem SortedM.keys {m : List Pl} (h : SortedM m) : (m.map (·.key)).Nodup := by
  rw [List.Nodup, List.pairwise_map]; exact h.imp fun h => klt_ne h
theorem SortedM.del {m : List Pl} (h : SortedM m) (k : ByteArray) : SortedM (delM m k) := List.Pairwise.filter _ h
theorem mem_delM {m : List Pl} {k : ByteArray} {p : Pl} : p ∈ delM m k ↔ p ∈ m ∧ p.key ≠ k := by unfold delM; rw [List.mem_filter, decide_eq_true_iff]
theorem insM_perm (m : List Pl) (p : Pl) : (insM m p).Perm (p :: m) := by
  unfold insM
  refine List.perm_middle.trans (List.Perm.cons _ ?_)
  rw [List.takeWhile_append_dropWhile]
theorem mem_insM {m : List Pl} {p q : Pl} : q ∈ insM m p ↔ q = p ∨ q ∈ m := by rw [(insM_perm m p).mem_iff, List.mem_cons]
theorem mem_putM {m : List Pl} {p q : Pl} : q ∈ putM m p ↔ q = p ∨ (q ∈ m ∧ q.key ≠ p.key) := by unfold putM; rw [mem_insM, mem_delM]
theorem takeWhile_all {α : Type} {f : α → Bool} : ∀ {l : List α} {x : α}, x ∈ l.takeWhile f → f x = true
  | a :: l, x, h => by
    rw [List.takeWhile_cons] at h
    split at h
    · rcases List.mem_cons.1 h with rfl | h
      · assumption
      · exact takeWhile_all h
    · cases h
theorem insM_sorted : ∀ {m : List Pl} {p : Pl}, SortedM m → (∀ q ∈ m, q.key ≠ p.key) → SortedM (insM m p)
  | [], p, h, hn => List.pairwise_singleton _ _
  | q :: m, p, h, hn => by
    have hq : ∀ {x : Pl}, x ∈ m → klt q.key x.key = true := fun {x} hx => (List.pairwise_cons.1 h).1 x hx
    cases hc : klt q.key p.key with
    | true =>
      have e : insM (q :: m) p = q :: insM m p := by unfold insM; rw [List.takeWhile_cons, if_pos hc, List.dropWhile_cons, if_pos hc]; rfl
      rw [e]
      refine List.pairwise_cons.2 ⟨fun x hx => ?_, insM_sorted h.of_cons fun x hx => hn x (List.mem_cons_of_mem _ hx)⟩
      rcases mem_insM.1 hx with rfl | hx
      · exact hc
      · exact hq hx
    | false =>
      have e : insM (q :: m) p = p :: q :: m := by unfold insM; rw [List.takeWhile_cons, if_neg (by rw [hc]; decide), List.dropWhile_cons, if_neg (by rw [hc]; decide)]; rfl
      rw [e]
      have hpq := klt_of_not hc (hn q List.mem_cons_self)
      refine List.pairwise_cons.2 ⟨fun x hx => ?_, h⟩
      rcases List.mem_cons.1 hx with rfl | hx
      · exact hpq
      · exact klt_trans hpq (hq hx)
theorem SortedM.put {m : List Pl} (h : SortedM m) (p : Pl) : SortedM (putM m p) := insM_sorted (h.del _) fun q hq => (mem_delM.1 hq).2
theorem getM_mem {m : List Pl} {k : ByteArray} {p : Pl} (h : getM m k = some p) : p ∈ m ∧ p.key = k :=
  ⟨List.mem_of_find?_eq_some h, by have := List.find?_some h; exact of_decide_eq_true this⟩
theorem getM_none {m : List Pl} {k : ByteArray} : getM m k = none ↔ ∀ p ∈ m, p.key ≠ k := by
  unfold getM; rw [List.find?_eq_none]; simp
theorem getM_cons (q : Pl) (m : List Pl) (k : ByteArray) : getM (q :: m) k = if q.key = k then some q else getM m k := by
  unfold getM; rw [List.find?_cons]; by_cases h : q.key = k <;> simp [h]
theorem getM_of : ∀ {m : List Pl} (h : (m.map (·.key)).Nodup) {p : Pl} (hp : p ∈ m), getM m p.key = some p
  | q :: m, h, p, hp => by
    rw [getM_cons]
    rw [List.map_cons, List.nodup_cons] at h
    rcases List.mem_cons.1 hp with rfl | hp
    · rw [if_pos rfl]
    · rw [if_neg fun e => h.1 (by rw [e]; exact List.mem_map.2 ⟨p, hp, rfl⟩)]
      exact getM_of h.2 hp
/-- What is told of a key hangs on the places alone, not on their order. -/
theorem getM_perm {m m' : List Pl} (hp : m.Perm m') (h : (m.map (·.key)).Nodup) (k : ByteArray) : getM m k = getM m' k := by
  have h' : (m'.map (·.key)).Nodup := (hp.map _).nodup_iff.1 h
  cases hg : getM m k with
  | none => exact (getM_none.2 fun p hp2 => getM_none.1 hg p (hp.mem_iff.2 hp2)).symm
  | some p =>
    obtain ⟨h1, rfl⟩ := getM_mem hg
    exact (getM_of h' (hp.mem_iff.1 h1)).symm
theorem get_put {m : List Pl} (h : SortedM m) (p : Pl) (k : ByteArray) : getM (putM m p) k = if p.key = k then some p else getM m k := by
  have hs := (h.put p).keys
  by_cases e : p.key = k
  · subst e; rw [if_pos rfl]; exact getM_of hs (mem_putM.2 (.inl rfl))
  · rw [if_neg e]
    cases hg : getM m k with
    | none => exact getM_none.2 fun q hq => (mem_putM.1 hq).elim (fun h => h ▸ e) fun h => getM_none.1 hg q h.1
    | some q =>
      obtain ⟨h1, rfl⟩ := getM_mem hg
      exact getM_of hs (mem_putM.2 (.inr ⟨h1, fun h => e h.symm⟩))
theorem get_del {m : List Pl} (h : SortedM m) (k' k : ByteArray) : getM (delM m k') k = if k' = k then none else getM m k := by
  have hs := (h.del k').keys
  by_cases e : k' = k
  · subst e; rw [if_pos rfl]; exact getM_none.2 fun q hq => (mem_delM.1 hq).2
  · rw [if_neg e]
    cases hg : getM m k with
    | none => exact getM_none.2 fun q hq => getM_none.1 hg q (mem_delM.1 hq).1
    | some q =>
      obtain ⟨h1, rfl⟩ := getM_mem hg
      exact getM_of hs (mem_delM.2 ⟨h1, fun h => e h.symm⟩)
theorem del_absent {m : List Pl} {k : ByteArray} (h : getM m k = none) : delM m k = m := by
  unfold delM; rw [List.filter_eq_self]; intro p hp; exact decide_eq_true (getM_none.1 h p hp)
/-- Sorted lists of the same places are the same. -/
theorem sorted_unique : ∀ {m m' : List Pl}, SortedM m → SortedM m' → m.Perm m' → m = m' := fun h h' hp =>
  hp.eq_of_pairwise (le := fun p q => p = q ∨ klt p.key q.key = true) (fun a b _ _ h1 h2 => by
    rcases h1 with h1 | h1
    · exact h1
    · rcases h2 with h2 | h2
      · exact h2.symm
      · rw [klt_asymm h1] at h2; cases h2) (h.imp fun h => .inr h) (h'.imp fun h => .inr h)
/-! ### Rows -/
/-- Rows of places: which row a key is of is told by f. -/
structure Rows (f : ByteArray → Nat) (rs : Nat → List Pl) : Prop where
  own : ∀ i, i < 64 → ∀ p ∈ rs i, f p.key = i
  keys : ∀ i, i < 64 → ((rs i).map (·.key)).Nodup
def allR (rs : Nat → List Pl) (n : Nat) : List Pl := (List.range n).flatMap rs
def setR (rs : Nat → List Pl) (i : Nat) (l : List Pl) : Nat → List Pl := fun j => if j = i then l else rs j
theorem allR_succ (rs : Nat → List Pl) (n : Nat) : allR rs (n + 1) = allR rs n ++ rs n := by unfold allR; rw [List.range_succ, List.flatMap_append]; simp
theorem mem_allR {rs : Nat → List Pl} {n : Nat} {p : Pl} : p ∈ allR rs n ↔ ∃ i, i < n ∧ p ∈ rs i := by
  unfold allR; rw [List.mem_flatMap]; simp
theorem allR_keys {f : ByteArray → Nat} {rs : Nat → List Pl} (h : Rows f rs) : ∀ {n : Nat}, n ≤ 64 → ((allR rs n).map (·.key)).Nodup
  | 0, _ => List.nodup_nil
  | n + 1, hn => by
    rw [allR_succ, List.map_append, List.nodup_append]
    refine ⟨allR_keys h (by omega), h.keys n (by omega), fun a ha b hb e => ?_⟩
    obtain ⟨p, hp, rfl⟩ := List.mem_map.1 ha
    obtain ⟨q, hq, rfl⟩ := List.mem_map.1 hb
    obtain ⟨i, hi, hp⟩ := mem_allR.1 hp
    have h1 := h.own i (by omega) p hp
    have h2 := h.own n (by omega) q hq
    rw [e, h2] at h1
    omega
theorem get_row {f : ByteArray → Nat} {rs : Nat → List Pl} (h : Rows f rs) (k : ByteArray) (hk : f k < 64) : getM (allR rs 64) k = getM (rs (f k)) k := by
  cases hg : getM (rs (f k)) k with
  | none =>
    refine getM_none.2 fun p hp e => ?_
    obtain ⟨i, hi, hp⟩ := mem_allR.1 hp
    have h1 := h.own i hi p hp
    rw [e] at h1; subst h1
    exact getM_none.1 hg p hp e
  | some p =>
    obtain ⟨h1, rfl⟩ := getM_mem hg
    exact getM_of (allR_keys h (Nat.le_refl _)) (mem_allR.2 ⟨_, hk, h1⟩)
theorem allR_set_lt (rs : Nat → List Pl) (i : Nat) (l : List Pl) : ∀ n, n ≤ i → allR (setR rs i l) n = allR rs n
  | 0, _ => rfl
  | n + 1, h => by rw [allR_succ, allR_succ, allR_set_lt rs i l n (by omega)]; unfold setR; rw [if_neg (by omega)]
theorem allR_split (rs : Nat → List Pl) (i : Nat) : ∀ n, i < n → ∃ B, allR rs n = allR rs i ++ rs i ++ B ∧ ∀ l, allR (setR rs i l) n = allR rs i ++ l ++ B
  | n + 1, h => by
    by_cases e : i = n
    · subst e
      refine ⟨[], by rw [allR_succ]; simp, fun l => ?_⟩
      rw [allR_succ, allR_set_lt _ _ _ _ (Nat.le_refl _)]
      unfold setR; simp
    · obtain ⟨B, h1, h2⟩ := allR_split rs i n (by omega)
      refine ⟨B ++ rs n, by rw [allR_succ, h1]; simp, fun l => ?_⟩
      rw [allR_succ, h2]
      unfold setR; rw [if_neg (by omega)]; simp
theorem Rows.set {f : ByteArray → Nat} {rs : Nat → List Pl} (h : Rows f rs) (i : Nat) (l : List Pl) (h1 : ∀ p ∈ l, f p.key = i) (h2 : (l.map (·.key)).Nodup) : Rows f (setR rs i l) := by
  constructor
  · intro j hj p hp
    unfold setR at hp
    by_cases e : j = i
    · rw [if_pos e] at hp; rw [e]; exact h1 p hp
    · rw [if_neg e] at hp; exact h.own j hj p hp
  · intro j hj
    unfold setR
    by_cases e : j = i
    · rw [if_pos e]; exact h2
    · rw [if_neg e]; exact h.keys j hj
/-- The rows hold a directory. -/
structure Rel (f : ByteArray → Nat) (rs : Nat → List Pl) (m : List Pl) : Prop where
  rows : Rows f rs
  perm : (allR rs 64).Perm m
  sorted : SortedM m
theorem Rel.nil (f : ByteArray → Nat) : Rel f (fun _ => []) [] := by
  refine ⟨⟨fun i _ p hp => (by cases hp), fun i _ => List.nodup_nil⟩, ?_, List.Pairwise.nil⟩
  have : allR (fun _ => []) 64 = [] := by unfold allR; rw [List.flatMap_eq_nil_iff]; intros; rfl
  rw [this]
theorem Rel.get {f : ByteArray → Nat} {rs : Nat → List Pl} {m : List Pl} (h : Rel f rs m) (k : ByteArray) (hk : f k < 64) : getM (rs (f k)) k = getM m k := by
  rw [← get_row h.rows k hk]; exact getM_perm h.perm (allR_keys h.rows (Nat.le_refl _)) k
theorem nodup_mid {A B : List Pl} {q : Pl} (h : ((A ++ q :: B).map (·.key)).Nodup) : ∀ x ∈ A ++ B, x.key ≠ q.key := by
  have h2 : ((q :: (A ++ B)).map (·.key)).Nodup := (List.perm_middle.map _).nodup_iff.1 h
  rw [List.map_cons, List.nodup_cons] at h2
  exact fun x hx e => h2.1 (by rw [← e]; exact List.mem_map.2 ⟨x, hx, rfl⟩)
theorem del_mid {A B : List Pl} {q : Pl} (h : ((A ++ q :: B).map (·.key)).Nodup) : delM (A ++ q :: B) q.key = A ++ B := by
  have hn := nodup_mid h
  unfold delM
  rw [List.filter_append, List.filter_cons, if_neg (by simp), ← List.filter_append, List.filter_eq_self]
  intro x hx; exact decide_eq_true (hn x hx)
theorem Rel.mid {f : ByteArray → Nat} {rs : Nat → List Pl} {m : List Pl} (h : Rel f rs m) {i : Nat} (hi : i < 64) {u v : List Pl} {q : Pl} (e : rs i = u ++ q :: v) :
    ∃ A B, ((A ++ u) ++ (v ++ B)).Perm (delM m q.key) ∧ ∀ l, allR (setR rs i l) 64 = A ++ l ++ B := by
  obtain ⟨B, h1, h2⟩ := allR_split rs i 64 hi
  have e2 : allR rs 64 = (allR rs i ++ u) ++ q :: (v ++ B) := by rw [h1, e]; simp
  have hp := h.perm
  rw [e2] at hp
  have hk : (((allR rs i ++ u) ++ q :: (v ++ B)).map (·.key)).Nodup := by rw [← e2]; exact allR_keys h.rows (Nat.le_refl _)
  have h3 : (delM (allR rs i ++ u ++ q :: (v ++ B)) q.key).Perm (delM m q.key) := hp.filter _
  rw [del_mid hk] at h3
  exact ⟨allR rs i, B, h3, h2⟩
theorem Rel.del {f : ByteArray → Nat} {rs : Nat → List Pl} {m : List Pl} (h : Rel f rs m) {i : Nat} (hi : i < 64) {u v : List Pl} {q : Pl} (e : rs i = u ++ q :: v) :
    Rel f (setR rs i (u ++ v)) (delM m q.key) := by
  obtain ⟨A, B, hp, hl⟩ := h.mid hi e
  refine ⟨h.rows.set i _ (fun p hp => h.rows.own i hi p (by rw [e]; rcases List.mem_append.1 hp with hp | hp <;> simp [hp])) ?_, ?_, h.sorted.del _⟩
  · have := h.rows.keys i hi
    rw [e] at this
    have h4 : ((q :: (u ++ v)).map (·.key)).Nodup := (List.perm_middle.map _).nodup_iff.1 this
    rw [List.map_cons, List.nodup_cons] at h4
    exact h4.2
  · rw [hl, show A ++ (u ++ v) ++ B = (A ++ u) ++ (v ++ B) by simp]; exact hp
theorem Rel.put_old {f : ByteArray → Nat} {rs : Nat → List Pl} {m : List Pl} (h : Rel f rs m) {i : Nat} (hi : i < 64) {u v : List Pl} {q : Pl} (e : rs i = u ++ q :: v) (p : Pl) (hq : q.key = p.key) :
    Rel f (setR rs i (u ++ p :: v)) (putM m p) := by
  obtain ⟨A, B, hp, hl⟩ := h.mid hi e
  refine ⟨h.rows.set i _ (fun x hx => ?_) ?_, ?_, h.sorted.put _⟩
  · have hown := h.rows.own i hi
    rw [e] at hown
    rcases List.mem_append.1 hx with hx | hx
    · exact hown x (by simp [hx])
    · rcases List.mem_cons.1 hx with rfl | hx
      · rw [← hq]; exact hown q (by simp)
      · exact hown x (by simp [hx])
  · have := h.rows.keys i hi
    rw [e] at this
    simpa [hq] using this
  · rw [hl, show A ++ (u ++ p :: v) ++ B = (A ++ u) ++ p :: (v ++ B) by simp]
    rw [hq] at hp
    exact List.perm_middle.trans ((hp.cons p).trans (insM_perm _ _).symm)
theorem Rel.put_new {f : ByteArray → Nat} {rs : Nat → List Pl} {m : List Pl} (h : Rel f rs m) (p : Pl) (hi : f p.key < 64) (hn : getM (rs (f p.key)) p.key = none) :
    Rel f (setR rs (f p.key) (rs (f p.key) ++ [p])) (putM m p) := by
  have hm : getM m p.key = none := by rw [← h.get _ hi]; exact hn
  obtain ⟨B, h1, h2⟩ := allR_split rs (f p.key) 64 hi
  refine ⟨h.rows.set _ _ (fun x hx => ?_) ?_, ?_, h.sorted.put _⟩
  · rcases List.mem_append.1 hx with hx | hx
    · exact h.rows.own _ hi x hx
    · rw [List.mem_singleton.1 hx]
  · rw [List.map_append, List.nodup_append]
    refine ⟨h.rows.keys _ hi, by simp, fun a ha b hb e => ?_⟩
    obtain ⟨x, hx, rfl⟩ := List.mem_map.1 ha
    simp at hb
    exact getM_none.1 hn x hx (e.trans hb)
  · rw [h2]
    have h3 : (allR rs (f p.key) ++ (rs (f p.key) ++ [p]) ++ B).Perm (p :: allR rs 64) := by
      rw [h1]
      have : allR rs (f p.key) ++ (rs (f p.key) ++ [p]) ++ B = (allR rs (f p.key) ++ rs (f p.key)) ++ p :: B := by simp
      rw [this]
      exact List.perm_middle
    refine h3.trans ((h.perm.cons p).trans ?_)
    unfold putM
    rw [del_absent hm]
    exact (insM_perm _ _).symm
/-! ### All keys, in order -/
def keysM (m : List Pl) : List ByteArray := m.map (·.key)
theorem keysM_sorted {m : List Pl} (h : SortedM m) : (keysM m).Pairwise fun a b => klt a b = true := by unfold keysM; rw [List.pairwise_map]; exact h
theorem sort_keys {f : ByteArray → Nat} {rs : Nat → List Pl} {m : List Pl} (h : Rel f rs m) :
    ((((allR rs 64).map (·.key)).map fun k => k.data.toList).mergeSort fun x y => decide (x ≤ y)) = (keysM m).map fun k => k.data.toList := by
  have hp : (((allR rs 64).map (·.key)).map fun k => k.data.toList).Perm ((keysM m).map fun k => k.data.toList) := (h.perm.map _).map _
  refine ((List.mergeSort_perm _ _).trans hp).eq_of_pairwise (le := fun x y => x ≤ y) (fun a b _ _ h1 h2 => List.le_antisymm h1 h2) ?_ ?_
  · have := List.pairwise_mergeSort (le := fun x y : List UInt8 => decide (x ≤ y)) (fun a b c h1 h2 => decide_eq_true (List.le_trans (of_decide_eq_true h1) (of_decide_eq_true h2))) (fun a b => by rcases List.le_total a b with h | h <;> simp [h]) (((allR rs 64).map (·.key)).map fun k => k.data.toList)
    exact this.imp fun h => of_decide_eq_true h
  · rw [List.pairwise_map]
    exact (keysM_sorted h.sorted).imp fun h => List.le_of_lt (klt_iff.1 h)
/-- Keys from one on. -/
def fromK (l : List ByteArray) (k : ByteArray) : List ByteArray := l.filter fun x => !klt x k
theorem from_drop : ∀ {l : List ByteArray} (h : l.Pairwise fun a b => klt a b = true) (k : ByteArray), l.drop (l.takeWhile fun x => klt x k).length = fromK l k
  | [], _, _ => rfl
  | a :: l, h, k => by
    have ih := from_drop h.of_cons k
    unfold fromK at ih ⊢
    cases hc : klt a k with
    | true => rw [List.takeWhile_cons, if_pos hc, List.length_cons, List.drop_succ_cons, ih, List.filter_cons, hc]; rfl
    | false =>
      rw [List.takeWhile_cons, if_neg (by rw [hc]; decide), List.length_nil, List.drop_zero]
      refine (List.filter_eq_self.2 fun x hx => ?_).symm
      rcases List.mem_cons.1 hx with rfl | hx
      · rw [hc]; rfl
      · rw [Bool.not_eq_true']
        rw [Bool.eq_false_iff]; intro h2
        rw [klt_trans ((List.pairwise_cons.1 h).1 x hx) h2] at hc; cases hc
theorem takeWhile_le {α : Type} (f : α → Bool) (l : List α) : (l.takeWhile f).length ≤ l.length := by
  conv => rhs; rw [← List.takeWhile_append_dropWhile (p := f) (l := l)]
  rw [List.length_append]; omega
end Go.Proofs.Ytomlnflblecpbaa

/-
  Layer 13: what puts and dels do to each other; keys from one on.
-/
namespace Go.Proofs.Ytomlnflblecpbaa
set_option linter.unusedVariables false
set_option linter.unusedSimpArgs false
theorem SortedM.nodup {m : List Pl} (h : SortedM m) : m.Nodup := by
  unfold SortedM at h
  exact h.imp fun h e => klt_ne h (congrArg Pl.key e)
theorem sorted_ext {m m' : List Pl} (h : SortedM m) (h' : SortedM m') (he : ∀ p, p ∈ m ↔ p ∈ m') : m = m' :=
  sorted_unique h h' ((List.perm_ext_iff_of_nodup h.nodup h'.nodup).2 he)
theorem del_put_ne {m : List Pl} (h : SortedM m) (p : Pl) (k : ByteArray) (hn : p.key ≠ k) : delM (putM m p) k = putM (delM m k) p :=
  sorted_ext ((h.put p).del k) ((h.del k).put p) fun q => by
    rw [mem_delM, mem_putM, mem_putM, mem_delM]
    constructor
    · rintro ⟨rfl | ⟨h1, h2⟩, h3⟩
      · exact .inl rfl
      · exact .inr ⟨⟨h1, h3⟩, h2⟩
    · rintro (rfl | ⟨⟨h1, h2⟩, h3⟩)
      · exact ⟨.inl rfl, hn⟩
      · exact ⟨.inr ⟨h1, h3⟩, h2⟩
theorem del_put_eq {m : List Pl} (h : SortedM m) (p : Pl) : delM (putM m p) p.key = delM m p.key :=
  sorted_ext ((h.put p).del _) (h.del _) fun q => by
    rw [mem_delM, mem_putM, mem_delM]
    constructor
    · rintro ⟨rfl | ⟨h1, h2⟩, h3⟩
      · exact absurd rfl h3
      · exact ⟨h1, h3⟩
    · rintro ⟨h1, h2⟩
      exact ⟨.inr ⟨h1, h2⟩, h2⟩
theorem del_comm (m : List Pl) (a b : ByteArray) : delM (delM m a) b = delM (delM m b) a := by
  unfold delM; rw [List.filter_filter, List.filter_filter]; congr 1; funext p; exact Bool.and_comm _ _
theorem put_len (m : List Pl) (p : Pl) : (putM m p).length = (delM m p.key).length + 1 := by unfold putM; rw [(insM_perm _ _).length_eq, List.length_cons]
theorem del_len_some {m : List Pl} (h : SortedM m) {k : ByteArray} {p : Pl} (hg : getM m k = some p) : (delM m k).length + 1 = m.length := by
  obtain ⟨h1, rfl⟩ := getM_mem hg
  have e : m = putM (delM m p.key) p := sorted_ext h ((h.del _).put p) fun q => by
    rw [mem_putM, mem_delM]
    constructor
    · intro hq
      by_cases e : q.key = p.key
      · have := getM_of h.keys hq
        rw [e, hg] at this
        exact .inl (Option.some.inj this).symm
      · exact .inr ⟨⟨hq, e⟩, e⟩
    · rintro (rfl | ⟨⟨h1, h2⟩, h3⟩)
      · exact h1
      · exact h1
  conv => rhs; rw [e]
  rw [put_len]
  unfold delM; rw [List.filter_filter]; simp
theorem put_len_some {m : List Pl} (h : SortedM m) {p q : Pl} (hg : getM m p.key = some q) : (putM m p).length = m.length := by rw [put_len, del_len_some h hg]
theorem put_len_none {m : List Pl} {p : Pl} (hg : getM m p.key = none) : (putM m p).length = m.length + 1 := by rw [put_len, del_absent hg]
theorem put_length_le (m : List Pl) (p : Pl) : (putM m p).length ≤ m.length + 1 := by rw [put_len]; have := List.length_filter_le (fun q : Pl => decide (q.key ≠ p.key)) m; unfold delM; omega
theorem del_length_le (m : List Pl) (k : ByteArray) : (delM m k).length ≤ m.length := List.length_filter_le _ m
theorem mem_keysM {m : List Pl} {k : ByteArray} : k ∈ keysM m ↔ (getM m k).isSome = true := by
  unfold keysM
  rw [List.mem_map]
  constructor
  · rintro ⟨p, hp, rfl⟩
    cases hg : getM m p.key with
    | none => exact absurd rfl (getM_none.1 hg p hp)
    | some q => rfl
  · intro h
    cases hg : getM m k with
    | none => rw [hg] at h; cases h
    | some q => exact ⟨q, getM_mem hg⟩
theorem keys_del (m : List Pl) (k : ByteArray) : keysM (delM m k) = (keysM m).filter fun x => decide (x ≠ k) := by
  unfold keysM delM; rw [List.filter_map]; rfl
/-! ### From a key on -/
theorem lt_zero (a b : List UInt8) : a < b ++ [0] ↔ a ≤ b := by
  induction a generalizing b with
  | nil => cases b <;> simp
  | cons x a ih => cases b with
    | nil => simp [List.cons_lt_cons_iff]
    | cons y b => simp only [List.cons_append, List.cons_lt_cons_iff, List.cons_le_cons_iff, ih]
def next0 (k : ByteArray) : ByteArray := ⟨k.data ++ #[0]⟩
theorem klt_next (x k : ByteArray) : klt x (next0 k) = !klt k x := by
  have h : klt x (next0 k) = true ↔ ¬ klt k x = true := by
    rw [klt_iff, klt_iff]
    show x.data.toList < (k.data ++ #[0]).toList ↔ _
    rw [Array.toList_append, lt_zero]
    exact List.not_lt.symm
  cases h1 : klt k x <;> simp_all
/-- What is told behind the last of what was told. -/
theorem from_next {l : List ByteArray} (h : l.Pairwise fun a b => klt a b = true) {k : ByteArray} {n : Nat} (hn : n < (fromK l k).length) :
    fromK l k = (fromK l k).take (n + 1) ++ fromK l (next0 (fromK l k)[n]) := by
  have hp : (fromK l k).Pairwise fun a b => klt a b = true := h.filter _
  conv => lhs; rw [← List.take_append_drop (n + 1) (fromK l k)]
  congr 1
  have e : fromK l (next0 (fromK l k)[n]) = fromK (fromK l k) (next0 (fromK l k)[n]) := by
    unfold fromK
    rw [List.filter_filter]
    refine List.filter_congr fun x hx => ?_
    rw [klt_next, Bool.not_not]
    have hk : klt (fromK l k)[n] k = false := by
      have := (List.mem_filter.1 (List.getElem_mem hn)).2
      simpa using this
    show klt (fromK l k)[n] x = (klt (fromK l k)[n] x && !klt x k)
    cases h1 : klt (fromK l k)[n] x with
    | false => rfl
    | true =>
      cases h2 : klt x k with
      | false => rfl
      | true => rw [klt_trans h1 h2] at hk; cases hk
  rw [e]
  generalize hL : fromK l k = L at hp hn
  rw [← from_drop hp]
  congr 1
  have : ∀ (L : List ByteArray) (n : Nat) (hn : n < L.length), L.Pairwise (fun a b => klt a b = true) → n + 1 = (L.takeWhile fun x => klt x (next0 L[n])).length := by
    intro L
    induction L with
    | nil => intro n hn _; simp at hn
    | cons a L ih =>
      intro n hn hp
      cases n with
      | zero =>
        rw [List.getElem_cons_zero, List.takeWhile_cons, klt_next, klt_irrefl]
        cases L with
        | nil => rfl
        | cons b L =>
          rw [List.takeWhile_cons, klt_next, (List.pairwise_cons.1 hp).1 b List.mem_cons_self]; rfl
      | succ n =>
        have hn' : n < L.length := by simpa using hn
        rw [List.getElem_cons_succ, List.takeWhile_cons, klt_next, klt_asymm ((List.pairwise_cons.1 hp).1 _ (List.getElem_mem hn'))]
        simp only [Bool.not_false, if_true, List.length_cons]
        rw [← ih n hn' hp.of_cons]
  exact this L n hn hp
end Go.Proofs.Ytomlnflblecpbaa
