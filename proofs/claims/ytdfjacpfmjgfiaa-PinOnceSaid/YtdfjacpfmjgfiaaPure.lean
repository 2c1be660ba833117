/-
  Layer 17: handles and what they pin, in plain Lean.
-/
namespace Go.Proofs.Ytdfjacpfmjgfiaa
set_option linter.unusedVariables false
abbrev HL := List (Int × List Int)
theorem pw_mem {α : Type} {R : α → α → Prop} (hs : ∀ x y, R x y → R y x) : ∀ {l : List α}, l.Pairwise R → ∀ {x y : α}, x ∈ l → y ∈ l → x ≠ y → R x y
  | [], _, _, _, hx, _, _ => by cases hx
  | a :: l, h, x, y, hx, hy, hne => by
    obtain ⟨h1, h2⟩ := List.pairwise_cons.1 h
    rcases List.mem_cons.1 hx with ex | hx2
    · rcases List.mem_cons.1 hy with ey | hy2
      · exact absurd (ex.trans ey.symm) hne
      · rw [ex]; exact h1 y hy2
    · rcases List.mem_cons.1 hy with ey | hy2
      · rw [ey]; exact hs _ _ (h1 x hx2)
      · exact pw_mem hs h2 hx2 hy2 hne
/-- A number put where it belongs. -/
def ins (l : List Int) (n : Int) : List Int := if l.contains n then l else l.take (l.countP (· < n)) ++ n :: l.drop (l.countP (· < n))
def Rises (l : List Int) : Prop := l.Pairwise (· < ·)
theorem rises_le {l : List Int} (h : Rises l) : l.Pairwise (· ≤ ·) := List.Pairwise.imp (fun h => by omega) h
theorem count_le : ∀ (l : List Int) (n : Int), l.countP (· < n) ≤ l.length := fun l n => List.countP_le_length
theorem split_rise : ∀ {l : List Int} (n : Int), Rises l → (∀ x ∈ l.take (l.countP (· < n)), x < n) ∧ ∀ x ∈ l.drop (l.countP (· < n)), n ≤ x
  | [], n, _ => ⟨by simp, by simp⟩
  | a :: l, n, h => by
    obtain ⟨h1, h2⟩ := List.pairwise_cons.1 h
    obtain ⟨i1, i2⟩ := split_rise n h2
    by_cases ha : a < n
    · rw [List.countP_cons_of_pos (by simpa using ha)]
      refine ⟨fun x hx => ?_, fun x hx => ?_⟩
      · rw [List.take_succ_cons] at hx
        rcases List.mem_cons.1 hx with rfl | hx
        · exact ha
        · exact i1 x hx
      · rw [List.drop_succ_cons] at hx
        exact i2 x hx
    · have hz : l.countP (· < n) = 0 := by
        rw [List.countP_eq_zero]
        intro x hx
        have := h1 x hx
        simp; omega
      rw [List.countP_cons_of_neg (by simpa using ha), hz]
      refine ⟨by simp, fun x hx => ?_⟩
      rw [List.drop_zero] at hx
      rcases List.mem_cons.1 hx with rfl | hx
      · omega
      · have := h1 x hx; omega
theorem mem_ins {l : List Int} {n x : Int} : x ∈ ins l n ↔ x = n ∨ x ∈ l := by
  unfold ins
  by_cases h : l.contains n = true
  · rw [if_pos h]
    refine ⟨.inr, fun h' => h'.elim (fun e => ?_) id⟩
    rw [e]; simpa using h
  · rw [if_neg h, List.mem_append, List.mem_cons]
    conv => rhs; rw [← List.take_append_drop (l.countP (· < n)) l, List.mem_append]
    constructor
    · rintro (h | h | h)
      · exact .inr (.inl h)
      · exact .inl h
      · exact .inr (.inr h)
    · rintro (h | h | h)
      · exact .inr (.inl h)
      · exact .inl h
      · exact .inr (.inr h)
theorem rises_ins {l : List Int} {n : Int} (h : Rises l) : Rises (ins l n) := by
  unfold ins
  by_cases hc : l.contains n = true
  · rw [if_pos hc]; exact h
  · rw [if_neg hc]
    have hn : n ∉ l := by simpa using hc
    obtain ⟨h1, h2⟩ := split_rise n h
    refine List.pairwise_append.2 ⟨List.Pairwise.sublist (List.take_sublist _ _) h, List.pairwise_cons.2 ⟨fun x hx => ?_, List.Pairwise.sublist (List.drop_sublist _ _) h⟩, fun x hx y hy => ?_⟩
    · have h3 := h2 x hx
      have : x ≠ n := fun e => hn (by rw [← e]; exact List.mem_of_mem_drop hx)
      omega
    · have h3 := h1 x hx
      rcases List.mem_cons.1 hy with rfl | hy
      · exact h3
      · have := h2 y hy; omega
theorem ins_len (l : List Int) (n : Int) : (ins l n).length ≤ l.length + 1 ∧ l.length ≤ (ins l n).length := by
  unfold ins
  split
  · omega
  · have := count_le l n
    rw [List.length_append, List.length_cons, List.length_take, List.length_drop]; omega
def Keyed' (hl : HL) : Prop := (hl.map (·.1)).Nodup
def getL (hl : HL) (k : Int) : Option (List Int) := (hl.find? fun x => x.1 == k).map (·.2)
def pinL (hl : HL) (k n : Int) : HL := hl.map fun x => if x.1 = k then (x.1, ins x.2 n) else x
def delL (hl : HL) (k : Int) : HL := hl.filter fun x => x.1 != k
def cnt (hl : HL) (n : Int) : Nat := hl.countP fun x => x.2.contains n
theorem getL_mem {hl : HL} {k : Int} {l : List Int} (h : getL hl k = some l) : (k, l) ∈ hl := by
  unfold getL at h
  obtain ⟨x, hx, rfl⟩ := Option.map_eq_some_iff.1 h
  have h1 := List.mem_of_find?_eq_some hx
  have h2 := List.find?_some hx
  have : x.1 = k := by simpa using h2
  rw [← this]; exact h1
theorem getL_none {hl : HL} {k : Int} : getL hl k = none ↔ ∀ x ∈ hl, x.1 ≠ k := by
  unfold getL
  rw [Option.map_eq_none_iff, List.find?_eq_none]
  constructor
  · intro h x hx e; exact h x hx (by simp [e])
  · intro h x hx e; exact h x hx (by simpa using e)
theorem split_key {hl : HL} {k : Int} {l : List Int} (hk : Keyed' hl) (hx : (k, l) ∈ hl) : ∃ A B, hl = A ++ (k, l) :: B ∧ (∀ y ∈ A, y.1 ≠ k) ∧ ∀ y ∈ B, y.1 ≠ k := by
  obtain ⟨A, B, rfl⟩ := List.append_of_mem hx
  refine ⟨A, B, rfl, ?_⟩
  unfold Keyed' at hk
  rw [List.map_append, List.map_cons] at hk
  obtain ⟨h1, h2, h3⟩ := List.nodup_append.1 hk
  obtain ⟨h4, h5⟩ := List.nodup_cons.1 h2
  refine ⟨fun y hy e => h3 y.1 (List.mem_map_of_mem hy) k (by simp) e, fun y hy e => (show k ∉ B.map (·.1) from h4) (by rw [← e]; exact List.mem_map_of_mem (f := fun x : Int × List Int => x.1) hy)⟩
theorem getL_of_mem {hl : HL} {k : Int} {l : List Int} (hk : Keyed' hl) (hx : (k, l) ∈ hl) : getL hl k = some l := by
  obtain ⟨A, B, rfl, h1, h2⟩ := split_key hk hx
  unfold getL
  rw [List.find?_append, List.find?_eq_none.2 (fun y hy e => h1 y hy (by simpa using e))]
  simp
theorem map_id_of {hl : HL} {k n : Int} (h : ∀ y ∈ hl, y.1 ≠ k) : pinL hl k n = hl := by
  unfold pinL
  conv => rhs; rw [← List.map_id hl]
  exact List.map_congr_left fun x hx => by rw [if_neg (h x hx)]; rfl
theorem pinL_split {A B : HL} {k n : Int} {l : List Int} (h1 : ∀ y ∈ A, y.1 ≠ k) (h2 : ∀ y ∈ B, y.1 ≠ k) : pinL (A ++ (k, l) :: B) k n = A ++ (k, ins l n) :: B := by
  have e1 := map_id_of (n := n) h1
  have e2 := map_id_of (n := n) h2
  unfold pinL at e1 e2 ⊢
  rw [List.map_append, List.map_cons, e1, e2, if_pos rfl]
theorem delL_split {A B : HL} {k : Int} {l : List Int} (h1 : ∀ y ∈ A, y.1 ≠ k) (h2 : ∀ y ∈ B, y.1 ≠ k) : delL (A ++ (k, l) :: B) k = A ++ B := by
  unfold delL
  rw [List.filter_append, List.filter_cons_of_neg (by simp), List.filter_eq_self.2 (fun y hy => by simpa using h1 y hy), List.filter_eq_self.2 (fun y hy => by simpa using h2 y hy)]
theorem pinL_keys (hl : HL) (k n : Int) : (pinL hl k n).map (·.1) = hl.map (·.1) := by
  unfold pinL
  rw [List.map_map]
  exact List.map_congr_left fun x _ => by simp only [Function.comp]; split <;> rfl
theorem pinL_none {hl : HL} {k n : Int} (h : getL hl k = none) : pinL hl k n = hl := map_id_of (getL_none.1 h)
theorem delL_none {hl : HL} {k : Int} (h : getL hl k = none) : delL hl k = hl := by
  unfold delL
  exact List.filter_eq_self.2 fun y hy => by simpa using getL_none.1 h y hy
theorem cnt_app (A B : HL) (n : Int) : cnt (A ++ B) n = cnt A n + cnt B n := List.countP_append
theorem cnt_cons (x : Int × List Int) (B : HL) (n : Int) : cnt (x :: B) n = cnt B n + if x.2.contains n then 1 else 0 := by
  unfold cnt; rw [List.countP_cons]
theorem cnt_le (hl : HL) (n : Int) : cnt hl n ≤ hl.length := List.countP_le_length
theorem contains_ins (l : List Int) (n m : Int) : (ins l n).contains m = (m == n || l.contains m) := by
  rw [Bool.eq_iff_iff]; simp [mem_ins]
theorem cnt_pin {hl : HL} {k n : Int} {l : List Int} (hk : Keyed' hl) (hx : getL hl k = some l) (hn : l.contains n = false) (m : Int) : cnt (pinL hl k n) m = if m = n then cnt hl n + 1 else cnt hl m := by
  obtain ⟨A, B, rfl, h1, h2⟩ := split_key hk (getL_mem hx)
  rw [pinL_split h1 h2, cnt_app, cnt_cons, cnt_app, cnt_cons, cnt_app, cnt_cons]
  simp only [contains_ins]
  by_cases hm : m = n
  · subst hm
    rw [hn]
    simp
    omega
  · have : (m == n) = false := by simpa using hm
    rw [this, if_neg hm, Bool.false_or]
theorem pin_same {hl : HL} {k n : Int} {l : List Int} (hk : Keyed' hl) (hx : getL hl k = some l) (hn : l.contains n = true) : pinL hl k n = hl := by
  obtain ⟨A, B, rfl, h1, h2⟩ := split_key hk (getL_mem hx)
  rw [pinL_split h1 h2]
  unfold ins
  rw [if_pos hn]
theorem cnt_del {hl : HL} {k : Int} {l : List Int} (hk : Keyed' hl) (hx : getL hl k = some l) (m : Int) : cnt hl m = cnt (delL hl k) m + if l.contains m then 1 else 0 := by
  obtain ⟨A, B, rfl, h1, h2⟩ := split_key hk (getL_mem hx)
  rw [delL_split h1 h2, cnt_app, cnt_cons, cnt_app]
  show cnt A m + (cnt B m + if l.contains m then 1 else 0) = _
  omega
/-- What a table's handles must be. -/
structure HOk (next : Int) (hl : HL) : Prop where
  keyed : Keyed' hl
  low : ∀ x ∈ hl, 1 ≤ x.1 ∧ x.1 < next
  rise : ∀ x ∈ hl, Rises x.2
theorem HOk.nil (n : Int) : HOk n [] := ⟨List.nodup_nil, (fun x h => by cases h), (fun x h => by cases h)⟩
theorem HOk.pin {next : Int} {hl : HL} (h : HOk next hl) (k n : Int) : HOk next (pinL hl k n) := by
  refine ⟨by unfold Keyed'; rw [pinL_keys]; exact h.keyed, fun x hx => ?_, fun x hx => ?_⟩
  · obtain ⟨y, hy, rfl⟩ := List.mem_map.1 hx
    have := h.low y hy
    split <;> exact this
  · obtain ⟨y, hy, rfl⟩ := List.mem_map.1 hx
    split
    · exact rises_ins (h.rise y hy)
    · exact h.rise y hy
theorem HOk.del {next : Int} {hl : HL} (h : HOk next hl) (k : Int) : HOk next (delL hl k) :=
  ⟨List.Nodup.sublist (List.Sublist.map _ List.filter_sublist) h.keyed, fun x hx => h.low x ((List.mem_filter.1 hx).1), fun x hx => h.rise x ((List.mem_filter.1 hx).1)⟩
theorem HOk.open {next : Int} {hl : HL} (h : HOk next hl) (h1 : 1 ≤ next) (l : List Int) (hl' : Rises l) : HOk (next + 1) (hl ++ [(next, l)]) := by
  refine ⟨?_, fun x hx => ?_, fun x hx => ?_⟩
  · unfold Keyed'
    rw [List.map_append]
    refine List.nodup_append.2 ⟨h.keyed, by simp, fun a ha b hb e => ?_⟩
    obtain ⟨y, hy, rfl⟩ := List.mem_map.1 ha
    simp at hb
    have := (h.low y hy).2
    omega
  · rcases List.mem_append.1 hx with hx | hx
    · have := h.low x hx; omega
    · obtain rfl := List.mem_singleton.1 hx
      exact ⟨h1, by show next < next + 1; omega⟩
  · rcases List.mem_append.1 hx with hx | hx
    · exact h.rise x hx
    · obtain rfl := List.mem_singleton.1 hx
      exact hl'
end Go.Proofs.Ytdfjacpfmjgfiaa
