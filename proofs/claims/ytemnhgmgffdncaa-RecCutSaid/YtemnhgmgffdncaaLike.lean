/-
  Layer 4: of which kinds a record may be: plain lists.
-/
import Derived.Test.YtemnhgmgffdncaaGet
namespace Go.Proofs.Ytemnhgmgffdncaa
set_option linter.unusedVariables false
set_option linter.unusedSimpArgs false
open Go.RowKit Go.Proofs.YtemnhgmgffdncaaW.PrintWords Go.Proofs.YtemnhgmgffdncaaW.PrintMore
section
variable {kind : Int} {key : ByteArray} {id no size : Int} {ls : List Loc3} {nb : Nat}
theorem root_some (h : rootFineB key size ls = true) : ls.length ≠ 0 := by
  intro h0
  obtain rfl := List.length_eq_zero_iff.1 h0
  have f := rootFine_parts h
  have : (0 : Int) = size := Option.some.inj f.2.2.1
  omega
theorem bare_y (h : rightB kind key id no size ls nb = true) : rightB kind key id no (size + 1) ls nb = false := by
  rw [Bool.eq_false_iff]
  intro h'
  rcases right_kind h with rfl | rfl | rfl | rfl
  · have p := right1 h; have p' := right1 h'; omega
  · have p := right2 h; have p' := right2 h'
    have f := rootFine_parts p.2.2.2; have f' := rootFine_parts p'.2.2.2
    rw [f.2.2.1] at f'
    have := Option.some.inj f'.2.2.1
    omega
  · have p := right3 h; have p' := right3 h'; omega
  · have p := right4 h; have p' := right4 h'; omega
theorem bare_z (h : rightB kind key id no size ls nb = true) : rightB kind key (-1) no size ls nb = false := by
  rw [Bool.eq_false_iff]
  intro h'
  rcases right_kind h with rfl | rfl | rfl | rfl
  · have p' := right1 h'; omega
  · have p' := right2 h'; omega
  · have p' := right3 h'; omega
  · have p' := right4 h'; omega
theorem bare_34 (h : rightB 3 key id no size ls 0 = true) : rightB 4 key id no size ls 0 = true := by
  unfold rightB at h ⊢
  rw [if_neg (by decide), if_neg (by decide), if_pos rfl] at h
  rw [if_neg (by decide), if_neg (by decide), if_neg (by decide), if_pos rfl]
  simp only [Bool.and_eq_true] at h ⊢
  exact ⟨h.1, h.2.1, h.2.2.1⟩
theorem bare_43 (h : rightB 4 key id no size ls nb = true) : rightB 3 key id no size ls nb = true := by
  have p := right4 h
  obtain rfl : nb = 0 := p.2.2.2.2.1
  unfold rightB at h ⊢
  rw [if_neg (by decide), if_neg (by decide), if_neg (by decide), if_pos rfl] at h
  rw [if_neg (by decide), if_neg (by decide), if_pos rfl]
  simp only [Bool.and_eq_true] at h ⊢
  exact ⟨h.1, h.2.1, h.2.2, rfl⟩
theorem bare_no (h : rightB kind key id no size ls nb = true) {k : Int} (h1 : k ≠ kind) (h2 : ¬ (k = 4 ∧ kind = 3 ∧ nb = 0)) (h3 : ¬ (k = 3 ∧ kind = 4)) : rightB k key id no size ls nb = false := by
  rw [Bool.eq_false_iff]
  intro h'
  rcases right_kind h with rfl | rfl | rfl | rfl
  · have p := right1 h
    rcases right_kind h' with rfl | rfl | rfl | rfl
    · exact h1 rfl
    · have p' := right2 h'; have f := rootFine_parts p'.2.2.2; have := keyB_size f.1; omega
    · have p' := right3 h'; omega
    · have p' := right4 h'; omega
  · have p := right2 h
    have f := root_some p.2.2.2
    rcases right_kind h' with rfl | rfl | rfl | rfl
    · have p' := right1 h'; omega
    · exact h1 rfl
    · have p' := right3 h'; omega
    · have p' := right4 h'; omega
  · have p := right3 h
    rcases right_kind h' with rfl | rfl | rfl | rfl
    · have p' := right1 h'; omega
    · have p' := right2 h'; have := root_some p'.2.2.2; omega
    · exact h1 rfl
    · have p' := right4 h'; exact h2 ⟨rfl, rfl, p'.2.2.2.2.1⟩
  · have p := right4 h
    rcases right_kind h' with rfl | rfl | rfl | rfl
    · have p' := right1 h'; omega
    · have p' := right2 h'; have := root_some p'.2.2.2; omega
    · exact h3 ⟨rfl, rfl⟩
    · exact h1 rfl
theorem right_small (h : rightB kind key id no size ls nb = true) : 0 ≤ size ∧ size ≤ 65536 := by
  rcases right_kind h with rfl | rfl | rfl | rfl
  · have p := right1 h; omega
  · have p := right2 h; have f := rootFine_parts p.2.2.2; omega
  · have p := right3 h; omega
  · have p := right4 h; omega
end
section
variable {kind : Int} {key : ByteArray} {id no size : Int} {ls : List Loc3} {bs : List Int}
theorem take_more (xs : List Int) (n : Nat) (h : n < xs.length) : ∃ z, z ≠ [] ∧ xs.take n ++ z = xs := ⟨xs.drop n, fun e => by have := congrArg List.length e; rw [List.length_drop] at this; simp at this; omega, List.take_append_drop n xs⟩
theorem cut_root (hu : u8s bs) (h : rightB 2 key id no size ls bs.length = true) (n : Nat) (hn : n < (putF 2 key id no size ls bs).length) : getRec ((putF 2 key id no size ls bs).take n) = none := by
  cases hq : getRec ((putF 2 key id no size ls bs).take n) with
  | none => rfl
  | some y =>
    obtain ⟨k2, key2, id2, no2, size2, ls2, b2⟩ := y
    have hp := put_get (u8s_take (put_u8s hu h) n) hq
    obtain ⟨z, hz, he⟩ := take_more _ n hn
    obtain ⟨⟨ys, hy⟩, _⟩ := put_shape h
    obtain ⟨⟨ys2, hy2⟩, _⟩ := put_shape hp.1
    have hk : k2 = 2 := by
      have e := he
      rw [← hp.2, hy2, hy] at e
      exact (List.cons.inj e).1
    subst hk
    have g1 := get_root hp.1 z
    rw [hp.2, he, if_neg hz, get_put h] at g1
    cases g1
theorem more_root (h : rightB 2 key id no size ls bs.length = true) (m : Int) : getRec (putF 2 key id no size ls bs ++ [m]) = none := by
  rw [get_root h [m], if_neg (by simp)]
theorem kind_of_get {xs ys : List Int} (hu : u8s (kind :: xs)) {k2 : Int} {key2 : ByteArray} {id2 no2 size2 : Int} {ls2 : List Loc3} {b2 : List Int} (h : getRec (kind :: xs) = some (k2, (key2, id2, no2, size2, ls2, b2))) : k2 = kind := by
  have hp := put_get hu h
  obtain ⟨⟨ys2, hy2⟩, _⟩ := put_shape hp.1
  rw [hy2] at hp
  exact (List.cons.inj hp.2).1
theorem split_len {a b c d : List Int} (h : a ++ b = c ++ d) (hl : a.length = c.length) : a = c ∧ b = d := List.append_inj h hl
/-- What is got of less bytes. -/
theorem cut_some (hu : u8s bs) (h : rightB kind key id no size ls bs.length = true) (hk : kind ≠ 2) (n : Nat) {k2 : Int} {key2 : ByteArray} {id2 no2 size2 : Int} {ls2 : List Loc3} {b2 : List Int} (hq : getRec ((putF kind key id no size ls bs).take n) = some (k2, (key2, id2, no2, size2, ls2, b2))) :
    k2 = kind ∧ (kind ≠ 4 → key2 = key ∧ id2 = id ∧ no2 = no ∧ b2.length ≤ bs.length ∧ b2 = bs.take b2.length) := by
  have hp := put_get (u8s_take (put_u8s hu h) n) hq
  obtain ⟨⟨ys, hy⟩, _⟩ := put_shape h
  obtain ⟨⟨ys2, hy2⟩, _⟩ := put_shape hp.1
  obtain ⟨m, rfl⟩ : ∃ m, n = m + 1 := by
    cases n with
    | zero => rw [List.take_zero] at hq; cases hq
    | succ m => exact ⟨m, rfl⟩
  have hkk : k2 = kind := by
    have e := hp.2
    rw [hy2, hy, List.take_succ_cons] at e
    exact (List.cons.inj e).1
  subst hkk
  refine ⟨rfl, fun h4 => ?_⟩
  rcases right_kind h with rfl | rfl | rfl | rfl
  · have p := right1 h
    have p2 := right1 hp.1
    obtain rfl := size0_key p.2.1
    obtain rfl := size0_key p2.2.1
    have e := hp.2
    unfold putF at e
    rw [if_pos rfl, if_pos rfl] at e
    have hl9 : ∀ x y : Int, ([1] ++ beI x 6 ++ beI y 2).length = 9 := fun x y => by simp [beI_length]
    have hlen := congrArg List.length e
    rw [List.length_append, hl9, List.length_take, List.length_append, hl9] at hlen
    have hb := p2.2.2.2.2.2
    rw [List.take_append, List.take_of_length_le (by rw [hl9]; omega), hl9] at e
    obtain ⟨e1, e2⟩ := split_len e (by rw [hl9, hl9])
    obtain ⟨e3, e4⟩ := split_len e1 (by simp [beI_length])
    obtain ⟨_, e5⟩ := split_len e3 (by simp)
    have i1 : id2 = id := by rw [← beV_beI 6 id2 p2.1.1 (by have := p2.1.2; omega), e5, beV_beI 6 id p.1.1 (by have := p.1.2; omega)]
    have i2 : no2 = no := by rw [← beV_beI 2 no2 p2.2.2.2.2.1.1 (by have := p2.2.2.2.2.1.2; omega), e4, beV_beI 2 no p.2.2.2.2.1.1 (by have := p.2.2.2.2.1.2; omega)]
    have hlb : b2.length = min (m + 1 - 9) bs.length := by rw [e2, List.length_take]
    refine ⟨rfl, i1, i2, by omega, ?_⟩
    rw [hlb, ← List.take_eq_take_min]
    exact e2
  · exact absurd rfl hk
  · have p := right3 h
    have p2 := right3 hp.1
    obtain ⟨rfl, rfl, _, _, hk1, _⟩ := p
    obtain ⟨rfl, rfl, _, _, hk2, _⟩ := p2
    have e := hp.2
    unfold putF at e
    rw [if_neg (by decide), if_neg (by decide), if_pos rfl, if_neg (by decide), if_neg (by decide), if_pos rfl] at e
    have o1 : ∀ key : ByteArray, key.size ≤ 64 → beI (key.size : Int) 1 = [(key.size : Int)] := fun key h => by
      rw [beI_succ]
      show [(key.size : Int) % 256] = _
      rw [show (key.size : Int) % 256 = key.size by omega]
    rw [o1 key hk1.2, o1 key2 hk2.2] at e
    have hlen := congrArg List.length e
    have hl2 : ∀ (z : Int) (key : ByteArray), ([3] ++ [z] ++ numsOf key).length = 2 + key.size := fun z key => by simp [numsOf_length]; omega
    rw [List.length_append, hl2, List.length_take, List.length_append, hl2] at hlen
    have hsz : key2.size = key.size := by
      have hm : 1 ≤ m := by omega
      obtain ⟨m', rfl⟩ : ∃ m', m = m' + 1 := ⟨m - 1, by omega⟩
      have e0 : 3 :: (key2.size : Int) :: (numsOf key2 ++ b2) = (3 :: (key.size : Int) :: (numsOf key ++ bs)).take (m' + 1 + 1) := by simpa using e
      rw [List.take_succ_cons, List.take_succ_cons] at e0
      have := (List.cons.inj (List.cons.inj e0).2).1
      omega
    rw [List.take_append, List.take_of_length_le (by rw [hl2]; omega), hl2] at e
    obtain ⟨e1, e2⟩ := split_len e (by rw [hl2, hl2, hsz])
    obtain ⟨_, e3⟩ := split_len e1 (by simp)
    have hkey : key2 = key := by rw [← str_numsOf key2, e3, str_numsOf]
    have hlb : b2.length = min (m + 1 - (2 + key.size)) bs.length := by rw [e2, List.length_take]
    refine ⟨hkey, rfl, rfl, by omega, ?_⟩
    rw [hlb, ← List.take_eq_take_min]
    exact e2
  · exact absurd rfl h4
/-- What is got of one byte more. -/
theorem more_some (hu : u8s bs) (h : rightB kind key id no size ls bs.length = true) (hk : kind ≠ 2) (m : Int) (hm : 0 ≤ m ∧ m < 256) {k2 : Int} {key2 : ByteArray} {id2 no2 size2 : Int} {ls2 : List Loc3} {b2 : List Int} (hq : getRec (putF kind key id no size ls bs ++ [m]) = some (k2, (key2, id2, no2, size2, ls2, b2))) :
    k2 = kind ∧ b2.length + key2.size = bs.length + key.size + 1 ∧ b2.length ≤ 4096 ∧ key2.size ≤ 64 := by
  have hum : u8s (putF kind key id no size ls bs ++ [m]) := u8s_append (put_u8s hu h) (fun x hx => by rw [List.mem_singleton.1 hx]; exact hm)
  have hp := put_get hum hq
  obtain ⟨⟨ys, hy⟩, hl⟩ := put_shape h
  obtain ⟨⟨ys2, hy2⟩, hl2⟩ := put_shape hp.1
  have hb2 := put_body hp.1
  have hkk : k2 = kind := by
    have e := hp.2
    rw [hy2, hy] at e
    exact (List.cons.inj e).1
  subst hkk
  refine ⟨rfl, ?_, hb2.2.2.2.1, hb2.2.2.1⟩
  have hlen := congrArg List.length hp.2
  rw [List.length_append, hl, hl2, List.length_singleton] at hlen
  rcases right_kind h with rfl | rfl | rfl | rfl
  · have p := right1 h; have p2 := right1 hp.1
    rw [if_pos rfl, if_pos rfl] at hlen; omega
  · exact absurd rfl hk
  · rw [if_neg (by decide), if_neg (by decide), if_pos rfl, if_neg (by decide), if_neg (by decide), if_pos rfl] at hlen; omega
  · have p := right4 h; have p2 := right4 hp.1
    rw [if_neg (by decide), if_neg (by decide), if_neg (by decide), if_neg (by decide), if_neg (by decide), if_neg (by decide)] at hlen; omega
end
end Go.Proofs.Ytemnhgmgffdncaa
