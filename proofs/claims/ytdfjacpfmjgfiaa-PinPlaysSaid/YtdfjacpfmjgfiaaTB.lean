/-
  Layer 17: a new table; what a table tells.
-/
import Derived.Test.YtdfjacpfmjgfiaaPins
import Derived.Test.YtdfjacpfmjgfiaaSame
namespace Go.Proofs.Ytdfjacpfmjgfiaa
set_option linter.unusedVariables false
set_option linter.unusedSimpArgs false
open Go.Shelf Go.RowKit Go.Proofs.YtdfjacpfmjgfiaaW.PrintWords Go.Proofs.YtdfjacpfmjgfiaaW.PrintMore
attribute [local go_sem] max2_int
theorem new_tab (w : World) (most : Int) (h : 1 ≤ most ∧ most ≤ 1024) : Calls Try.prog 10 #[.int .i64 most] w fun e w' => ∃ t, e = .returned (.pointer (some ⟨t, 0, none⟩)) ∧ TabA w' (fun k => w.heap.size ≤ k) t most 1 [] ∧ Grows w w' := by
  refine (new_some w most h).mono ?_
  rintro e w' ⟨t, rfl, S, P, hT, hg, ho⟩
  exact ⟨t, rfl, ⟨S, P, [], [], ⟨hT.blk, hT.segs, hT.pins, fun x hx => (by cases hx), List.Pairwise.nil, hT.SP⟩, rfl, ⟨List.nodup_nil, fun n => rfl⟩, HOk.nil 1, ho⟩, hg⟩
section
variable {W : World} {O : Nat → Prop} {t : Nat} {most next : Int} {hl : HL}
theorem TabA.tight (h : TabA W O t most next hl) : TabA W (fun k => O k ∧ k < W.heap.size) t most next hl := by
  obtain ⟨S, P, hs, ps, h1, h2, h3, h4, h5⟩ := h
  exact ⟨S, P, hs, ps, h1, h2, h3, h4, fun k hk => ⟨h5 k hk, h1.lt hk⟩⟩
theorem is_tab (h : TabA W O t most next hl) (n : Int) : Calls Try.prog 21 #[.pointer (some ⟨t, 0, none⟩), .int .i64 n] W fun e w' => e = .returned (.bool (getL hl n).isSome) ∧ w' = W := by
  obtain ⟨S, P, hs, ps, h1, h2, h3, h4, h5⟩ := h
  have := is_calls h1 n
  rw [← h2, hdOf_abs, Option.isSome_map]
  exact this
theorem pinned_tab (h : TabA W O t most next hl) (n : Int) : Calls Try.prog 26 #[.pointer (some ⟨t, 0, none⟩), .int .i64 n] W fun e w' => e = .returned (.bool (decide (0 < cnt hl n))) ∧ w' = W := by
  obtain ⟨S, P, hs, ps, h1, h2, h3, h4, h5⟩ := h
  have := pinned_calls h1 n
  rw [h3.cnt] at this
  have e : decide (0 < ((cnt hl n : Nat) : Int)) = decide (0 < cnt hl n) := by rw [Bool.eq_iff_iff]; simp
  rw [e] at this
  exact this
theorem many_tab (h : TabA W O t most next hl) : Calls Try.prog 19 #[.pointer (some ⟨t, 0, none⟩)] W fun e w' => e = .returned (.int .i64 hl.length) ∧ w' = W := by
  obtain ⟨S, P, hs, ps, h1, h2, h3, h4, h5⟩ := h
  have := many_calls h1
  have e : hs.length = hl.length := by rw [← h2]; simp [absH]
  rw [e] at this
  exact this
theorem of_tab (h : TabA W O t most next hl) (n : Int) (hb : ∀ x ∈ hl, x.2.length ≤ 1000000) :
    Calls Try.prog 24 #[.pointer (some ⟨t, 0, none⟩), .int .i64 n] W fun e w' => ∃ v', e = .returned v' ∧ w'.ownsRow W.heap.size 3 1 v' ((getL hl n).getD []).length (nums .i64 ((getL hl n).getD [])) ∧ Grows W w' := by
  obtain ⟨S, P, hs, ps, h1, h2, h3, h4, h5⟩ := h
  have := of_calls h1 n (fun x hx => hb (x.key, x.l) (by rw [← h2]; exact List.mem_map_of_mem hx))
  rw [← h2, hdOf_abs]
  exact this
theorem pin_quiet (h : TabA W O t most next hl) (k n : Int) (hk : getL hl k = none) :
    Calls Try.prog 13 #[.pointer (some ⟨t, 0, none⟩), .int .i64 k, .int .i64 n] W fun e w' => e = .returned (.bool false) ∧ w' = W := by
  obtain ⟨S, P, hs, ps, h1, h2, h3, h4, h5⟩ := h
  have c2 := h1.c2
  have hlk := run_lookok_i Try.underlying48 Try.underlying3 zero55 h1.segs k
  have hd : hdOf hs k = none := by
    rw [← h2, hdOf_abs] at hk
    cases hd : hdOf hs k with
    | none => rfl
    | some x => rw [hd] at hk; cases hk
  rw [look_S, hd] at hlk
  simp only [Option.map_none, Option.getD_none, Option.isSome_none] at hlk
  clear h1 h2 h3 h4 h5 hd hk
  go_enter Try.func13, Try.ntmps13
  go_wp2
  go_ret
  exact ⟨rfl, rfl⟩
theorem close_quiet (h : TabA W O t most next hl) (k : Int) (hk : getL hl k = none) :
    Calls Try.prog 15 #[.pointer (some ⟨t, 0, none⟩), .int .i64 k] W fun e w' => e = .returned (.bool false) ∧ w' = W := by
  obtain ⟨S, P, hs, ps, h1, h2, h3, h4, h5⟩ := h
  have c2 := h1.c2
  have hlk := run_lookok_i Try.underlying48 Try.underlying3 zero55 h1.segs k
  have hd : hdOf hs k = none := by
    rw [← h2, hdOf_abs] at hk
    cases hd : hdOf hs k with
    | none => rfl
    | some x => rw [hd] at hk; cases hk
  rw [look_S, hd] at hlk
  simp only [Option.map_none, Option.getD_none, Option.isSome_none] at hlk
  clear h1 h2 h3 h4 h5 hd hk
  go_enter Try.func15, Try.ntmps15
  go_wp2
  go_ret
  exact ⟨rfl, rfl⟩
end
end Go.Proofs.Ytdfjacpfmjgfiaa

/-
  Layer 17: whether two rows of whole numbers are the same.
-/
namespace Go.Proofs.Ytdfjacpfmjgfiaa
set_option linter.unusedVariables false
set_option linter.unusedSimpArgs false
open Go.Shelf Go.RowKit Go.Proofs.YtdfjacpfmjgfiaaW.PrintWords Go.Proofs.YtdfjacpfmjgfiaaW.PrintMore
theorem same_l0 (xs ys : List Int) (he : xs.length = ys.length) (hl : xs.length ≤ 4611686018427387904) : ∀ (d i k : Nat), i + d = xs.length → d < k → PPinPlays.souterrainref05_SameInts.l0 k xs ys i = some (decide (xs.drop i = ys.drop i))
  | 0, i, k, h, hk => by
    obtain ⟨k, rfl⟩ : ∃ m, k = m + 1 := ⟨k - 1, by omega⟩
    simp only [PPinPlays.souterrainref05_SameInts.l0]
    rw [if_neg (by omega), List.drop_eq_nil_of_le (by omega), List.drop_eq_nil_of_le (by omega)]
    rfl
  | d + 1, i, k, h, hk => by
    obtain ⟨k, rfl⟩ : ∃ m, k = m + 1 := ⟨k - 1, by omega⟩
    have h1 : i < xs.length := by omega
    have h2 : i < ys.length := by omega
    have r1 : rd xs (i : Int) = xs[i] := by unfold rd; simp [List.getD_eq_getElem?_getD, List.getElem?_eq_getElem h1]
    have r2 : rd ys (i : Int) = ys[i] := by unfold rd; simp [List.getD_eq_getElem?_getD, List.getElem?_eq_getElem h2]
    simp only [PPinPlays.souterrainref05_SameInts.l0]
    rw [if_pos (by omega), if_pos (by omega), if_pos (by omega), r1, r2, List.drop_eq_getElem_cons h1, List.drop_eq_getElem_cons h2]
    by_cases he2 : xs[i] = ys[i]
    · rw [if_pos he2]
      have hw : wrap64 ((i : Int) + 1) = ((i + 1 : Nat) : Int) := by rw [IntWalk.wrap64_in _ ⟨by omega, by omega⟩]; rfl
      rw [hw, same_l0 xs ys he hl d (i + 1) k (by omega) (by omega), he2]
      exact congrArg some (decide_eq_decide.2 ⟨fun h => by rw [h], fun h => (List.cons.inj h).2⟩)
    · rw [if_neg he2]
      exact congrArg some (decide_eq_false fun h => he2 (List.cons.inj h).1).symm
theorem same_f (xs ys : List Int) (hl : xs.length ≤ 4611686018427387904) : PPinPlays.souterrainref05_SameInts.f (xs.length + 1) xs ys = some (decide (xs = ys)) := by
  unfold PPinPlays.souterrainref05_SameInts.f
  by_cases he : xs.length = ys.length
  · rw [if_pos (by omega)]
    have := same_l0 xs ys he hl xs.length 0 (xs.length + 1) (by omega) (by omega)
    simpa using this
  · rw [if_neg (by omega)]
    have : xs ≠ ys := fun e => he (by rw [e])
    simp [this]
theorem C_of_i64 {w : World} {A : Option Addr} {n : Nat} {xs : List Int} (h : ReadsInt w .i64 A n xs) : Kd.C (Kd.int .i64) w A n xs := by
  refine ⟨h.1, h.2.1, fun hn => ?_⟩
  obtain ⟨ad, e, hc⟩ := h.2.2 hn
  refine ⟨ad, e, fun j p hp => ⟨[.int .i64 p], rfl, rfl, fun t u hu => ?_⟩⟩
  have hj : j < xs.length := by
    rcases Nat.lt_or_ge j xs.length with h | h
    · exact h
    · rw [List.getElem?_eq_none h] at hp; cases hp
  cases t with
  | zero =>
    obtain rfl := Option.some.inj hu
    have := hc j (by rw [← h.1]; exact hj)
    rw [List.getD_eq_getElem?_getD, hp] at this
    rw [show j * (Kd.int .i64).sz + 0 = j by show j * 1 + 0 = j; omega]
    exact this
  | succ t => cases hu
/-- SameInts of two rows. -/
theorem same_calls {W : World} {A1 A2 : Option Addr} {n1 n2 c1 c2 : Nat} {xs ys : List Int} (h1 : ReadsInt W .i64 A1 n1 xs) (h2 : ReadsInt W .i64 A2 n2 ys) (k1 : n1 ≤ c1) (k2 : n2 ≤ c2) (hl : n1 ≤ 1000000) :
    Calls Try.prog 23 #[.slice A1 n1 c1, .slice A2 n2 c2] W fun e w' => e = .returned (.bool (decide (xs = ys))) ∧ ∃ q, w' = W.drewN q := by
  obtain rfl := h1.1
  obtain rfl := h2.1
  refine (PPinPlays.souterrainref05_SameInts.calls (xs.length + 1) A1 c1 xs A2 c2 ys _ W (C_of_i64 h1) k1 (C_of_i64 h2) k2 (same_f xs ys (by omega))).mono ?_
  rintro e w' ⟨rfl, hd⟩
  exact ⟨rfl, hd.out⟩
end Go.Proofs.Ytdfjacpfmjgfiaa

/-
  Layer 17: a table, apart from blocks that are others'.
-/
namespace Go.Proofs.Ytdfjacpfmjgfiaa
set_option linter.unusedVariables false
set_option linter.unusedSimpArgs false
open Go.Shelf Go.RowKit Go.Proofs.YtdfjacpfmjgfiaaW.PrintWords Go.Proofs.YtdfjacpfmjgfiaaW.PrintMore
/-- A table, none of whose blocks is one of R, all of which are there. -/
def TB (R : Nat → Prop) (W : World) (t : Nat) (most next : Int) (hl : HL) : Prop :=
  ∃ O, TabA W O t most next hl ∧ (∀ k, O k → k < W.heap.size ∧ ¬ R k) ∧ ∀ k, R k → k < W.heap.size
def TBPost (R : Nat → Prop) (W : World) (t : Nat) (most next : Int) (hl : HL) (r : Value) (e : Ending) (w' : World) : Prop :=
  e = .returned r ∧ TB R w' t most next hl ∧ KeepS (fun k => ¬ R k) W w'
def ReadsR (W : World) (R : Nat → Prop) (A : Option Addr) (n : Nat) (xs : List Int) : Prop := ReadsInt W .i64 A n xs ∧ ∀ ad, A = some ad → 0 < n → R ad.block
section
variable {R : Nat → Prop} {W : World} {t : Nat} {most next : Int} {hl : HL}
theorem ReadsR.keep {W' : World} {A : Option Addr} {n : Nat} {xs : List Int} (h : ReadsR W R A n xs) (hR : ∀ k, R k → k < W.heap.size) (hk : KeepS (fun k => ¬ R k) W W') : ReadsR W' R A n xs := by
  refine ⟨⟨h.1.1, h.1.2.1, fun h0 => ?_⟩, h.2⟩
  obtain ⟨ad, e, hc⟩ := h.1.2.2 h0
  refine ⟨ad, e, fun j hj => ?_⟩
  rw [← hc j hj]
  have hr := h.2 ad e h0
  exact World.cell?_of_block (hk.block _ (by rw [add_block]; exact hR _ hr) (by rw [add_block]; exact fun h => h hr))
theorem ReadsR.none : ReadsR W R none 0 [] := ⟨⟨rfl, by decide, fun h => absurd h (Nat.lt_irrefl 0)⟩, fun ad h => by cases h⟩
theorem ReadsR.of {A : Option Addr} {n : Nat} {xs : List Int} (h : ReadsInt W .i64 A n xs) (hR : ∀ k, k < W.heap.size → (∀ ad, A = some ad → ad.block = k → R k)) : ReadsR W R A n xs := by
  refine ⟨h, fun ad e h0 => ?_⟩
  have hlt := ReadsO.lt (O := fun _ => False) ⟨h, fun _ _ _ h => h⟩ e h0
  exact hR _ hlt ad e rfl
theorem TB.of_post {r : Value} {e : Ending} {w' : World} {O : Nat → Prop} (ho : ∀ k, O k → k < W.heap.size ∧ ¬ R k) (hR : ∀ k, R k → k < W.heap.size) (h : TPost W O t most next hl r e w') : TBPost R W t most next hl r e w' := by
  obtain ⟨he, O', hT, hK, hO⟩ := h
  refine ⟨he, ⟨_, hT.tight, fun k hk => ⟨hk.2, fun hr => ?_⟩, fun k hk => Nat.lt_of_lt_of_le (hR k hk) hK.size⟩, KeepS.mono hK fun k _ hk => (ho k hk).2⟩
  rcases hO k hk.1 with h1 | h1
  · exact (ho k h1).2 hr
  · have := hR k hr; omega
theorem pin_tb (h : TB R W t most next hl) (hb : ∀ x ∈ hl, x.2.length ≤ 99999) (hb2 : hl.length ≤ 100000) (k n : Int) :
    Calls Try.prog 13 #[.pointer (some ⟨t, 0, none⟩), .int .i64 k, .int .i64 n] W (TBPost R W t most next (pinL hl k n) (.bool (getL hl k).isSome)) := by
  obtain ⟨O, hT, ho, hR⟩ := h
  exact (pin_calls hT hb hb2 k n).mono fun e w' h => TB.of_post ho hR h
theorem close_tb (h : TB R W t most next hl) (hb : ∀ x ∈ hl, x.2.length ≤ 100000) (hb2 : hl.length ≤ 100000) (k : Int) :
    Calls Try.prog 15 #[.pointer (some ⟨t, 0, none⟩), .int .i64 k] W (TBPost R W t most next (delL hl k) (.bool (getL hl k).isSome)) := by
  obtain ⟨O, hT, ho, hR⟩ := h
  exact (close_calls hT hb hb2 k).mono fun e w' h => TB.of_post ho hR h
theorem open_tb (h : TB R W t most next hl) (hf : hl.length < most) (hb : ∀ x ∈ hl, x.2.length ≤ 50000) (hb2 : hl.length ≤ 50000) (h1n : 1 ≤ next) (hn40 : next ≤ 1000000) {A : Option Addr} {m c : Nat} {xs : List Int} (hr : ReadsR W R A m xs) (hm : m ≤ 40000) :
    Calls Try.prog 17 #[.pointer (some ⟨t, 0, none⟩), .slice A m c] W (TBPost R W t most (next + 1) (hl ++ [(next, insAll [] xs)]) (.tuple #[.int .i64 next, .int .i64 0])) := by
  obtain ⟨O, hT, ho, hR⟩ := h
  exact (open_calls hT hf hb hb2 h1n hn40 ⟨hr.1, fun ad e h0 hO => (ho _ hO).2 (hr.2 ad e h0)⟩ hm).mono fun e w' h => TB.of_post ho hR h
theorem full_tb (h : TB R W t most next hl) (hf : most ≤ hl.length) (v : Value) :
    Calls Try.prog 17 #[.pointer (some ⟨t, 0, none⟩), v] W (TBPost R W t most next hl (.tuple #[.int .i64 0, .int .i64 5])) := by
  obtain ⟨O, hT, ho, hR⟩ := h
  exact (open_full hT hf v).mono fun e w' h => TB.of_post ho hR h
theorem is_tb (h : TB R W t most next hl) (n : Int) : Calls Try.prog 21 #[.pointer (some ⟨t, 0, none⟩), .int .i64 n] W fun e w' => e = .returned (.bool (getL hl n).isSome) ∧ w' = W := by
  obtain ⟨O, hT, _⟩ := h; exact is_tab hT n
theorem pinned_tb (h : TB R W t most next hl) (n : Int) : Calls Try.prog 26 #[.pointer (some ⟨t, 0, none⟩), .int .i64 n] W fun e w' => e = .returned (.bool (decide (0 < cnt hl n))) ∧ w' = W := by
  obtain ⟨O, hT, _⟩ := h; exact pinned_tab hT n
theorem many_tb (h : TB R W t most next hl) : Calls Try.prog 19 #[.pointer (some ⟨t, 0, none⟩)] W fun e w' => e = .returned (.int .i64 hl.length) ∧ w' = W := by
  obtain ⟨O, hT, _⟩ := h; exact many_tab hT
theorem of_tb (h : TB R W t most next hl) (n : Int) (hb : ∀ x ∈ hl, x.2.length ≤ 1000000) :
    Calls Try.prog 24 #[.pointer (some ⟨t, 0, none⟩), .int .i64 n] W fun e w' => ∃ v', e = .returned v' ∧ w'.ownsRow W.heap.size 3 1 v' ((getL hl n).getD []).length (nums .i64 ((getL hl n).getD [])) ∧ Grows W w' := by
  obtain ⟨O, hT, _⟩ := h; exact of_tab hT n hb
theorem pinq_tb (h : TB R W t most next hl) (k n : Int) (hk : getL hl k = none) :
    Calls Try.prog 13 #[.pointer (some ⟨t, 0, none⟩), .int .i64 k, .int .i64 n] W fun e w' => e = .returned (.bool false) ∧ w' = W := by
  obtain ⟨O, hT, _⟩ := h; exact pin_quiet hT k n hk
theorem closeq_tb (h : TB R W t most next hl) (k : Int) (hk : getL hl k = none) :
    Calls Try.prog 15 #[.pointer (some ⟨t, 0, none⟩), .int .i64 k] W fun e w' => e = .returned (.bool false) ∧ w' = W := by
  obtain ⟨O, hT, _⟩ := h; exact close_quiet hT k hk
theorem TB.hok (h : TB R W t most next hl) : HOk next hl := by
  obtain ⟨O, ⟨S, P, hs, ps, h1, h2, h3, h4, h5⟩, _⟩ := h; exact h4
theorem TB.lt (h : TB R W t most next hl) : ∀ k, R k → k < W.heap.size := by obtain ⟨O, hT, ho, hR⟩ := h; exact hR
/-- What others do to their own blocks, or make. -/
theorem TB.other {W' : World} (h : TB R W t most next hl) (hk : KeepS R W W') : TB R W' t most next hl := by
  obtain ⟨O, hT, ho, hR⟩ := h
  exact ⟨O, hT.keep fun k hk2 hlt => hk.block k hlt (ho k hk2).2, fun k hk2 => ⟨Nat.lt_of_lt_of_le (ho k hk2).1 hk.size, (ho k hk2).2⟩, fun k hk2 => Nat.lt_of_lt_of_le (hR k hk2) hk.size⟩
/-- .. and what is new is others'. -/
theorem TB.with {W' : World} (h : TB R W t most next hl) (hk : KeepS R W W') : TB (fun k => R k ∨ (W.heap.size ≤ k ∧ k < W'.heap.size)) W' t most next hl := by
  obtain ⟨O, hT, ho, hR⟩ := h
  refine ⟨O, hT.keep fun k hk2 hlt => hk.block k hlt (ho k hk2).2, fun k hk2 => ⟨Nat.lt_of_lt_of_le (ho k hk2).1 hk.size, fun h => ?_⟩, fun k hk2 => ?_⟩
  · rcases h with h | h
    · exact (ho k hk2).2 h
    · have := (ho k hk2).1; omega
  · rcases hk2 with h | h
    · exact Nat.lt_of_lt_of_le (hR k h) hk.size
    · exact h.2
theorem TB.sub {R' : Nat → Prop} (h : TB R W t most next hl) (hs : ∀ k, R' k → R k) : TB R' W t most next hl := by
  obtain ⟨O, hT, ho, hR⟩ := h
  exact ⟨O, hT, fun k hk => ⟨(ho k hk).1, fun h => (ho k hk).2 (hs k h)⟩, fun k hk => hR k (hs k hk)⟩
theorem new_tb (w : World) (most : Int) (h : 1 ≤ most ∧ most ≤ 1024) : Calls Try.prog 10 #[.int .i64 most] w fun e w' => ∃ t, e = .returned (.pointer (some ⟨t, 0, none⟩)) ∧ TB (fun k => k < w.heap.size) w' t most 1 [] ∧ Grows w w' := by
  refine (new_tab w most h).mono ?_
  rintro e w' ⟨t, rfl, hT, hg⟩
  exact ⟨t, rfl, ⟨_, hT.tight, fun k hk => ⟨hk.2, by omega⟩, fun k hk => Nat.lt_of_lt_of_le hk hg.size⟩, hg⟩
end
end Go.Proofs.Ytdfjacpfmjgfiaa
