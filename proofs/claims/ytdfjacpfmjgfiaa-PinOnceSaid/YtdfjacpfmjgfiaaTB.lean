/-
  Layer 17: a table, apart from blocks that are others'.
-/
import Derived.Test.YtdfjacpfmjgfiaaSameP
namespace Go.Proofs.Ytdfjacpfmjgfiaa
set_option linter.unusedVariables false
set_option linter.unusedSimpArgs false
open Go.Shelf Go.RowKit Go.Proofs.YtdfjacpfmjgfiaaW.PrintWords Go.Proofs.YtdfjacpfmjgfiaaW.PrintMore
/-- A table, none of whose blocks is one of R, all of which are there. -/
def TB (R : Nat → Prop) (W : World) (t : Nat) (most next : Int) (hl : HL) : Prop :=
  ∃ O, TabA W O t most next hl ∧ (∀ k, O k → k < W.heap.size ∧ ¬ R k) ∧ ∀ k, R k → k < W.heap.size
def TBPost (R : Nat → Prop) (W : World) (t : Nat) (most next : Int) (hl : HL) (r : Value) (e : Ending) (w' : World) : Prop :=
  e = .returned r ∧ TB R w' t most next hl ∧ KeepS (fun k => ¬ R k) W w'
def ReadsR (W : World) (R : Nat → Prop) (A : Option Addr) (n : Nat) (xs : List Int) : Prop := ReadsInt W .i64 A n xs ∧ ∀ ad, A = some ad → 0 < n → R ad.block
section
variable {R : Nat → Prop} {W : World} {t : Nat} {most next : Int} {hl : HL}
theorem ReadsR.keep {W' : World} {A : Option Addr} {n : Nat} {xs : List Int} (h : ReadsR W R A n xs) (hR : ∀ k, R k → k < W.heap.size) (hk : KeepS (fun k => ¬ R k) W W') : ReadsR W' R A n xs := by
  refine ⟨⟨h.1.1, h.1.2.1, fun h0 => ?_⟩, h.2⟩
  obtain ⟨ad, e, hc⟩ := h.1.2.2 h0
  refine ⟨ad, e, fun j hj => ?_⟩
  rw [← hc j hj]
  have hr := h.2 ad e h0
  exact World.cell?_of_block (hk.block _ (by rw [add_block]; exact hR _ hr) (by rw [add_block]; exact fun h => h hr))
theorem ReadsR.none : ReadsR W R none 0 [] := ⟨⟨rfl, by decide, fun h => absurd h (Nat.lt_irrefl 0)⟩, fun ad h => by cases h⟩
theorem ReadsR.of {A : Option Addr} {n : Nat} {xs : List Int} (h : ReadsInt W .i64 A n xs) (hR : ∀ k, k < W.heap.size → (∀ ad, A = some ad → ad.block = k → R k)) : ReadsR W R A n xs := by
  refine ⟨h, fun ad e h0 => ?_⟩
  have hlt := ReadsO.lt (O := fun _ => False) ⟨h, fun _ _ _ h => h⟩ e h0
  exact hR _ hlt ad e rfl
theorem TB.of_post {r : Value} {e : Ending} {w' : World} {O : Nat → Prop} (ho : ∀ k, O k → k < W.heap.size ∧ ¬ R k) (hR : ∀ k, R k → k < W.heap.size) (h : TPost W O t most next hl r e w') : TBPost R W t most next hl r e w' := by
  obtain ⟨he, O', hT, hK, hO⟩ := h
  refine ⟨he, ⟨_, hT.tight, fun k hk => ⟨hk.2, fun hr => ?_⟩, fun k hk => Nat.lt_of_lt_of_le (hR k hk) hK.size⟩, KeepS.mono hK fun k _ hk => (ho k hk).2⟩
  rcases hO k hk.1 with h1 | h1
  · exact (ho k h1).2 hr
  · have := hR k hr; omega
theorem pin_tb (h : TB R W t most next hl) (hb : ∀ x ∈ hl, x.2.length ≤ 99999) (hb2 : hl.length ≤ 100000) (k n : Int) :
    Calls Try.prog 13 #[.pointer (some ⟨t, 0, none⟩), .int .i64 k, .int .i64 n] W (TBPost R W t most next (pinL hl k n) (.bool (getL hl k).isSome)) := by
  obtain ⟨O, hT, ho, hR⟩ := h
  exact (pin_calls hT hb hb2 k n).mono fun e w' h => TB.of_post ho hR h
theorem close_tb (h : TB R W t most next hl) (hb : ∀ x ∈ hl, x.2.length ≤ 100000) (hb2 : hl.length ≤ 100000) (k : Int) :
    Calls Try.prog 15 #[.pointer (some ⟨t, 0, none⟩), .int .i64 k] W (TBPost R W t most next (delL hl k) (.bool (getL hl k).isSome)) := by
  obtain ⟨O, hT, ho, hR⟩ := h
  exact (close_calls hT hb hb2 k).mono fun e w' h => TB.of_post ho hR h
theorem open_tb (h : TB R W t most next hl) (hf : hl.length < most) (hb : ∀ x ∈ hl, x.2.length ≤ 50000) (hb2 : hl.length ≤ 50000) (h1n : 1 ≤ next) (hn40 : next ≤ 1000000) {A : Option Addr} {m c : Nat} {xs : List Int} (hr : ReadsR W R A m xs) (hm : m ≤ 40000) :
    Calls Try.prog 17 #[.pointer (some ⟨t, 0, none⟩), .slice A m c] W (TBPost R W t most (next + 1) (hl ++ [(next, insAll [] xs)]) (.tuple #[.int .i64 next, .int .i64 0])) := by
  obtain ⟨O, hT, ho, hR⟩ := h
  exact (open_calls hT hf hb hb2 h1n hn40 ⟨hr.1, fun ad e h0 hO => (ho _ hO).2 (hr.2 ad e h0)⟩ hm).mono fun e w' h => TB.of_post ho hR h
theorem full_tb (h : TB R W t most next hl) (hf : most ≤ hl.length) (v : Value) :
    Calls Try.prog 17 #[.pointer (some ⟨t, 0, none⟩), v] W (TBPost R W t most next hl (.tuple #[.int .i64 0, .int .i64 5])) := by
  obtain ⟨O, hT, ho, hR⟩ := h
  exact (open_full hT hf v).mono fun e w' h => TB.of_post ho hR h
theorem is_tb (h : TB R W t most next hl) (n : Int) : Calls Try.prog 21 #[.pointer (some ⟨t, 0, none⟩), .int .i64 n] W fun e w' => e = .returned (.bool (getL hl n).isSome) ∧ w' = W := by
  obtain ⟨O, hT, _⟩ := h; exact is_tab hT n
theorem pinned_tb (h : TB R W t most next hl) (n : Int) : Calls Try.prog 26 #[.pointer (some ⟨t, 0, none⟩), .int .i64 n] W fun e w' => e = .returned (.bool (decide (0 < cnt hl n))) ∧ w' = W := by
  obtain ⟨O, hT, _⟩ := h; exact pinned_tab hT n
theorem many_tb (h : TB R W t most next hl) : Calls Try.prog 19 #[.pointer (some ⟨t, 0, none⟩)] W fun e w' => e = .returned (.int .i64 hl.length) ∧ w' = W := by
  obtain ⟨O, hT, _⟩ := h; exact many_tab hT
theorem of_tb (h : TB R W t most next hl) (n : Int) (hb : ∀ x ∈ hl, x.2.length ≤ 1000000) :
    Calls Try.prog 24 #[.pointer (some ⟨t, 0, none⟩), .int .i64 n] W fun e w' => ∃ v', e = .returned v' ∧ w'.ownsRow W.heap.size 3 1 v' ((getL hl n).getD []).length (nums .i64 ((getL hl n).getD [])) ∧ Grows W w' := by
  obtain ⟨O, hT, _⟩ := h; exact of_tab hT n hb
theorem pinq_tb (h : TB R W t most next hl) (k n : Int) (hk : getL hl k = none) :
    Calls Try.prog 13 #[.pointer (some ⟨t, 0, none⟩), .int .i64 k, .int .i64 n] W fun e w' => e = .returned (.bool false) ∧ w' = W := by
  obtain ⟨O, hT, _⟩ := h; exact pin_quiet hT k n hk
theorem closeq_tb (h : TB R W t most next hl) (k : Int) (hk : getL hl k = none) :
    Calls Try.prog 15 #[.pointer (some ⟨t, 0, none⟩), .int .i64 k] W fun e w' => e = .returned (.bool false) ∧ w' = W := by
  obtain ⟨O, hT, _⟩ := h; exact close_quiet hT k hk
theorem TB.hok (h : TB R W t most next hl) : HOk next hl := by
  obtain ⟨O, ⟨S, P, hs, ps, h1, h2, h3, h4, h5⟩, _⟩ := h; exact h4
theorem TB.lt (h : TB R W t most next hl) : ∀ k, R k → k < W.heap.size := by obtain ⟨O, hT, ho, hR⟩ := h; exact hR
/-- What others do to their own blocks, or make. -/
theorem TB.other {W' : World} (h : TB R W t most next hl) (hk : KeepS R W W') : TB R W' t most next hl := by
  obtain ⟨O, hT, ho, hR⟩ := h
  exact ⟨O, hT.keep fun k hk2 hlt => hk.block k hlt (ho k hk2).2, fun k hk2 => ⟨Nat.lt_of_lt_of_le (ho k hk2).1 hk.size, (ho k hk2).2⟩, fun k hk2 => Nat.lt_of_lt_of_le (hR k hk2) hk.size⟩
/-- .. and what is new is others'. -/
theorem TB.with {W' : World} (h : TB R W t most next hl) (hk : KeepS R W W') : TB (fun k => R k ∨ (W.heap.size ≤ k ∧ k < W'.heap.size)) W' t most next hl := by
  obtain ⟨O, hT, ho, hR⟩ := h
  refine ⟨O, hT.keep fun k hk2 hlt => hk.block k hlt (ho k hk2).2, fun k hk2 => ⟨Nat.lt_of_lt_of_le (ho k hk2).1 hk.size, fun h => ?_⟩, fun k hk2 => ?_⟩
  · rcases h with h | h
    · exact (ho k hk2).2 h
    · have := (ho k hk2).1; omega
  · rcases hk2 with h | h
    · exact Nat.lt_of_lt_of_le (hR k h) hk.size
    · exact h.2
theorem TB.sub {R' : Nat → Prop} (h : TB R W t most next hl) (hs : ∀ k, R' k → R k) : TB R' W t most next hl := by
  obtain ⟨O, hT, ho, hR⟩ := h
  exact ⟨O, hT, fun k hk => ⟨(ho k hk).1, fun h => (ho k hk).2 (hs k h)⟩, fun k hk => hR k (hs k hk)⟩
theorem new_tb (w : World) (most : Int) (h : 1 ≤ most ∧ most ≤ 1024) : Calls Try.prog 10 #[.int .i64 most] w fun e w' => ∃ t, e = .returned (.pointer (some ⟨t, 0, none⟩)) ∧ TB (fun k => k < w.heap.size) w' t most 1 [] ∧ Grows w w' := by
  refine (new_tab w most h).mono ?_
  rintro e w' ⟨t, rfl, hT, hg⟩
  exact ⟨t, rfl, ⟨_, hT.tight, fun k hk => ⟨hk.2, by omega⟩, fun k hk => Nat.lt_of_lt_of_le hk hg.size⟩, hg⟩
end
end Go.Proofs.Ytdfjacpfmjgfiaa
