/-
  Layer 7: what span's functions compute: right, Size, Parts, each by a walk. The plain functions: rightB, sizeOf, partsOf.
-/
import Derived.RangeFuncNested
import Derived.RangeFuncBound
import Derived.RangeFuncCalls
import Derived.RangeFuncLeaves
import Derived.RangeFuncBox
import Derived.Shelf.Abstract
import Derived.WalkKit
import Derived.WalkSpells
import Derived.WalkLawsBesides
import Derived.OwnWalkIn
import Derived.TacticsInMore
import Derived.LoopNIn
import Derived.LoopIn
import Derived.Maps.AppendAt
import Derived.Deep.LoopGhost
import Derived.Test.YtbadkblofihjhaaProg
import Derived.Test.YtbadkblofihjhaaWWords
namespace Go.Proofs.Ytbadkblofihjhaa
set_option linter.unusedVariables false
set_option linter.unusedSimpArgs false
open Go.RowKit Go.Shelf Go.Proofs.YtbadkblofihjhaaW.PrintWords

/-! ### The plain functions -/
def wrongB (n : Int) : Bool := decide (n < 1) || decide (4096 < n)
def rightB (zs : List Int) : Bool := decide (zs.length ≤ 512) && !zs.any wrongB
theorem any_take_succ (zs : List Int) (k : Nat) (h : k < zs.length) : (zs.take (k + 1)).any wrongB = ((zs.take k).any wrongB || wrongB (zs.getD k 0)) := by
  rw [List.take_succ_eq_append_getElem h, List.any_append, List.getD_eq_getElem?_getD, List.getElem?_eq_getElem h]
  simp

/-! ### right -/
theorem wrong_calls (n : Int) (w : World) :
    Calls Try.prog 19 #[.int .i64 n] w fun e w' => e = .returned (.bool (wrongB n)) ∧ w = w' := by
  by_cases h1 : n < 1
  · have hd : decide (n < 1) = true := by simpa using h1
    go_enter Try.func19, Try.ntmps19
    go_wp2
    go_ret
    exact ⟨by simp [wrongB, h1], rfl⟩
  · have H1 := Aside0.mk h1
    have hd : decide (n < 1) = false := by simpa using h1
    go_enter Try.func19, Try.ntmps19
    go_wp2
    go_ret
    have hn1 : ¬ n < 1 := by have := H1.out; omega
    exact ⟨by simp [wrongB, hn1], rfl⟩

def IndexPost (zs : List Int) (w : World) (e : Ending) (w' : World) : Prop := ∃ r : Int, e = .returned (.int .i64 r) ∧ decide (0 ≤ r) = zs.any wrongB ∧ w = w'

set_option maxRecDepth 100000 in
set_option maxHeartbeats 400000 in
theorem index_calls (A : Option Addr) (n c : Nat) (zs : List Int) (w : World) (hr : ReadsInt w .i64 A n zs) :
    Calls Try.prog 22 #[.slice A n c, .func (.func 19) #[] #[]] w (IndexPost zs w) := by
  obtain ⟨hl, hm, ha⟩ := hr
  have HA := Aside0.mk ha
  have HL := Aside0.mk hl
  clear ha hl
  go_enter Try.func22, Try.ntmps22
  go_wp2
  go_loopg [8] n (fun g i wr => ∃ (k : Nat), Aside0 (g + k = n) ∧ k ≤ n ∧ i = .int .i64 k ∧ Aside0 ((zs.take k).any wrongB = false) ∧ wr = w)
  case atStart => exact ⟨0, ⟨rfl⟩, by omega, rfl, ⟨by simp⟩, rfl⟩
  case round =>
    obtain ⟨k, HK, hk, rfl, HN, rfl⟩ := hrel
    by_cases hlt : k < n
    · obtain ⟨ad, rfl, hcell⟩ := HA.out (by omega)
      have hc := hcell k hlt
      clear hcell
      have HS := Aside0.mk (any_take_succ zs k (by have := HL.out; omega))
      have HX : Aside0 (zs.getD k 0 ∈ zs) := ⟨by
        have := HL.out
        rw [List.getD_eq_getElem?_getD, List.getElem?_eq_getElem (by omega)]; simp⟩
      generalize zs.getD k 0 = z at hc HS HX
      have hw := wrong_calls z wr
      cases hb : wrongB z with
      | true =>
        rw [hb] at hw
        have HB := Aside0.mk hb
        have HWc := Aside0.mk hw
        clear hw hb
        go_wp2_with (go_at_call 19; refine HWc.out.mono ?_; rintro e w' ⟨rfl, rfl⟩)
        refine bodyPost_ret (results_tmp rfl _ _ _) rfl ⟨_, rfl, ?_, rfl⟩
        have : zs.any wrongB = true := List.any_eq_true.2 ⟨z, HX.out, HB.out⟩
        rw [this]; simp
      | false =>
        rw [hb] at hw
        have HB := Aside0.mk hb
        have HWc := Aside0.mk hw
        clear hw hb
        go_wp2_with (go_at_call 19; refine HWc.out.mono ?_; rintro e w' ⟨rfl, rfl⟩)
        go_roundg (n - (k + 1))
        case measure => have := HK.out; omega
        case rel => exact ⟨k + 1, ⟨by omega⟩, by omega, by go_num, ⟨by rw [HS.out, HN.out, HB.out]; rfl⟩, rfl⟩
    · have e : k = n := by omega
      subst e
      go_wp2
      refine bodyPost_ret (results_tmp rfl _ _ _) rfl ⟨_, rfl, ?_, rfl⟩
      have := HN.out
      rw [List.take_of_length_le (by have := HL.out; omega)] at this
      rw [this]; decide

theorem contains_calls (A : Option Addr) (n c : Nat) (zs : List Int) (w : World) (hr : ReadsInt w .i64 A n zs) :
    Calls Try.prog 20 #[.slice A n c, .func (.func 19) #[] #[]] w fun e w' => e = .returned (.bool (zs.any wrongB)) ∧ w = w' := by
  have H := Aside0.mk (index_calls A n c zs w hr)
  clear hr
  go_enter Try.func20, Try.ntmps20
  go_wp2_with (go_at_call 22; refine H.out.mono ?_; rintro e w' ⟨r, rfl, hr, rfl⟩)
  go_ret
  exact ⟨rfl, rfl⟩

theorem right_calls (A : Option Addr) (n c : Nat) (zs : List Int) (w : World) (hr : ReadsInt w .i64 A n zs) :
    Calls Try.prog 16 #[.slice A n c] w fun e w' => e = .returned (.bool (rightB zs)) ∧ w = w' := by
  have H := Aside0.mk (contains_calls A n c zs w hr)
  have hl := hr.1
  have hm := hr.2.1
  have HL := Aside0.mk hl
  clear hr hl
  by_cases h : n ≤ 512
  · have hd : decide ((n : Int) ≤ 512) = true := by simp; omega
    go_enter Try.func16, Try.ntmps16
    go_wp2_with (go_at_call 20; refine H.out.mono ?_; rintro e w' ⟨rfl, rfl⟩)
    go_ret
    exact ⟨by simp [rightB, HL.out, h], rfl⟩
  · have hd : decide ((n : Int) ≤ 512) = false := by simp; omega
    go_enter Try.func16, Try.ntmps16
    go_wp2_with (go_at_call 20; refine H.out.mono ?_; rintro e w' ⟨rfl, rfl⟩)
    go_ret
    exact ⟨by simp [rightB, HL.out, h], rfl⟩

/-! ### begins: where each piece begins -/
attribute [local go_sem] Oper.semAt_some
def upto {α : Type} (f : Nat → α) (k : Nat) : List α := (List.range k).map f
theorem upto_succ {α : Type} (f : Nat → α) (k : Nat) : upto f (k + 1) = upto f k ++ [f k] := by simp [upto, List.range_succ]
theorem upto_length {α : Type} (f : Nat → α) (k : Nat) : (upto f k).length = k := by simp [upto]
/-- Where piece j begins. -/
def at_ (zs : List Int) (j : Nat) : Int := (zs.take j).sum
theorem at_succ (zs : List Int) (k : Nat) (h : k < zs.length) : at_ zs (k + 1) = at_ zs k + zs.getD k 0 := by
  unfold at_
  rw [List.take_succ_eq_append_getElem h, List.sum_append, List.getD_eq_getElem?_getD, List.getElem?_eq_getElem h]
  simp
theorem right_all {zs : List Int} (h : rightB zs = true) : zs.length ≤ 512 ∧ ∀ z ∈ zs, 1 ≤ z ∧ z ≤ 4096 := by
  simp only [rightB, Bool.and_eq_true, decide_eq_true_eq, Bool.not_eq_true', List.any_eq_false] at h
  refine ⟨h.1, fun z hz => ?_⟩
  have := h.2 z hz
  simp [wrongB] at this
  omega
theorem right_getD {zs : List Int} (h : rightB zs = true) (k : Nat) (hk : k < zs.length) : 1 ≤ zs.getD k 0 ∧ zs.getD k 0 ≤ 4096 := by
  refine (right_all h).2 _ ?_
  rw [List.getD_eq_getElem?_getD, List.getElem?_eq_getElem hk]; simp
theorem at_bound {zs : List Int} (h : rightB zs = true) : ∀ k, k ≤ zs.length → (k : Int) ≤ at_ zs k ∧ at_ zs k ≤ 4096 * k
  | 0, _ => by simp [at_]
  | k + 1, hk => by
    have h1 := at_bound h k (by omega)
    have h2 := right_getD h k (by omega)
    rw [at_succ zs k (by omega)]
    omega

theorem begins_in (F : Fence) (n : Nat) (h17 : F.fn 17) (hro : F.round = none) (a : Option Addr) (len cap : Nat) (w : World) :
    CallsIn F n Try.prog 17 #[.slice a len cap] w fun e w' => e = .returned (.func (.func 21) #[] #[.pointer (some ⟨w.heap.size, 0, none⟩)]) ∧ w' = w.alloc (.cells #[.slice a len cap] 22) := by
  refine callsIn_of_wp Try.func17 rfl h17 ?_ hro
  simp only [Try.ntmps17, List.size_toArray, List.length_cons, List.length_nil, Nat.reduceAdd, Nat.reduceSub, Array.replicate_succ, Array.replicate_zero, List.push_toArray, List.append_toArray, List.nil_append, List.cons_append]
  gi_wp2
  go_ret
  exact ⟨rfl, rfl⟩

/-- What is told of piece i: itself, and where it begins. -/
def enc2 {len : Nat} (zs : List Int) (i : Fin len) : Array Value := #[Value.int .i64 (i.val : Int), Value.int .i64 (at_ zs i.val)]
def firstK {len : Nat} (pre : List (Fin len)) (k : Nat) : Prop := pre.map Fin.val = List.range k
theorem firstK.next {len : Nat} {pre : List (Fin len)} {k : Nat} (h : firstK pre k) (hk : k < len) : firstK (pre ++ [⟨k, hk⟩]) (k + 1) := by
  unfold firstK at *
  rw [List.map_append, h, List.range_succ]; rfl
theorem firstK.length {len : Nat} {pre : List (Fin len)} {k : Nat} (h : firstK pre k) : pre.length = k := by
  have := congrArg List.length h
  simpa using this

set_option maxRecDepth 100000 in
set_option maxHeartbeats 2000000 in
theorem begins1_in (F : Fence) (n : Nat) (h21 : F.fn 21) (hro : F.round = none) (hn : 1 ≤ n) (l Bs n₀ : Nat) (A : Option Addr) (len cap : Nat) (zs : List Int) (hz : rightB zs = true) (w0 : World) (hn₀ : n₀ = w0.heap.size) (hI : ReadsInt w0 .i64 A len zs) (J Jx : List (Fin len) → World → Prop)
    (hY : ∀ pre x W, J pre W → pre.length < len → YieldAt F (n - 1) Try.prog l (enc2 zs x) W fun e W' =>
      (e = .returned (.bool true) ∧ J (pre ++ [x]) W' ∧ Below n₀ W W') ∨ (e = .returned (.bool false) ∧ Jx (pre ++ [x]) W'))
    (W : World) (hW0 : Below n₀ w0 W) (hBs : W.cell? ⟨Bs, 0, none⟩ = some (.slice A len cap)) (h0 : J [] W) :
    CallsIn F n Try.prog 21 #[.func (.yield l) #[] #[], .pointer (some ⟨Bs, 0, none⟩)] W fun e W' => (∃ v, e = .returned v) ∧
      ((∃ ys, firstK ys len ∧ J ys W') ∨ (∃ pre, (∃ k, k ≤ len ∧ firstK pre k) ∧ Jx pre W')) := by
  have HR := Aside0.mk hI
  have HZ := Aside0.mk hz
  have HN := Aside0.mk hn₀
  have hlen : len ≤ 512 := by have := (right_all hz).1; rw [hI.1] at this; exact this
  have HW := Aside0.mk hW0
  clear hI hz hn₀ hW0
  refine callsIn_of_wp Try.func21 rfl h21 ?_ hro
  simp only [Try.ntmps21, List.size_toArray, List.length_cons, List.length_nil, Nat.reduceAdd, Nat.reduceSub, Array.replicate_succ, Array.replicate_zero, List.push_toArray, List.append_toArray, List.nil_append, List.cons_append]
  gi_wp2
  gi_loopw [3, 8] (fun at0 i wr => ∃ k : Nat, k ≤ len ∧ i = .int .i64 k ∧ at0 = .int .i64 (at_ zs k) ∧ Aside0 (∃ pre, firstK pre k ∧ J pre wr ∧ Below n₀ w0 wr))
    (fun _ i _ => len - (intOf i).toNat)
  case atStart => exact ⟨0, Nat.zero_le _, rfl, by simp [at_], ⟨[], rfl, h0, HW.out⟩⟩
  case round =>
    obtain ⟨k, hk, rfl, rfl, HJ⟩ := hrel
    obtain ⟨pre, hp, hj, hbw⟩ := HJ.out
    have HP := Aside0.mk hp
    have HJ' := Aside0.mk hj
    have HB := Aside0.mk hbw
    clear hp hj hbw HJ
    by_cases hlt : k < len
    · obtain ⟨ad, rfl, hcell⟩ := HR.out.2.2 (by omega)
      have hcx := hcell k hlt
      have hcx' : wr.cell? (ad.add k) = some (.int .i64 (zs.getD k 0)) := (HB.out.cell (p := ad.add k) (by rw [HN.out]; exact World.block_lt_of_cell? w0 _ hcx)).trans hcx
      clear hcx hcell
      obtain ⟨fn, tmps, assign, body, hy, hR⟩ := hY pre ⟨k, hlt⟩ wr HJ'.out (by rw [HP.out.length]; exact hlt)
      unfold enc2 at hy
      dsimp only at hy
      have HS := Aside0.mk (at_succ zs k (by have := HR.out.1; omega))
      have hb1 := right_getD HZ.out k (by have := HR.out.1; omega)
      have hb2 := at_bound HZ.out k (by have := HR.out.1; omega)
      obtain ⟨hb10, hb11⟩ := hb1
      obtain ⟨hb20, hb21⟩ := hb2
      have hb22 : at_ zs k ≤ 2097152 := by omega
      clear hb21
      generalize zs.getD k 0 = z at hcx' HS hb10 hb11
      generalize ha : at_ zs k = a at hy HS hb20 hb22
      have HA := Aside0.mk ha
      clear ha
      gi_wp2
      refine hR.mono ?_
      rintro e W3 (⟨rfl, hJ3, hk3⟩ | ⟨rfl, hJx3⟩)
      · gi_wp2
        go_roundw
        case rel => exact ⟨k + 1, by omega, by simp, by rw [HS.out], ⟨_, HP.out.next hlt, hJ3, HB.out.trans hk3⟩⟩
        case measure => simp [intOf]; omega
      · gi_wp2
        refine bodyPost_ret (results_none rfl _ _ _) rfl ?_
        exact ⟨⟨_, rfl⟩, .inr ⟨_, ⟨k + 1, by omega, HP.out.next hlt⟩, hJx3⟩⟩
    · obtain rfl : k = len := by omega
      gi_wp2
      go_end0
      exact ⟨⟨_, rfl⟩, .inl ⟨_, HP.out, HJ'.out⟩⟩

theorem begins_stops (F : Fence) (n : Nat) (h21 : F.fn 21) (hro : F.round = none) (hn : 1 ≤ n) (Bs n₀ : Nat) (A : Option Addr) (len cap : Nat) (zs : List Int) (hz : rightB zs = true) (w0 w : World) (hn₀ : n₀ = w0.heap.size) (hI : ReadsInt w0 .i64 A len zs)
    (hw : Below n₀ w0 w) (hBs : Bs < w.heap.size) (hc : w.cell? ⟨Bs, 0, none⟩ = some (.slice A len cap)) :
    SeqStopsK F n Try.prog 21 #[.pointer (some ⟨Bs, 0, none⟩)] (enc2 (len := len) zs) (Below n₀) (fun ys => firstK ys len) (fun pre => ∃ k, k ≤ len ∧ firstK pre k) len w := fun l J Jx W hW _ _ hY h0 =>
  begins1_in F n h21 hro hn l Bs n₀ A len cap zs hz w0 hn₀ hI J Jx hY W (hw.trans (hW.mono (by rw [hn₀]; have := hw.size; omega))) ((hW.cell (p := ⟨Bs, 0, none⟩) hBs).trans hc) h0

/-! ### Size -/
def sizeOf (zs : List Int) : Int := if rightB zs then zs.sum else 0
theorem at_all (zs : List Int) : at_ zs zs.length = zs.sum := by simp [at_]

/-- The sum when the last piece told was this one. -/
def lastAt {len : Nat} (zs : List Int) (pre : List (Fin len)) : Int := match pre.getLast? with | none => 0 | some i => at_ zs (i.val + 1)
theorem lastAt_snoc {len : Nat} (zs : List Int) (pre : List (Fin len)) (i : Fin len) : lastAt zs (pre ++ [i]) = at_ zs (i.val + 1) := by simp [lastAt]
theorem lastAt_all {len : Nat} {zs : List Int} {pre : List (Fin len)} (h : firstK pre len) : lastAt zs pre = at_ zs len := by
  have hl := h.length
  unfold lastAt
  cases hp : pre.getLast? with
  | none =>
    rw [List.getLast?_eq_none_iff] at hp
    subst hp
    simp at hl
    subst hl
    simp [at_]
  | some i =>
    have h2 := congrArg List.getLast? h
    rw [List.getLast?_map, hp] at h2
    simp only [Option.map_some] at h2
    have hlen : 0 < len := Nat.lt_of_le_of_lt (Nat.zero_le _) i.isLt
    obtain ⟨m, rfl⟩ : ∃ m, len = m + 1 := ⟨len - 1, by omega⟩
    rw [List.range_succ] at h2
    simp at h2
    simp [h2]

end Go.Proofs.Ytbadkblofihjhaa
