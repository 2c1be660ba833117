-- Printed by wip/givenprint.py of this repository: the printer's run, with contracts of my own for some functions.
import Derived.Test.YtemnhgmgffdncaaPRecUnlikex0
namespace Go.Proofs.Ytemnhgmgffdncaa.PRecUnlike
open Go.RowKit Go.Proofs.YtemnhgmgffdncaaW.PrintWords Go.Proofs.YtemnhgmgffdncaaW.PrintLast Go.Proofs.YtemnhgmgffdncaaW.PrintMore
attribute [local go_sem] max2_int min2_int max_two min_two max_three min_three max_four min_four   -- for this text's walks alone
set_option linter.unusedVariables false
set_option linter.unusedSimpArgs false

-- NOT PRINTED: function 20 (rec_kinds)

/-! ### rec_within: function 22 -/
def rec_within.f (a0 : Int) (a1 : Int) (a2 : Int) : Option (Bool) := if a0 ≥ a1 then (some (decide (a0 ≤ a2))) else (some false)
set_option maxHeartbeats 8000000 in
set_option maxRecDepth 100000 in
theorem rec_within.calls (a0 : Int) (a1 : Int) (a2 : Int) (r : Bool) (w : World) (h : rec_within.f a0 a1 a2 = some r) :
    Calls Try.prog 22 #[.int .i64 a0, .int .i64 a1, .int .i64 a2] w fun e w' => e = .returned (.bool r) ∧ Drawn0 w w' := by
  have H : (if a0 ≥ a1 then (some (decide (a0 ≤ a2))) else (some false)) = some r := h
  clear h
  by_cases c4 : a0 ≥ a1
  · rw [if_pos c4] at H
    have c4b0 : decide (a1 ≤ a0) = true := decide_eq_true c4
    clear c4
    obtain rfl := Option.some.inj H
    go_enter Try.func22, Try.ntmps22
    go_wp2
    go_ret
    exact ⟨by first | rfl | (simp; done) | (simp [*]; done), by repeat (first | exact Drawn0.refl _ | apply Drawn0.step)⟩
  · rw [if_neg c4] at H
    have c4b0 : decide (a1 ≤ a0) = false := decide_eq_false c4
    clear c4
    obtain rfl := Option.some.inj H
    go_enter Try.func22, Try.ntmps22
    go_wp2
    go_ret
    exact ⟨by first | rfl | (simp; done) | (simp [*]; done), by repeat (first | exact Drawn0.refl _ | apply Drawn0.step)⟩

-- NOT PRINTED: function 23 (rec_bare)

/-! ### rec_Right: function 13 -/
/-- A printed slice of parts as my lists. -/
def toL (l : List S39) : List Loc3 := l.map fun x => (x.f0, x.f1, x.f2)
def ofL (l : List Loc3) : List S39 := l.map fun x => ⟨x.1, x.2.1, x.2.2⟩
theorem toL_len (l : List S39) : (toL l).length = l.length := List.length_map _
theorem ofL_len (l : List Loc3) : (ofL l).length = l.length := List.length_map _
theorem toL_ofL (l : List Loc3) : toL (ofL l) = l := by
  induction l with
  | nil => rfl
  | cons x l ih => exact congrArg (List.cons x) ih
theorem ofL_toL (l : List S39) : ofL (toL l) = l := by
  induction l with
  | nil => rfl
  | cons x l ih => exact congrArg (List.cons x) ih
theorem in_bytes {w : World} {A : Option Addr} {xs : List Int} (h : Kd.C (Kd.int .u8) w A xs.length xs) : Low w w.heap.size A xs.length xs := by
  have hr : ReadsInt w .u8 A xs.length xs := readsInt_of.2 (Kd.reads_of_C (d := (0 : Int)) h)
  refine ⟨hr, fun hn ad e => ?_⟩
  obtain ⟨ad', e', hc⟩ := hr.2.2 hn
  rw [e] at e'
  obtain rfl := Option.some.inj e'
  have h0 := hc 0 hn
  have ha : ad.add 0 = ad := by cases ad with | mk b o p => cases p <;> simp [Addr.add]
  rw [ha] at h0
  exact World.block_lt_of_cell? w _ h0
theorem in_locs {w : World} {A : Option Addr} {l : List S39} (h : Kd.C k39 w A l.length l) : LowL w w.heap.size A (toL l) := by
  refine ⟨by rw [toL_len]; exact h.2.1, fun hn => ?_⟩
  rw [toL_len] at hn
  obtain ⟨ad, e, hc⟩ := at_T39 h 0 (by omega) (by omega)
  have h0 := hc.1
  rw [show (0 : Int).toNat * 3 = 0 from rfl] at h0
  have hb : (ad.add 0).block < w.heap.size := World.block_lt_of_cell? w _ h0
  rw [add_block] at hb
  refine ⟨ad, e, hb, fun i x hx => ?_⟩
  have hi : i < l.length := by rw [← toL_len]; exact (List.getElem?_eq_some_iff.1 hx).1
  obtain ⟨ad', e', hc⟩ := at_T39 h (i : Int) (by omega) (by omega)
  rw [e] at e'
  obtain rfl := Option.some.inj e'
  have hr : rd_T39 l (i : Int) = l[i] := by unfold rd_T39; rw [Int.toNat_natCast, List.getD_eq_getElem?_getD, List.getElem?_eq_getElem hi]; rfl
  rw [hr, Int.toNat_natCast] at hc
  have hx2 : x = (l[i].f0, l[i].f1, l[i].f2) := by
    have : (toL l)[i]? = some (l[i].f0, l[i].f1, l[i].f2) := by unfold toL; rw [List.getElem?_map, List.getElem?_eq_getElem hi]; rfl
    rw [this] at hx
    exact (Option.some.inj hx).symm
  rw [hx2]
  exact hc
theorem in_rec {w : World} {A5 A6 : Option Addr} {c5 c6 : Nat} {l5 : List S39} {l6 : List Int} (h5 : Kd.C k39 w A5 l5.length l5) (hc5 : l5.length ≤ c5) (h6 : Kd.C (Kd.int .u8) w A6 l6.length l6) (hc6 : l6.length ≤ c6) : RecIn w w.heap.size A5 c5 (toL l5) A6 c6 l6 :=
  ⟨in_locs h5, by rw [toL_len]; exact hc5, in_bytes h6, hc6⟩
theorem out_bytes {w : World} {B : Nat} {v : Value} {xs : List Int} (h : w.ownsRow B 5 1 v xs.length (nums .u8 xs)) : Kd.R (Kd.int .u8) 5 w B (fun _ => True) v xs := Kd.R_of_own h (fun _ _ => trivial)
theorem out_locs {w : World} {B : Nat} {v : Value} {ls : List Loc3} (h : w.ownsRow B 39 3 v ls.length (locCells ls)) : Kd.R k39 39 w B (fun _ => True) v (ofL ls) := by
  refine ⟨fun _ _ => trivial, locCells ls, by rw [ofL_len]; exact h, ?_⟩
  clear h
  induction ls with
  | nil => exact Reps.none _ _
  | cons x ls ih => exact Reps.c3 (k39_mkM _ _ _ ⟨x.1, x.2.1, x.2.2⟩) ih
def rec_Right.f (a0_0 : Int) (a0_1 : ByteArray) (a0_2 : Int) (a0_3 : Int) (a0_4 : Int) (l0_5 : List (S39)) (l0_6 : List Int) : Option (Bool) := some (rightB a0_0 a0_1 a0_2 a0_3 a0_4 (toL l0_5) l0_6.length)
theorem rec_Right.calls (a0_0 : Int) (a0_1 : ByteArray) (a0_2 : Int) (a0_3 : Int) (a0_4 : Int) (A0_5 : Option Addr) (c0_5 : Nat) (l0_5 : List (S39)) (A0_6 : Option Addr) (c0_6 : Nat) (l0_6 : List Int) (r : Bool) (w : World) (hr0_5 : Kd.C k39 w A0_5 l0_5.length l0_5) (hc0_5 : l0_5.length ≤ c0_5) (hr0_6 : Kd.C (Kd.int .u8) w A0_6 l0_6.length l0_6) (hc0_6 : l0_6.length ≤ c0_6) (h : rec_Right.f a0_0 a0_1 a0_2 a0_3 a0_4 l0_5 l0_6 = some r) :
    Calls Try.prog 13 #[.agg #[.int .i64 a0_0, .string a0_1, .int .i64 a0_2, .int .i64 a0_3, .int .i64 a0_4, .slice A0_5 l0_5.length c0_5, .slice A0_6 l0_6.length c0_6]] w fun e w' => e = .returned (.bool r) ∧ Below w.heap.size w w' := by
  obtain rfl := Option.some.inj h
  have hc := right_calls a0_0 a0_1 a0_2 a0_3 a0_4 A0_5 c0_5 (toL l0_5) A0_6 c0_6 l0_6 w (in_rec hr0_5 hc0_5 hr0_6 hc0_6)
  rw [toL_len] at hc
  exact hc

/-! ### rec_Get: function 11 -/
def getT (r : Option (Int × Rec5)) : Int × ByteArray × Int × Int × Int × (List (S39)) × List Int × Bool :=
  match r with
  | none => (0, ⟨#[]⟩, 0, 0, 0, [], [], false)
  | some (k, x) => (k, x.1, x.2.1, x.2.2.1, x.2.2.2.1, ofL x.2.2.2.2.1, x.2.2.2.2.2, true)
def rec_Get.f (l0 : List Int) : Option (Int × ByteArray × Int × Int × Int × (List (S39)) × List Int × Bool) := if l0.length ≤ 100000000000 then (if l0.all (fun x => decide (0 ≤ x) && decide (x < 256)) then some (getT (getRec l0)) else none) else none
theorem rec_Get.calls (A0 : Option Addr) (c0 : Nat) (l0 : List Int) (r1 : Int) (r2 : ByteArray) (r3 : Int) (r4 : Int) (r5 : Int) (r6 : List (S39)) (r7 : List Int) (r8 : Bool) (w : World) (hr0 : Kd.C (Kd.int .u8) w A0 l0.length l0) (hc0 : l0.length ≤ c0) (h : rec_Get.f l0 = some (r1, r2, r3, r4, r5, r6, r7, r8)) :
    Calls Try.prog 11 #[.slice A0 l0.length c0] w fun e w' => ∃ v5_ v6_ : Value, e = .returned (.tuple #[.agg #[.int .i64 r1, .string r2, .int .i64 r3, .int .i64 r4, .int .i64 r5, v5_, v6_], .bool r8]) ∧ Kd.R k39 39 w' w.heap.size (fun _ => True) v5_ r6 ∧ Kd.R (Kd.int .u8) 5 w' w.heap.size (fun _ => True) v6_ r7 ∧ Below w.heap.size w w' := by
  unfold rec_Get.f at h
  split at h
  · rename_i hl
    split at h
    · rename_i hu
      have hus : u8s l0 := fun x hx => by have h := List.all_eq_true.1 hu x hx; rw [Bool.and_eq_true] at h; exact ⟨of_decide_eq_true h.1, of_decide_eq_true h.2⟩
      refine (get_calls A0 c0 l0 w (in_bytes hr0).rd hc0 hus hl).mono ?_
      rintro e w' ⟨v, he, hg, hn, hs⟩
      have h := Option.some.inj h
      cases hq : getRec l0 with
      | none =>
        rw [hq] at h he
        obtain rfl := hn hq
        obtain ⟨rfl, rfl, rfl, rfl, rfl, rfl, rfl, rfl⟩ : 0 = r1 ∧ (⟨#[]⟩ : ByteArray) = r2 ∧ 0 = r3 ∧ 0 = r4 ∧ 0 = r5 ∧ [] = r6 ∧ [] = r7 ∧ false = r8 := by simpa [getT] using h
        exact ⟨_, _, he, Kd.R_nil _ _ _ _ _, Kd.R_nil _ _ _ _ _, hg⟩
      | some p =>
        obtain ⟨k, x⟩ := p
        rw [hq] at h he
        obtain ⟨vL, vB, rfl, h5, h6⟩ := hs k x hq
        obtain ⟨rfl, rfl, rfl, rfl, rfl, rfl, rfl, rfl⟩ : k = r1 ∧ x.1 = r2 ∧ x.2.1 = r3 ∧ x.2.2.1 = r4 ∧ x.2.2.2.1 = r5 ∧ ofL x.2.2.2.2.1 = r6 ∧ x.2.2.2.2.2 = r7 ∧ true = r8 := by simpa [getT] using h
        exact ⟨_, _, he, out_locs h5, out_bytes h6, hg⟩
    · cases h
  · cases h

/-! ### rec_Put: function 15 -/
def rec_Put.f (a0_0 : Int) (a0_1 : ByteArray) (a0_2 : Int) (a0_3 : Int) (a0_4 : Int) (l0_5 : List (S39)) (l0_6 : List Int) : Option (List Int) := some (putRec a0_0 a0_1 a0_2 a0_3 a0_4 (toL l0_5) l0_6)
theorem rec_Put.calls (a0_0 : Int) (a0_1 : ByteArray) (a0_2 : Int) (a0_3 : Int) (a0_4 : Int) (A0_5 : Option Addr) (c0_5 : Nat) (l0_5 : List (S39)) (A0_6 : Option Addr) (c0_6 : Nat) (l0_6 : List Int) (r : List Int) (w : World) (hr0_5 : Kd.C k39 w A0_5 l0_5.length l0_5) (hc0_5 : l0_5.length ≤ c0_5) (hr0_6 : Kd.C (Kd.int .u8) w A0_6 l0_6.length l0_6) (hc0_6 : l0_6.length ≤ c0_6) (h : rec_Put.f a0_0 a0_1 a0_2 a0_3 a0_4 l0_5 l0_6 = some r) :
    Calls Try.prog 15 #[.agg #[.int .i64 a0_0, .string a0_1, .int .i64 a0_2, .int .i64 a0_3, .int .i64 a0_4, .slice A0_5 l0_5.length c0_5, .slice A0_6 l0_6.length c0_6]] w fun e w' => ∃ v0_ : Value, e = .returned (v0_) ∧ Kd.R (Kd.int .u8) 5 w' w.heap.size (fun _ => True) v0_ r ∧ Below w.heap.size w w' := by
  obtain rfl := Option.some.inj h
  have hc := putRec_calls a0_0 a0_1 a0_2 a0_3 a0_4 A0_5 c0_5 (toL l0_5) A0_6 c0_6 l0_6 w (in_rec hr0_5 hc0_5 hr0_6 hc0_6)
  rw [toL_len] at hc
  refine hc.mono ?_
  rintro e w' ⟨v, he, ho, hg⟩
  exact ⟨v, he, out_bytes ho, hg⟩

end Go.Proofs.Ytemnhgmgffdncaa.PRecUnlike
