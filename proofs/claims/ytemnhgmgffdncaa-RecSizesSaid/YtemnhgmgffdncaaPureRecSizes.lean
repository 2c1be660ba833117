/-
  Layer 4: a record's bytes are as many as they must be.
-/
import Derived.Test.YtemnhgmgffdncaaPRecSizesx4
import Derived.Test.YtemnhgmgffdncaaGet
import Derived.Test.YtemnhgmgffdncaaOpens
namespace Go.Proofs.Ytemnhgmgffdncaa.PRecSizes
set_option linter.unusedVariables false
set_option linter.unusedSimpArgs false
open Go.RowKit Go.Proofs.YtemnhgmgffdncaaW.PrintWords
/-! A record by value, laid open -/
abbrev T25 := Int × ByteArray × Int × Int × Int × List S39 × List Int
def k25 : Kd T25 := Kd.iso (Kd.pair (Kd.int .i64) (Kd.pair Kd.string (Kd.pair (Kd.int .i64) (Kd.pair (Kd.int .i64) (Kd.pair (Kd.int .i64) (Kd.pair (Kd.slice 39 k39) (Kd.slice 5 (Kd.int .u8)))))))) (fun x : T25 => x)
theorem op39 {H : Type} {enc : TypeId × Value → H} {W : World} : Opener enc Try.prog W 39 k39 (fun b : S39 => (Lit.int .i64 b.f0).wf = true ∧ (Lit.int .i64 b.f1).wf = true ∧ (Lit.int .i64 b.f2).wf = true) :=
  op_struct (fun x : S39 => (x.f0, x.f1, x.f2)) (fun y => ⟨y.1, y.2.1, y.2.2⟩) (fun _ => rfl) Try.underlying39 (by kernel_rfl) (of_cons (op_int Try.underlying3 (by kernel_rfl)) (of_cons (op_int Try.underlying3 (by kernel_rfl)) (of_one (op_int Try.underlying3 (by kernel_rfl)))))
abbrev Fit6 (x : List Int) : Prop := x.length * Try.prog.bytesOf 5 ≤ reachBytes ∧ ∀ y ∈ x, (Lit.int .u8 y).wf = true
abbrev Fit5 (x : List S39 × List Int) : Prop := (x.1.length * Try.prog.bytesOf 39 ≤ reachBytes ∧ ∀ y ∈ x.1, (Lit.int .i64 y.f0).wf = true ∧ (Lit.int .i64 y.f1).wf = true ∧ (Lit.int .i64 y.f2).wf = true) ∧ Fit6 x.2
abbrev Fit4 (x : Int × List S39 × List Int) : Prop := (Lit.int .i64 x.1).wf = true ∧ Fit5 x.2
abbrev Fit3 (x : Int × Int × List S39 × List Int) : Prop := (Lit.int .i64 x.1).wf = true ∧ Fit4 x.2
abbrev Fit2 (x : Int × Int × Int × List S39 × List Int) : Prop := (Lit.int .i64 x.1).wf = true ∧ Fit3 x.2
abbrev Fit1 (x : ByteArray × Int × Int × Int × List S39 × List Int) : Prop := x.1.size ≤ reachBytes ∧ Fit2 x.2
abbrev Fit0 (x : T25) : Prop := (Lit.int .i64 x.1).wf = true ∧ Fit1 x.2
theorem op25 {H : Type} {enc : TypeId × Value → H} {W : World} : Opener enc Try.prog W 25 k25 Fit0 :=
  op_struct (fun x : T25 => x) (fun y => y) (fun _ => rfl) Try.underlying25 (by kernel_rfl) (of_cons (Fit2 := Fit1) (op_int Try.underlying3 (by kernel_rfl)) (of_cons (Fit2 := Fit2) (op_string Try.underlying9 (by kernel_rfl)) (of_cons (Fit2 := Fit3) (op_int Try.underlying2 (by kernel_rfl)) (of_cons (Fit2 := Fit4) (op_int Try.underlying3 (by kernel_rfl)) (of_cons (Fit2 := Fit5) (op_int Try.underlying3 (by kernel_rfl)) (of_cons (Fit2 := Fit6) (op_slice Try.underlying22 (by kernel_rfl) op39) (of_one (op_slice Try.underlying23 (by kernel_rfl) (op_int Try.underlying5 (by kernel_rfl))))))))))
/-- A record that is read. -/
structure Rd25 (W : World) (x : T25) (c : Array Value) (A5 : Option Addr) (c5 : Nat) (A6 : Option Addr) (c6 : Nat) : Prop where
  cells : c = #[.int .i64 x.1, .string x.2.1, .int .i64 x.2.2.1, .int .i64 x.2.2.2.1, .int .i64 x.2.2.2.2.1, .slice A5 x.2.2.2.2.2.1.length c5, .slice A6 x.2.2.2.2.2.2.length c6]
  l5 : x.2.2.2.2.2.1.length ≤ c5
  r5 : Kd.C k39 W A5 x.2.2.2.2.2.1.length x.2.2.2.2.2.1
  l6 : x.2.2.2.2.2.2.length ≤ c6
  r6 : Kd.C (Kd.int .u8) W A6 x.2.2.2.2.2.2.length x.2.2.2.2.2.2
theorem open25 {W : World} {x : T25} {c : Array Value} (h : k25.K W x c.toList) : ∃ A5 c5 A6 c6, Rd25 W x c A5 c5 A6 c6 := by
  obtain ⟨x0, x1, x2, x3, x4, x5, x6⟩ := x
  obtain ⟨_, _, e0, rfl, _, _, rfl, rfl, _, _, rfl, rfl, _, _, rfl, rfl, _, _, rfl, rfl, _, _, rfl, h5, h6⟩ := h
  obtain ⟨A5, c5, rfl, h5a, h5b⟩ := h5
  obtain ⟨A6, c6, rfl, h6a, h6b⟩ := h6
  refine ⟨A5, c5, A6, c6, ?_, h5a, h5b, h6a, h6b⟩
  cases c
  simp only at e0
  rw [e0]
  rfl
theorem small_wrap {n : Int} (h0 : 0 ≤ n) (h1 : n < 9223372036854775808) : wrap64 n = n := IntWalk.wrap64_in _ ⟨by omega, by omega⟩
theorem great_f (k0 : Int) (key : ByteArray) (id no size : Int) (l : List S39) (b : List Int) : ∃ g, souterrainlaw04_great.f k0 key id no size l b = some g := by
  unfold souterrainlaw04_great.f
  split <;> exact ⟨_, rfl⟩
theorem j0_true (p : List Int) (kind : Int) (key : ByteArray) (id no size : Int) (l : List S39) (b : List Int) : souterrainlaw04_RecSizes.j0 1 true p true kind key id no size l b = some true := by
  rw [souterrainlaw04_RecSizes.j0, if_pos rfl]
theorem pure_sizes (kind : Int) (key : ByteArray) (id no size : Int) (l : List S39) (b : List Int) : souterrainlaw04_RecSizes.f 1 kind key id no size l b = some true := by
  unfold souterrainlaw04_RecSizes.f
  obtain ⟨g, hg⟩ := great_f kind key id no size l b
  rw [hg]
  simp only [souterrainlaw04_head.f, rec_Put.f, Option.bind_some]
  by_cases h : rightB kind key id no size (toL l) b.length = true
  · have hp : putRec kind key id no size (toL l) b = putF kind key id no size (toL l) b := by unfold putRec; rw [if_pos h]
    rw [hp]
    obtain ⟨hh, hl⟩ := put_shape h
    have hne : (((putF kind key id no size (toL l) b).length : Int) == 0) = false := by
      obtain ⟨ys, hy⟩ := hh
      rw [hy]
      simp
      omega
    have hk1 : kind = 1 ∨ kind = 2 ∨ kind = 3 ∨ kind = 4 := right_kind h
    have hw : wrap64 kind = kind := small_wrap (by omega) (by omega)
    have hr : wrap64 (rd (putF kind key id no size (toL l) b) 0) == kind := by
      obtain ⟨ys, hy⟩ := hh
      rw [hy]
      show (wrap64 kind == kind) = true
      rw [hw]
      exact beq_self_eq_true kind
    have hn0 : (0 : Int) < (putF kind key id no size (toL l) b).length := by
      obtain ⟨ys, hy⟩ := hh
      rw [hy]
      simp only [List.length_cons]
      omega
    obtain ⟨hb1, hb2, hb3, hb4, hb5⟩ := put_body h
    rw [toL_len] at hl hb5
    have e1 : wrap64 (9 + (b.length : Int)) = 9 + b.length := small_wrap (by omega) (by omega)
    have e2 : wrap64 (wrap64 (13 + (key.size : Int)) + wrap64 (10 * (l.length : Int))) = 13 + key.size + 10 * l.length := by
      rw [small_wrap (n := 13 + (key.size : Int)) (by omega) (by omega), small_wrap (n := 10 * (l.length : Int)) (by omega) (by omega), small_wrap (by omega) (by omega)]
    have e3 : wrap64 (wrap64 (2 + (key.size : Int)) + (b.length : Int)) = 2 + key.size + b.length := by
      rw [small_wrap (n := 2 + (key.size : Int)) (by omega) (by omega), small_wrap (by omega) (by omega)]
    have e4 : wrap64 (1 + (key.size : Int)) = 1 + key.size := small_wrap (by omega) (by omega)
    have hj : souterrainlaw04_RecSizes.j0 1 true (putF kind key id no size (toL l) b) false kind key id no size l b = some true := by
      rw [souterrainlaw04_RecSizes.j0, if_neg (by decide), e1, e2, e3, e4]
      rcases hk1 with hk | hk | hk | hk
      · rw [if_neg (by omega), if_neg (by omega), if_neg (by omega), if_pos rfl, if_pos (by rw [hl, if_pos hk]; omega), if_pos hn0, hr]
      · rw [if_pos hk, if_pos rfl, if_pos (by rw [hl, if_neg (by omega), if_pos hk]; omega), if_pos hn0, hr]
      · rw [if_neg (by omega), if_pos hk, if_pos rfl, if_pos (by rw [hl, if_neg (by omega), if_neg (by omega), if_pos hk]; omega), if_pos hn0, hr]
      · rw [if_neg (by omega), if_neg (by omega), if_pos hk, if_pos rfl, if_pos (by rw [hl, if_neg (by omega), if_neg (by omega), if_neg (by omega)]; omega), if_pos hn0, hr]
    rw [hne]
    cases g with
    | true => rw [if_pos rfl]; exact j0_true _ _ _ _ _ _ _ _
    | false => rw [if_neg (by decide)]; exact hj
  · have hp : putRec kind key id no size (toL l) b = [] := by unfold putRec; rw [if_neg h]
    rw [hp]
    have hz : ((([] : List Int).length : Int) == 0) = true := rfl
    rw [hz, ite_self]
    exact j0_true _ _ _ _ _ _ _ _
theorem walk (z : T25) (c : Array Value) (W : World) (h : k25.K W z c.toList) : Calls Try.prog 8 #[.agg c] W fun e w' => e = .returned (.bool true) ∧ Below W.heap.size W w' := by
  obtain ⟨A5, c5, A6, c6, h⟩ := open25 h
  rw [h.cells]
  exact souterrainlaw04_RecSizes.calls 1 _ _ _ _ _ A5 c5 _ A6 c6 _ true W h.r5 h.l5 h.r6 h.l6 (pure_sizes _ _ _ _ _ _ _)
end Go.Proofs.Ytemnhgmgffdncaa.PRecSizes
