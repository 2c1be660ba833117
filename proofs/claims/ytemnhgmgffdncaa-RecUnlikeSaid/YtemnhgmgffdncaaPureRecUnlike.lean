/-
  Layer 4: unlike right records have unlike bytes.
-/
import Derived.Test.YtemnhgmgffdncaaPRecUnlikex4
import Derived.Test.YtemnhgmgffdncaaOpens
namespace Go.Proofs.Ytemnhgmgffdncaa.PRecUnlike
set_option linter.unusedVariables false
set_option linter.unusedSimpArgs false
open Go.RowKit Go.Proofs.YtemnhgmgffdncaaW.PrintWords
/-! A record by value, laid open -/
abbrev T25 := Int × ByteArray × Int × Int × Int × List S39 × List Int
def k25 : Kd T25 := Kd.iso (Kd.pair (Kd.int .i64) (Kd.pair Kd.string (Kd.pair (Kd.int .i64) (Kd.pair (Kd.int .i64) (Kd.pair (Kd.int .i64) (Kd.pair (Kd.slice 39 k39) (Kd.slice 5 (Kd.int .u8)))))))) (fun x : T25 => x)
theorem op39 {H : Type} {enc : TypeId × Value → H} {W : World} : Opener enc Try.prog W 39 k39 (fun b : S39 => (Lit.int .i64 b.f0).wf = true ∧ (Lit.int .i64 b.f1).wf = true ∧ (Lit.int .i64 b.f2).wf = true) :=
  op_struct (fun x : S39 => (x.f0, x.f1, x.f2)) (fun y => ⟨y.1, y.2.1, y.2.2⟩) (fun _ => rfl) Try.underlying39 (by kernel_rfl) (of_cons (op_int Try.underlying3 (by kernel_rfl)) (of_cons (op_int Try.underlying3 (by kernel_rfl)) (of_one (op_int Try.underlying3 (by kernel_rfl)))))
abbrev Fit6 (x : List Int) : Prop := x.length * Try.prog.bytesOf 5 ≤ reachBytes ∧ ∀ y ∈ x, (Lit.int .u8 y).wf = true
abbrev Fit5 (x : List S39 × List Int) : Prop := (x.1.length * Try.prog.bytesOf 39 ≤ reachBytes ∧ ∀ y ∈ x.1, (Lit.int .i64 y.f0).wf = true ∧ (Lit.int .i64 y.f1).wf = true ∧ (Lit.int .i64 y.f2).wf = true) ∧ Fit6 x.2
abbrev Fit4 (x : Int × List S39 × List Int) : Prop := (Lit.int .i64 x.1).wf = true ∧ Fit5 x.2
abbrev Fit3 (x : Int × Int × List S39 × List Int) : Prop := (Lit.int .i64 x.1).wf = true ∧ Fit4 x.2
abbrev Fit2 (x : Int × Int × Int × List S39 × List Int) : Prop := (Lit.int .i64 x.1).wf = true ∧ Fit3 x.2
abbrev Fit1 (x : ByteArray × Int × Int × Int × List S39 × List Int) : Prop := x.1.size ≤ reachBytes ∧ Fit2 x.2
abbrev Fit0 (x : T25) : Prop := (Lit.int .i64 x.1).wf = true ∧ Fit1 x.2
theorem op25 {H : Type} {enc : TypeId × Value → H} {W : World} : Opener enc Try.prog W 25 k25 Fit0 :=
  op_struct (fun x : T25 => x) (fun y => y) (fun _ => rfl) Try.underlying25 (by kernel_rfl) (of_cons (Fit2 := Fit1) (op_int Try.underlying3 (by kernel_rfl)) (of_cons (Fit2 := Fit2) (op_string Try.underlying9 (by kernel_rfl)) (of_cons (Fit2 := Fit3) (op_int Try.underlying2 (by kernel_rfl)) (of_cons (Fit2 := Fit4) (op_int Try.underlying3 (by kernel_rfl)) (of_cons (Fit2 := Fit5) (op_int Try.underlying3 (by kernel_rfl)) (of_cons (Fit2 := Fit6) (op_slice Try.underlying22 (by kernel_rfl) op39) (of_one (op_slice Try.underlying23 (by kernel_rfl) (op_int Try.underlying5 (by kernel_rfl))))))))))
/-- A record that is read. -/
structure Rd25 (W : World) (x : T25) (c : Array Value) (A5 : Option Addr) (c5 : Nat) (A6 : Option Addr) (c6 : Nat) : Prop where
  cells : c = #[.int .i64 x.1, .string x.2.1, .int .i64 x.2.2.1, .int .i64 x.2.2.2.1, .int .i64 x.2.2.2.2.1, .slice A5 x.2.2.2.2.2.1.length c5, .slice A6 x.2.2.2.2.2.2.length c6]
  l5 : x.2.2.2.2.2.1.length ≤ c5
  r5 : Kd.C k39 W A5 x.2.2.2.2.2.1.length x.2.2.2.2.2.1
  l6 : x.2.2.2.2.2.2.length ≤ c6
  r6 : Kd.C (Kd.int .u8) W A6 x.2.2.2.2.2.2.length x.2.2.2.2.2.2
theorem open25 {W : World} {x : T25} {c : Array Value} (h : k25.K W x c.toList) : ∃ A5 c5 A6 c6, Rd25 W x c A5 c5 A6 c6 := by
  obtain ⟨x0, x1, x2, x3, x4, x5, x6⟩ := x
  obtain ⟨_, _, e0, rfl, _, _, rfl, rfl, _, _, rfl, rfl, _, _, rfl, rfl, _, _, rfl, rfl, _, _, rfl, h5, h6⟩ := h
  obtain ⟨A5, c5, rfl, h5a, h5b⟩ := h5
  obtain ⟨A6, c6, rfl, h6a, h6b⟩ := h6
  refine ⟨A5, c5, A6, c6, ?_, h5a, h5b, h6a, h6b⟩
  cases c
  simp only at e0
  rw [e0]
  rfl
/-! Same, as the statements use it -/
theorem rd39_ (l : List S39) (i : Nat) (h : i < l.length) : rd_T39 l (i : Int) = l[i] := by
  unfold rd_T39
  rw [Int.toNat_natCast, List.getD_eq_getElem?_getD, List.getElem?_eq_getElem h]
  rfl
theorem s39_ext {x y : S39} (h0 : x.f0 = y.f0) (h1 : x.f1 = y.f1) (h2 : x.f2 = y.f2) : x = y := by
  cases x; cases y; simp only at h0 h1 h2; subst h0 h1 h2; rfl
theorem same_l0 (k0 : Int) (key : ByteArray) (id no size : Int) (la : List S39) (b : List Int) (k0' : Int) (key' : ByteArray) (id' no' size' : Int) (lb : List S39) (b' : List Int) (hl : la.length = lb.length) (hb : la.length < 4611686018427387904) :
    ∀ (m i k : Nat), i + m = la.length → m < k → ∃ r : Bool, souterrainref04_Same.l0 k (i : Int) k0 key id no size la b k0' key' id' no' size' lb b' = some r ∧ (r = true ↔ la.drop i = lb.drop i)
  | m, i, 0, _, hk => by omega
  | 0, i, k + 1, hi, hk => by
    rw [souterrainref04_Same.l0, if_neg (by omega)]
    exact ⟨true, rfl, by rw [List.drop_of_length_le (by omega), List.drop_of_length_le (by omega)]; simp⟩
  | m + 1, i, k + 1, hi, hk => by
    have h1 : i < la.length := by omega
    have h2 : i < lb.length := by omega
    have hw : wrap64 ((i : Int) + 1) = ((i + 1 : Nat) : Int) := by rw [IntWalk.wrap64_in _ ⟨by omega, by omega⟩]; rfl
    have d1 := List.drop_eq_getElem_cons h1
    have d2 := List.drop_eq_getElem_cons h2
    rw [souterrainref04_Same.l0, if_pos (by omega), if_pos (by omega), if_pos (by omega), rd39_ la i h1, rd39_ lb i h2, hw]
    obtain ⟨r, hr, hrr⟩ := same_l0 k0 key id no size la b k0' key' id' no' size' lb b' hl hb m (i + 1) k (by omega) (by omega)
    by_cases he : la[i] = lb[i]
    · have hz : (!la[i].f0 == lb[i].f0 || (!la[i].f1 == lb[i].f1 || !la[i].f2 == lb[i].f2)) = false := by rw [he]; simp
      rw [hz, if_neg (by decide)]
      exact ⟨r, hr, by rw [hrr, d1, d2, he]; exact ⟨fun h => by rw [h], fun h => (List.cons.inj h).2⟩⟩
    · rw [if_pos ?_]
      · exact ⟨false, rfl, ⟨fun h => (by cases h), fun h => by rw [d1, d2] at h; exact absurd (List.cons.inj h).1 he⟩⟩
      · by_cases e0 : la[i].f0 = lb[i].f0
        · by_cases e1 : la[i].f1 = lb[i].f1
          · have e2 : la[i].f2 ≠ lb[i].f2 := fun e2 => he (s39_ext e0 e1 e2)
            simp [e2]
          · simp [e1]
        · simp [e0]
theorem toList_inj {a b : ByteArray} (h : a.toList = b.toList) : a = b := by
  rw [ByteArray.toList_eq, ByteArray.toList_eq] at h
  cases a with
  | mk x =>
    cases b with
    | mk y =>
      have h : x.toList = y.toList := h
      rw [Array.toList_inj.1 h]
theorem same_f (k0 : Int) (key : ByteArray) (id no size : Int) (la : List S39) (b : List Int) (k0' : Int) (key' : ByteArray) (id' no' size' : Int) (lb : List S39) (b' : List Int) (hb : la.length < 4611686018427387904) (hu : u8s b) (hu' : u8s b') (k : Nat) (hk : la.length + 2 ≤ k) :
    ∃ r : Bool, souterrainref04_Same.f k k0 key id no size la b k0' key' id' no' size' lb b' = some r ∧ (r = true ↔ k0 = k0' ∧ key = key' ∧ id = id' ∧ no = no' ∧ size = size' ∧ la = lb ∧ b = b') := by
  obtain ⟨n, rfl⟩ : ∃ n, k = n + 1 := ⟨k - 1, by omega⟩
  have hno : ∃ r : Bool, souterrainref04_Same.j0 (n + 1) true k0 key id no size la b k0' key' id' no' size' lb b' = some r ∧ r = false := ⟨false, by rw [souterrainref04_Same.j0, if_pos rfl], rfl⟩
  obtain ⟨rn, hrn, hrf⟩ := hno
  unfold souterrainref04_Same.f
  by_cases e0 : k0 = k0'
  · rw [if_pos e0]
    by_cases e1 : key = key'
    · rw [if_pos (by rw [e1])]
      by_cases e2 : id = id'
      · rw [if_pos e2]
        by_cases e3 : no = no'
        · rw [if_pos e3]
          by_cases e4 : size = size'
          · rw [if_pos e4]
            by_cases e5 : b = b'
            · rw [if_pos (by rw [e5])]
              by_cases e6 : la.length = lb.length
              · obtain ⟨r, hr, hrr⟩ := same_l0 k0 key id no size la b k0' key' id' no' size' lb b' e6 hb la.length 0 n (by omega) (by omega)
                refine ⟨r, ?_, by rw [hrr]; simp [e0, e1, e2, e3, e4, e5]⟩
                have e7 : ((la.length : Int) != (lb.length : Int)) = false := by rw [e6]; simp
                rw [e7, souterrainref04_Same.j0, if_neg (by decide)]
                exact hr
              · have e7 : ((la.length : Int) != (lb.length : Int)) = true := bne_iff_ne.2 (by omega)
                rw [e7]
                exact ⟨rn, hrn, by rw [hrf]; exact ⟨fun h => (by cases h), fun h => absurd (congrArg List.length h.2.2.2.2.2.1) e6⟩⟩
            · rw [if_neg (fun h => e5 (str_inj hu hu' (toList_inj h)))]
              exact ⟨rn, hrn, by rw [hrf]; exact ⟨fun h => (by cases h), fun h => absurd h.2.2.2.2.2.2 e5⟩⟩
          · rw [if_neg e4]
            exact ⟨rn, hrn, by rw [hrf]; exact ⟨fun h => (by cases h), fun h => absurd h.2.2.2.2.1 e4⟩⟩
        · rw [if_neg e3]
          exact ⟨rn, hrn, by rw [hrf]; exact ⟨fun h => (by cases h), fun h => absurd h.2.2.2.1 e3⟩⟩
      · rw [if_neg e2]
        exact ⟨rn, hrn, by rw [hrf]; exact ⟨fun h => (by cases h), fun h => absurd h.2.2.1 e2⟩⟩
    · rw [if_neg (fun h => e1 (toList_inj h))]
      exact ⟨rn, hrn, by rw [hrf]; exact ⟨fun h => (by cases h), fun h => absurd h.2.1 e1⟩⟩
  · rw [if_neg e0]
    exact ⟨rn, hrn, by rw [hrf]; exact ⟨fun h => (by cases h), fun h => absurd h.1 e0⟩⟩
theorem small_wrap {n : Int} (h0 : 0 ≤ n) (h1 : n < 9223372036854775808) : wrap64 n = n := IntWalk.wrap64_in _ ⟨by omega, by omega⟩
theorem great_f (k0 : Int) (key : ByteArray) (id no size : Int) (l : List S39) (b : List Int) : ∃ g, souterrainlaw04_great.f k0 key id no size l b = some g := by
  unfold souterrainlaw04_great.f
  split <;> exact ⟨_, rfl⟩
theorem toL_inj {a b : List S39} (h : toL a = toL b) : a = b := by rw [← ofL_toL a, h, ofL_toL]
theorem fit_u8s {b : List Int} (h : ∀ y ∈ b, (Lit.int .u8 y).wf = true) : u8s b := fun x hx => by
  have := h x hx
  simp [Lit.wf, IntKind.min, IntKind.max, IntKind.bits, IntKind.signed] at this
  omega
theorem fit_locs {l : List S39} (h : l.length * Try.prog.bytesOf 39 ≤ reachBytes) : l.length < 4611686018427387904 := by
  have hb : Try.prog.bytesOf 39 = 24 := by kernel_rfl
  have hr : reachBytes ≤ 140737488355328 := by decide
  rw [hb] at h
  omega
theorem pure_unlike (k0 : Int) (key : ByteArray) (id no size : Int) (la : List S39) (b : List Int) (k0' : Int) (key' : ByteArray) (id' no' size' : Int) (lb : List S39) (b' : List Int) (hb : la.length < 4611686018427387904) (hu : u8s b) (hu' : u8s b') :
    souterrainlaw04_RecUnlike.f (la.length + 2) k0 key id no size la b k0' key' id' no' size' lb b' = some true := by
  unfold souterrainlaw04_RecUnlike.f
  obtain ⟨g, hg⟩ := great_f k0 key id no size la b
  obtain ⟨g', hg'⟩ := great_f k0' key' id' no' size' lb b'
  rw [hg, hg']
  simp only [souterrainlaw04_head.f, rec_Put.f, Option.bind_some]
  cases g with
  | true => rw [if_pos rfl]
  | false =>
    rw [if_neg (by decide)]
    cases g' with
    | true => rw [if_pos rfl]
    | false =>
      rw [if_neg (by decide)]
      by_cases h : rightB k0 key id no size (toL la) b.length = true
      · have hp : putRec k0 key id no size (toL la) b = putF k0 key id no size (toL la) b := by unfold putRec; rw [if_pos h]
        have h1 := (put_body h).1
        rw [hp, if_neg (by omega)]
        by_cases h' : rightB k0' key' id' no' size' (toL lb) b'.length = true
        · have hp' : putRec k0' key' id' no' size' (toL lb) b' = putF k0' key' id' no' size' (toL lb) b' := by unfold putRec; rw [if_pos h']
          have h1' := (put_body h').1
          rw [hp', if_neg (by omega), if_pos trivial]
          obtain ⟨r, hr, hrr⟩ := same_f k0 key id no size la b k0' key' id' no' size' lb b' hb hu hu' (la.length + 2) (Nat.le_refl _)
          rw [hr, Option.bind_some]
          congr 1
          rw [beq_iff_eq]
          have hu1 := put_u8s hu h
          have hu2 := put_u8s hu' h'
          cases r with
          | true =>
            obtain ⟨e0, e1, e2, e3, e4, e5, e6⟩ := hrr.1 rfl
            subst e0 e1 e2 e3 e4 e5 e6
            exact beq_self_eq_true _
          | false =>
            rw [beq_eq_false_iff_ne]
            intro e
            have e := str_inj hu1 hu2 (toList_inj e)
            have g1 := get_put h
            have g2 := get_put h'
            rw [e, g2] at g1
            have g1 := Option.some.inj g1
            simp only [Prod.mk.injEq] at g1
            obtain ⟨e0, e1, e2, e3, e4, e5, e6⟩ := g1
            exact absurd (hrr.2 ⟨e0.symm, e1.symm, e2.symm, e3.symm, e4.symm, (toL_inj e5).symm, e6.symm⟩) (by decide)
        · have hp' : putRec k0' key' id' no' size' (toL lb) b' = [] := by unfold putRec; rw [if_neg h']
          rw [hp', if_pos (by rfl)]
      · have hp : putRec k0 key id no size (toL la) b = [] := by unfold putRec; rw [if_neg h]
        rw [hp, if_pos (by rfl)]
theorem walk (z0 : T25) (c0 : Array Value) (z1 : T25) (c1 : Array Value) (W : World) (h0 : k25.K W z0 c0.toList) (h1 : k25.K W z1 c1.toList) (y0 : Fit0 z0) (y1 : Fit0 z1) : Calls Try.prog 6 #[.agg c0, .agg c1] W fun e w' => e = .returned (.bool true) ∧ Below W.heap.size W w' := by
  obtain ⟨A5, c5, A6, c6, h⟩ := open25 h0
  obtain ⟨B5, d5, B6, d6, h'⟩ := open25 h1
  rw [h.cells, h'.cells]
  exact souterrainlaw04_RecUnlike.calls _ _ _ _ _ _ A5 c5 _ A6 c6 _ _ _ _ _ _ B5 d5 _ B6 d6 _ true W h.r5 h.l5 h.r6 h.l6 h'.r5 h'.l5 h'.r6 h'.l6 (pure_unlike _ _ _ _ _ _ _ _ _ _ _ _ _ _ (fit_locs y0.2.2.2.2.2.1.1) (fit_u8s y0.2.2.2.2.2.2.2) (fit_u8s y1.2.2.2.2.2.2.2))
end Go.Proofs.Ytemnhgmgffdncaa.PRecUnlike
