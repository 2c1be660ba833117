/-
  Layer 7: Clip and Parts, by walks: Parts is a range over begins, with a break.
-/
import Derived.Test.YtbadkblofihjhaaSize
import Derived.Shelf.RegionOpen
import Derived.Test.YtbadkblofihjhaaWMore
import Derived.Test.YtbadkblofihjhaaGrow
namespace Go.Proofs.Ytbadkblofihjhaa
set_option linter.unusedVariables false
set_option linter.unusedSimpArgs false
open Go.RowKit Go.Shelf Go.Proofs.YtbadkblofihjhaaW.PrintWords Go.Proofs.YtbadkblofihjhaaW.PrintMore
attribute [local go_sem] Oper.semAt_some max_two min_two

/-! ### Clip -/
def clipOk (size off n : Int) : Bool := decide (0 ≤ size) && (decide (size ≤ 1073741824) && (decide (0 ≤ off) && (decide (off ≤ size) && decide (0 ≤ n))))
/-- How much of a range there is: its end. -/
def clipTo (size off n : Int) : Int := if size - off < n then size else off + n
section
attribute [local go_sem] max2_int min2_int
theorem clip_yes (size off n : Int) (w : World) (h : clipOk size off n = true) :
    Calls Try.prog 9 #[.int .i64 size, .int .i64 off, .int .i64 n] w fun e w' => e = .returned (.tuple #[.int .i64 off, .int .i64 (clipTo size off n), .bool true]) ∧ w = w' := by
  simp only [clipOk, Bool.and_eq_true, decide_eq_true_eq] at h
  obtain ⟨h1, h2, h3, h4, h5⟩ := h
  have d1 : decide (size < 0) = false := by simp; omega
  have d2 : decide (1073741824 < size) = false := by simp; omega
  have d3 : decide (off < 0) = false := by simp; omega
  have d4 : decide (size < off) = false := by simp; omega
  have d5 : decide (n < 0) = false := by simp; omega
  by_cases hc : size - off < n
  · go_enter Try.func9, Try.ntmps9
    go_wp2
    go_ret3
    refine ⟨?_, rfl⟩
    simp [clipTo, hc]
    omega
  · have hc' : off + n ≤ 1073741824 := by omega
    go_enter Try.func9, Try.ntmps9
    go_wp2
    go_ret3
    refine ⟨?_, rfl⟩
    simp [clipTo, hc]
    omega
end
theorem clip_no (size off n : Int) (w : World) (h : clipOk size off n = false) :
    Calls Try.prog 9 #[.int .i64 size, .int .i64 off, .int .i64 n] w fun e w' => e = .returned (.tuple #[.int .i64 0, .int .i64 0, .bool false]) ∧ w = w' := by
  by_cases h1 : size < 0
  · have d1 : decide (size < 0) = true := by simp; omega
    go_enter Try.func9, Try.ntmps9
    go_wp2
    go_ret3
    exact ⟨rfl, rfl⟩
  have d1 : decide (size < 0) = false := by simp; omega
  by_cases h2 : 1073741824 < size
  · have d2 : decide (1073741824 < size) = true := by simp; omega
    go_enter Try.func9, Try.ntmps9
    go_wp2
    go_ret3
    exact ⟨rfl, rfl⟩
  have d2 : decide (1073741824 < size) = false := by simp; omega
  by_cases h3 : off < 0
  · have d3 : decide (off < 0) = true := by simp; omega
    go_enter Try.func9, Try.ntmps9
    go_wp2
    go_ret3
    exact ⟨rfl, rfl⟩
  have d3 : decide (off < 0) = false := by simp; omega
  by_cases h4 : size < off
  · have d4 : decide (size < off) = true := by simp; omega
    go_enter Try.func9, Try.ntmps9
    go_wp2
    go_ret3
    exact ⟨rfl, rfl⟩
  have d4 : decide (size < off) = false := by simp; omega
  have h5 : n < 0 := by
    simp only [clipOk, Bool.and_eq_false_iff, decide_eq_false_iff_not] at h
    omega
  have d5 : decide (n < 0) = true := by simp; omega
  go_enter Try.func9, Try.ntmps9
  go_wp2
  go_ret3
  exact ⟨rfl, rfl⟩

/-! ### Parts -/
/-- The part of piece j. -/
def part (zs : List Int) (from_ to_ : Int) (j : Nat) : List (Int × Int × Int) :=
  let f := if from_ - at_ zs j < 0 then 0 else from_ - at_ zs j
  let t := if zs.getD j 0 < to_ - at_ zs j then zs.getD j 0 else to_ - at_ zs j
  if f < t then [((j : Int), f, t)] else []
def partsTo (zs : List Int) (from_ to_ : Int) (k : Nat) : List (Int × Int × Int) := (List.range k).flatMap (part zs from_ to_)
theorem partsTo_succ (zs : List Int) (f t : Int) (k : Nat) : partsTo zs f t (k + 1) = partsTo zs f t k ++ part zs f t k := by
  simp [partsTo, List.range_succ, List.flatMap_append]
def partsOf (zs : List Int) (off n : Int) : List (Int × Int × Int) :=
  if clipOk (sizeOf zs) off n && rightB zs then partsTo zs off (clipTo (sizeOf zs) off n) zs.length else []
def cells3 (x : Int × Int × Int) : List Value := [.int .i64 x.1, .int .i64 x.2.1, .int .i64 x.2.2]

theorem boxed_kept {w w1 : World} {v : Value} {t : TypeId} (hb : Below (w.alloc (.cells #[v] t)).heap.size (w.alloc (.cells #[v] t)) w1) : w1.cell? ⟨w.heap.size, 0, none⟩ = some v ∧ w.heap.size < w1.heap.size := by
  have hs := hb.size
  simp at hs
  refine ⟨(hb.cell (p := ⟨w.heap.size, 0, none⟩) (by simp)).trans ?_, by omega⟩
  rw [World.cell?_alloc_new]; rfl

/-- The parts of the pieces told so far. -/
def partsPre {len : Nat} (zs : List Int) (off tt : Int) (pre : List (Fin len)) : List (Int × Int × Int) := pre.flatMap fun i => part zs off tt i.val
theorem partsPre_snoc {len : Nat} (zs : List Int) (off tt : Int) (pre : List (Fin len)) (x : Fin len) : partsPre zs off tt (pre ++ [x]) = partsPre zs off tt pre ++ part zs off tt x.val := by
  simp [partsPre, List.flatMap_append]
theorem partsPre_first {len : Nat} {zs : List Int} {off tt : Int} {pre : List (Fin len)} {k : Nat} (h : firstK pre k) : partsPre zs off tt pre = partsTo zs off tt k := by
  unfold partsPre partsTo
  rw [← h, List.flatMap_map]
abbrev InvP (zs : List Int) (off tt : Int) (b0 b1 : Nat) (A : Option Addr) (len cap : Nat) (w : World) (pre : List (Fin len)) (W : World) : Prop :=
  ((W.cell? ⟨b0, 0, none⟩ = some (.slice A len cap) ∧ W.cell? ⟨b1, 0, none⟩ = some (.int .i64 off) ∧ W.cell? ⟨b1 + 1, 0, none⟩ = some (.int .i64 tt)) ∧
          (∃ v, Boxed W (b1 + 1 + 1) 27 v ∧ W.ownsRow (b1 + 1 + 1) 34 3 v (partsPre zs off tt pre).length ((partsPre zs off tt pre).flatMap cells3) ∧ True)) ∧ Below w.heap.size w W
theorem inv_own (zs : List Int) (off tt : Int) (b0 b1 : Nat) (A : Option Addr) (len cap : Nat) (w : World) (N : Nat) (hN : w.heap.size ≤ N) : OwnFrom N (InvP zs off tt b0 b1 A len cap w) :=
  OwnFrom.and (OwnFrom.and (Own.from (fun s A B row hs hg hr => ⟨cell_kept hs.1 hg hr, cell_kept hs.2.1 hg hr, cell_kept hs.2.2 hg hr⟩) _) (Own.from (holdsRow_own _ _ 27 34 3 (fun pre => (partsPre zs off tt pre).length) (fun pre => (partsPre zs off tt pre).flatMap cells3) (fun _ _ => True)) _)) (ownFrom_below (Nat.le_refl _) hN)
theorem inv_ownx (zs : List Int) (off tt : Int) (b0 b1 : Nat) (A : Option Addr) (len cap : Nat) (w : World) (N : Nat) (hN : w.heap.size ≤ N) (c : Code) : OwnFrom N (fun (pre : List (Fin len)) W => c = .exit 0 ∧ ∃ ini last, pre = ini ++ [last] ∧ tt ≤ at_ zs last.val ∧ InvP zs off tt b0 b1 A len cap w ini W) := by
  rintro s X Y row ⟨hc, ini, last, e, ht, hi⟩ hg hr
  exact ⟨hc, ini, last, e, ht, inv_own zs off tt b0 b1 A len cap w N hN ini X Y row hi hg hr⟩

def maxI (x y : Int) : Int := if x < y then y else x
def minI (x y : Int) : Int := if y < x then y else x
theorem max2_maxI (k k' : IntKind) (x y : Int) : Builtin.max2 (.int k x) (.int k' y) = pure (.int k (maxI x y)) := max2_int k k' x y
theorem min2_minI (k k' : IntKind) (x y : Int) : Builtin.min2 (.int k x) (.int k' y) = pure (.int k (minI x y)) := min2_int k k' x y
/-- The part of piece k of size z that begins at a. -/
def part1 (k : Nat) (z a from_ to_ : Int) : List (Int × Int × Int) :=
  if maxI (from_ - a) 0 < minI (to_ - a) z then [((k : Int), maxI (from_ - a) 0, minI (to_ - a) z)] else []
theorem clip_facts {size off n : Int} (h : clipOk size off n = true) : 0 ≤ off ∧ off ≤ 1073741824 ∧ off ≤ clipTo size off n ∧ clipTo size off n ≤ 1073741824 := by
  simp only [clipOk, Bool.and_eq_true, decide_eq_true_eq] at h
  unfold clipTo
  split <;> omega

theorem cells3_one (a b c : Int) : ∀ u ∈ [Value.int .i64 a, Value.int .i64 b, Value.int .i64 c], u.oneCell' = true := by simp [Value.oneCell']
theorem cell3_new (w : World) (t : TypeId) (a b c : Value) (j : Nat) (u : Value) (h : [a, b, c][j]? = some u) : (w.alloc (.cells #[a, b, c] t)).cell? ((⟨w.heap.size, 0, none⟩ : Addr).add j) = some u := by
  match j, h with
  | 0, h => exact (World.cell?_alloc_new w #[a, b, c] t 0).trans h
  | 1, h => exact (World.cell?_alloc_new w #[a, b, c] t 1).trans h
  | 2, h => exact (World.cell?_alloc_new w #[a, b, c] t 2).trans h
theorem part_len (zs : List Int) (f t : Int) (k : Nat) : (part zs f t k).length ≤ 1 := by
  unfold part
  dsimp only
  repeat' split
  all_goals simp
theorem partsPre_len {len : Nat} (zs : List Int) (off tt : Int) (pre : List (Fin len)) : (partsPre zs off tt pre).length ≤ pre.length := by
  induction pre with
  | nil => simp [partsPre]
  | cons x pre ih =>
    have := part_len zs off tt x.val
    simp only [partsPre, List.flatMap_cons, List.length_append, List.length_cons] at *
    omega
theorem info34 : (Try.prog.info? 34).map (fun i => (i.zero, i.size, i.bytes)) = some (some (.agg #[.int .i64 0, .int .i64 0, .int .i64 0]), 3, 24) := by kernel_rfl
theorem own_weaken {w : World} {b b' : Nat} {e : TypeId} {size n : Nat} {v : Value} {xs : List Value} (h : w.ownsRow b e size v n xs) (hb : b' ≤ b) : w.ownsRow b' e size v n xs := by
  refine ⟨h.1, ?_⟩
  rcases h.2 with hn | ⟨g, cap, cur, e1, h2, rest⟩
  · exact .inl hn
  · exact .inr ⟨g, cap, cur, e1, Nat.le_trans hb h2, rest⟩
theorem at_mono {zs : List Int} (h : rightB zs = true) {j m : Nat} (hj : j ≤ m) (hm : m ≤ zs.length) : at_ zs j ≤ at_ zs m := by
  induction m with
  | zero => have : j = 0 := by omega
            subst this; exact Int.le_refl _
  | succ m ih =>
    by_cases e : j = m + 1
    · subst e; exact Int.le_refl _
    · have := ih (by omega) (by omega)
      have h2 := right_getD h m (by omega)
      rw [at_succ zs m (by omega)]
      omega
theorem parts_stop {zs : List Int} (h : rightB zs = true) (off tt : Int) {j : Nat} (ht : tt ≤ at_ zs j) : ∀ m, j ≤ m → m ≤ zs.length → partsTo zs off tt m = partsTo zs off tt j := by
  intro m
  induction m with
  | zero => intro hj _; rw [show j = 0 by omega]
  | succ m ih =>
    intro hj hm
    by_cases e : j = m + 1
    · rw [e]
    · rw [partsTo_succ, ih (by omega) (by omega)]
      have h1 := at_mono h (show j ≤ m by omega) (by omega)
      have h2 := right_getD h m (by omega)
      have : part zs off tt m = [] := by
        unfold part
        dsimp only
        rw [if_neg]
        split <;> split <;> omega
      rw [this, List.append_nil]
theorem firstK_snoc {len : Nat} {ini : List (Fin len)} {last : Fin len} {k : Nat} (h : firstK (ini ++ [last]) k) : firstK ini last.val ∧ k = last.val + 1 := by
  have hl := h.length
  simp at hl
  subst hl
  unfold firstK at *
  rw [List.map_append, List.range_succ] at h
  obtain ⟨h1, h2⟩ := List.append_inj' h rfl
  simp at h2
  rw [h1, h2]
  exact ⟨rfl, rfl⟩
attribute [local go_sem] max2_maxI min2_minI growUpon
set_option maxRecDepth 100000 in
set_option maxHeartbeats 2000000 in
theorem parts_calls (A : Option Addr) (len cap : Nat) (zs : List Int) (off n : Int) (w : World) (hI : ReadsInt w .i64 A len zs) :
    Calls Try.prog 12 #[.slice A len cap, .int .i64 off, .int .i64 n] w fun e W' => ∃ v, e = .returned v ∧ W'.ownsRow w.heap.size 34 3 v (partsOf zs off n).length ((partsOf zs off n).flatMap cells3) ∧ Below w.heap.size w W' := by
  refine (callsIn_wide (n := 5)).1 ?_
  have HR := Aside0.mk hI
  have hm := hI.2.1
  have HL := Aside0.mk hI.1
  have hbx : Below w.heap.size w (w.alloc (.cells #[.slice A len cap] 22)) := (Below.refl _ w).alloc (Nat.le_refl _) _
  have HBX := Aside0.mk hbx
  have H14 := Aside0.mk (size_calls A len cap zs (w.alloc (.cells #[.slice A len cap] 22)) (hI.below hbx))
  clear hbx hI
  have hro : Fence.wide.round = none := rfl
  obtain ⟨i0, hi, hz0, hz1, hz2⟩ := info_parts info34
  have HI1 := Aside0.mk hi
  have HI2 := Aside0.mk hz0
  have HI3 := Aside0.mk hz1
  have HI4 := Aside0.mk hz2
  clear hi hz0 hz1 hz2
  refine callsIn_of_wp_marks Try.func12 rfl trivial ?_ hro
  simp only [Try.ntmps12, List.size_toArray, List.length_cons, List.length_nil, Nat.reduceAdd, Nat.reduceSub, Array.replicate_succ, Array.replicate_zero, List.push_toArray, List.append_toArray, List.nil_append, List.cons_append]
  cases hck : clipOk (sizeOf zs) off n with
  | false =>
    gi_wp2_with (first | (refine ⟨trivial, ?_⟩; gi_at_call 14; refine (callsIn_wide.2 H14.out).mono ?_; rintro e w1 ⟨rfl, hb1⟩; have hx1 := (boxed_kept hb1).1; have hs1 := (boxed_kept hb1).2; have hs2 := Nat.lt_succ_of_lt hs1; have hs3 := Nat.lt_succ_of_lt hs2; simp only [Nat.succ_eq_add_one] at hs2 hs3; have HB1 := Aside0.mk (below_then HBX.out HBX.out.size hb1); clear hb1) | (refine ⟨trivial, ?_⟩; gi_at_call 9; refine (callsIn_wide.2 (clip_no _ _ _ _ hck)).mono ?_; rintro e w' ⟨rfl, rfl⟩))
    refine ⟨trivial, ?_⟩
    gi_wp2
    have e : partsOf zs off n = [] := by simp [partsOf, hck]
    rw [e]
    exact ⟨_, results_tmp rfl _ _ _, _, rfl, own_nil _ _ _ _, (HB1.out.alloc HB1.out.size _).alloc (HB1.out.alloc HB1.out.size _).size _⟩
  | true =>
    cases hrb : rightB zs with
    | false =>
      have HRB := Aside0.mk hrb
      clear hrb
      gi_wp2_with (first | (refine ⟨trivial, ?_⟩; gi_at_call 14; refine (callsIn_wide.2 H14.out).mono ?_; rintro e w1 ⟨rfl, hb1⟩; have hx1 := (boxed_kept hb1).1; have hs1 := (boxed_kept hb1).2; have hs2 := Nat.lt_succ_of_lt hs1; have hs3 := Nat.lt_succ_of_lt hs2; simp only [Nat.succ_eq_add_one] at hs2 hs3; have HB1 := Aside0.mk (below_then HBX.out HBX.out.size hb1); clear hb1) | (refine ⟨trivial, ?_⟩; gi_at_call 9; refine (callsIn_wide.2 (clip_yes _ _ _ _ hck)).mono ?_; rintro e w' ⟨rfl, rfl⟩) | (refine ⟨trivial, ?_⟩; gi_at_call 16; refine (callsIn_wide.2 (right_calls A len cap zs _ (HR.out.below ((HB1.out.alloc HB1.out.size _).alloc (HB1.out.alloc HB1.out.size _).size _)))).mono ?_; rw [HRB.out]; rintro e w' ⟨rfl, rfl⟩))
      have e : partsOf zs off n = [] := by simp [partsOf, HRB.out]
      rw [e]
      exact ⟨_, results_tmp rfl _ _ _, _, rfl, own_nil _ _ _ _, (HB1.out.alloc HB1.out.size _).alloc (HB1.out.alloc HB1.out.size _).size _⟩
    | true =>
      have HRB := Aside0.mk hrb
      clear hrb
      have HCK := Aside0.mk hck
      gi_wp2_with (first | (refine ⟨trivial, ?_⟩; gi_at_call 14; refine (callsIn_wide.2 H14.out).mono ?_; rintro e w1 ⟨rfl, hb1⟩; have hx1 := (boxed_kept hb1).1; have hs1 := (boxed_kept hb1).2; have hs2 := Nat.lt_succ_of_lt hs1; have hs3 := Nat.lt_succ_of_lt hs2; simp only [Nat.succ_eq_add_one] at hs2 hs3; have HB1 := Aside0.mk (below_then HBX.out HBX.out.size hb1); clear hb1) | (refine ⟨trivial, ?_⟩; gi_at_call 9; refine (callsIn_wide.2 (clip_yes _ _ _ _ hck)).mono ?_; rintro e w' ⟨rfl, rfl⟩) | (refine ⟨trivial, ?_⟩; gi_at_call 16; refine (callsIn_wide.2 (right_calls A len cap zs _ (HR.out.below ((HB1.out.alloc HB1.out.size _).alloc (HB1.out.alloc HB1.out.size _).size _)))).mono ?_; rw [HRB.out]; rintro e w' ⟨rfl, rfl⟩) | (refine ⟨trivial, ?_⟩; gi_at_call 17; refine (begins_in Fence.wide _ trivial rfl _ _ _ _).mono ?_; rintro e w' ⟨rfl, rfl⟩))
      have bO := Boxed.new ((w1.alloc (.cells #[.int .i64 off] 3)).alloc (.cells #[.int .i64 (clipTo (sizeOf zs) off n)] 3)) 27 (.slice none 0 0)
      have bN := Boxed.new (((w1.alloc (.cells #[.int .i64 off] 3)).alloc (.cells #[.int .i64 (clipTo (sizeOf zs) off n)] 3)).alloc (.cells #[.slice none 0 0] 27)) 22 (.slice A len cap)
      simp only [World.size_alloc] at bO bN
      generalize htt : clipTo (sizeOf zs) off n = tt at bO bN
      have HTT := Aside0.mk htt
      clear htt
      have hB1 : Below w.heap.size w ((((w1.alloc (.cells #[.int .i64 off] 3)).alloc (.cells #[.int .i64 tt] 3)).alloc (.cells #[.slice none 0 0] 27)).alloc (.cells #[.slice A len cap] 22)) := (((HB1.out.alloc (by omega) _).alloc (by simp; omega) _).alloc (by simp; omega) _).alloc (by simp; omega) _
      have b1 : ((((w1.alloc (.cells #[.int .i64 off] 3)).alloc (.cells #[.int .i64 tt] 3)).alloc (.cells #[.slice none 0 0] 27)).alloc (.cells #[.slice A len cap] 22)).cell? ⟨w.heap.size, 0, none⟩ = some (.slice A len cap) := by
        rw [World.cell?_alloc_lt _ _ _ (by simp; omega), World.cell?_alloc_lt _ _ _ (by simp; omega), World.cell?_alloc_lt _ _ _ (by simp; omega), World.cell?_alloc_lt _ _ _ hs1]; exact hx1
      have b2 : ((((w1.alloc (.cells #[.int .i64 off] 3)).alloc (.cells #[.int .i64 tt] 3)).alloc (.cells #[.slice none 0 0] 27)).alloc (.cells #[.slice A len cap] 22)).cell? ⟨w1.heap.size, 0, none⟩ = some (.int .i64 off) := by
        rw [World.cell?_alloc_lt _ _ _ (by simp; omega), World.cell?_alloc_lt _ _ _ (by simp; omega), World.cell?_alloc_lt _ _ _ (by simp), World.cell?_alloc_new]; rfl
      have b3 : ((((w1.alloc (.cells #[.int .i64 off] 3)).alloc (.cells #[.int .i64 tt] 3)).alloc (.cells #[.slice none 0 0] 27)).alloc (.cells #[.slice A len cap] 22)).cell? ⟨w1.heap.size + 1, 0, none⟩ = some (.int .i64 tt) := by
        have := World.cell?_alloc_new (w1.alloc (.cells #[.int .i64 off] 3)) #[.int .i64 tt] 3 0
        rw [World.size_alloc] at this
        rw [World.cell?_alloc_lt _ _ _ (by simp), World.cell?_alloc_lt _ _ _ (by simp), this]; rfl
      refine wpIn_rangeFunc_ownG (α := Fin len) hro (by omega) (gf := 21) (lb := #[.pointer (some ⟨w1.heap.size + 1 + 1 + 1, 0, none⟩)]) rfl trivial (enters_of Try.func21 (by kernel_rfl) rfl)
        (begins_stops Fence.wide 4 trivial hro (by omega) (w1.heap.size + 1 + 1 + 1) w.heap.size A len cap zs HRB.out w _ rfl HR.out hB1 (by simp) bN.cell) belowK_t (belowK_b (by simp; omega)) (Below.refl _ _) (fun _ => rfl)
        (fun pre W => ((W.cell? ⟨w.heap.size, 0, none⟩ = some (.slice A len cap) ∧ W.cell? ⟨w1.heap.size, 0, none⟩ = some (.int .i64 off) ∧ W.cell? ⟨w1.heap.size + 1, 0, none⟩ = some (.int .i64 tt)) ∧
          (∃ v, Boxed W (w1.heap.size + 1 + 1) 27 v ∧ W.ownsRow (w1.heap.size + 1 + 1) 34 3 v (partsPre zs off tt pre).length ((partsPre zs off tt pre).flatMap cells3) ∧ True)) ∧ Below w.heap.size w W)
        (fun c pre W => c = .exit 0 ∧ ∃ ini last, pre = ini ++ [last] ∧ tt ≤ at_ zs last.val ∧
          ((W.cell? ⟨w.heap.size, 0, none⟩ = some (.slice A len cap) ∧ W.cell? ⟨w1.heap.size, 0, none⟩ = some (.int .i64 off) ∧ W.cell? ⟨w1.heap.size + 1, 0, none⟩ = some (.int .i64 tt)) ∧
          (∃ v, Boxed W (w1.heap.size + 1 + 1) 27 v ∧ W.ownsRow (w1.heap.size + 1 + 1) 34 3 v (partsPre zs off tt ini).length ((partsPre zs off tt ini).flatMap cells3) ∧ True)) ∧ Below w.heap.size w W)
        (inv_own zs off tt (w.heap.size) w1.heap.size A len cap w _ (by simp; omega))
        (fun c => inv_ownx zs off tt (w.heap.size) w1.heap.size A len cap w _ (by simp; omega) c)
        ⟨⟨⟨b1, b2, b3⟩, _, bO.alloc _, own_nil _ _ _ _, trivial⟩, hB1⟩
        (fun x => { tmps := #[.slice A len cap, .int .i64 off, .int .i64 n, .pointer (some ⟨w.heap.size, 0, none⟩), undef, undef, .slice none 0 0, .pointer (some ⟨w1.heap.size, 0, none⟩), .pointer (some ⟨w1.heap.size + 1, 0, none⟩), .bool true, .pointer (some ⟨w1.heap.size + 1 + 1, 0, none⟩), .int .i64 (x.val : Int), .int .i64 (at_ zs x.val), undef, .tuple #[.int .i64 off, .int .i64 tt, .bool true], .slice A len cap, .int .i64 (sizeOf zs), .int .i64 off, .int .i64 n, .tuple #[.int .i64 off, .int .i64 tt, .bool true], .int .i64 off, .int .i64 tt, .bool true, .bool true, .bool false, .bool false, .slice A len cap, .bool true, .bool false, .bool false, .slice A len cap, .func (.func 21) #[] #[.pointer (some ⟨w1.heap.size + 1 + 1 + 1, 0, none⟩)], .int .i64 (x.val : Int), .int .i64 (at_ zs x.val), undef, undef, undef, undef, undef, undef, undef, undef, undef, undef, undef, undef, undef, undef, undef, undef, undef, undef, undef, undef, undef, undef, undef, undef, undef, undef, undef], defers := [] }) ?assign ?body ?done ?stop
      case assign =>
        intro l x W K hK
        unfold enc2
        gi_wp2
        exact hK
      case body =>
        rintro l pre x W ⟨⟨⟨hx, ho, ht⟩, v, hv, hrow, -⟩, hB⟩ hlt
        obtain ⟨k, hk⟩ := x
        obtain ⟨ad, rfl, hcell⟩ := HR.out.2.2 (by omega)
        have hcx := (hB.cell (p := ad.add k) (World.block_lt_of_cell? w _ (hcell k hk))).trans (hcell k hk)
        have hb1 := right_getD HRB.out k (by have := HL.out; omega)
        have hb2 := at_bound HRB.out k (by have := HL.out; omega)
        have hlen := (right_all HRB.out).1
        rw [HL.out] at hlen
        have hb22 : at_ zs k ≤ 2097152 := by omega
        obtain ⟨hb10, hb11⟩ := hb1
        obtain ⟨hb20, hb21⟩ := hb2
        obtain ⟨hf0, hf1, hf2, hf3⟩ := clip_facts HCK.out
        rw [HTT.out] at hf2 hf3
        have HCELL := Aside0.mk hcell
        clear hb21 hcell
        have HSN := Aside0.mk (partsPre_snoc zs off tt pre ⟨k, hk⟩)
        have HV := Aside0.mk hv
        have HROW := Aside0.mk hrow
        have HB' := Aside0.mk hB
        have HLT := Aside0.mk hlt
        have HX := Aside0.mk hx
        have HO := Aside0.mk ho
        have HT := Aside0.mk ht
        have hc := hv.cell
        have hp : part zs off tt k = part1 k (zs.getD k 0) (at_ zs k) off tt := rfl
        have HP := Aside0.mk hp
        clear hp hv hrow hB hlt
        dsimp only
        generalize zs.getD k 0 = z at hcx HP hb10 hb11
        generalize ha : at_ zs k = a at HP hb20 hb22
        have HA := Aside0.mk ha
        clear ha
        have hmx : Try.prog.follows .mixedOrders = true := by kernel_rfl
        have HCX := Aside0.mk hcx
        clear bO bN hB1 b1 b2 b3 H14 hx1 HBX hs2 hs3
        by_cases hst : tt ≤ a
        · gi_wp2
          have HX2 := HX.out
          refine ⟨KeepsFrom.refl _ _, rfl, pre, ⟨k, hk⟩, rfl, ?_, ⟨⟨HX.out, HO.out, HT.out⟩, ?_⟩, HB'.out⟩
          rotate_left
          · first | exact ⟨v, HV.out, HROW.out⟩ | exact ⟨v, HV.out, HROW.out, trivial⟩
          show tt ≤ at_ zs k
          rw [HA.out]; exact hst
        · clear hcx
          gi_wp2
          clear hx ho ht
          have HW1 := Aside0.mk (IntWalk.i64_in (off - a) ⟨by omega, by omega⟩)
          have HW2 := Aside0.mk (IntWalk.i64_in (tt - a) ⟨by omega, by omega⟩)
          apply wpIn_region_last (hF := lets_wide.inRound l) (hL := by rfl) (hm := hmx) (hB := by kernel_rfl) (hB2 := by kernel_rfl) (hnd := by kernel_rfl)
          case h =>
            simp only [List.dropLast_cons_cons, List.dropLast_singleton]
            apply grow_fixed (c := (.int .i64 (k : Int)))
            case hw => simp [Region.wanted, yielded]
            case ho =>
              intro w' hb hf
              clear hf
              refine ⟨?_⟩
              go_simp
              first | exact ⟨Ext.refl _ _, rfl⟩ | exact Ext.refl _ _ | exact ⟨Ext.refl _ _, by first | rw [HW1.out] | rw [HW2.out]⟩
            simp only [Act.put]
            apply grow_fixed (c := (.int .i64 off))
            case hw => simp [Region.wanted, yielded]
            case ho =>
              intro w' hb hf
              clear hf
              have c1 := (hb.cell (p := ⟨w1.heap.size, 0, none⟩) (World.block_lt_of_cell? W _ HO.out)).trans HO.out
              refine ⟨?_⟩
              go_simp
              first | exact ⟨Ext.refl _ _, rfl⟩ | exact Ext.refl _ _ | exact ⟨Ext.refl _ _, by first | rw [HW1.out] | rw [HW2.out]⟩
            simp only [Act.put]
            apply grow_fixed (c := (.int .i64 a))
            case hw => simp [Region.wanted, yielded]
            case ho =>
              intro w' hb hf
              clear hf
              refine ⟨?_⟩
              go_simp
              first | exact ⟨Ext.refl _ _, rfl⟩ | exact Ext.refl _ _ | exact ⟨Ext.refl _ _, by first | rw [HW1.out] | rw [HW2.out]⟩
            simp only [Act.put]
            apply grow_fixed (c := (.int .i64 (off - a)))
            case hw => simp [Region.wanted, yielded]
            case ho =>
              intro w' hb hf
              clear hf
              refine ⟨?_⟩
              go_simp
              first | exact ⟨Ext.refl _ _, rfl⟩ | exact Ext.refl _ _ | exact ⟨Ext.refl _ _, by first | rw [HW1.out] | rw [HW2.out]⟩
            simp only [Act.put]
            apply grow_fixed (c := (.int .i64 (maxI (off - a) 0)))
            case hw => simp [Region.wanted, yielded]
            case ho =>
              intro w' hb hf
              clear hf
              refine ⟨?_⟩
              go_simp
              first | exact ⟨Ext.refl _ _, rfl⟩ | exact Ext.refl _ _ | exact ⟨Ext.refl _ _, by first | rw [HW1.out] | rw [HW2.out]⟩
            simp only [Act.put]
            apply grow_fixed (c := (.int .i64 tt))
            case hw => simp [Region.wanted, yielded]
            case ho =>
              intro w' hb hf
              clear hf
              have c1 := (hb.cell (p := ⟨w1.heap.size + 1, 0, none⟩) (World.block_lt_of_cell? W _ HT.out)).trans HT.out
              refine ⟨?_⟩
              go_simp
              first | exact ⟨Ext.refl _ _, rfl⟩ | exact Ext.refl _ _ | exact ⟨Ext.refl _ _, by first | rw [HW1.out] | rw [HW2.out]⟩
            simp only [Act.put]
            apply grow_fixed (c := (.int .i64 a))
            case hw => simp [Region.wanted, yielded]
            case ho =>
              intro w' hb hf
              clear hf
              refine ⟨?_⟩
              go_simp
              first | exact ⟨Ext.refl _ _, rfl⟩ | exact Ext.refl _ _ | exact ⟨Ext.refl _ _, by first | rw [HW1.out] | rw [HW2.out]⟩
            simp only [Act.put]
            apply grow_fixed (c := (.int .i64 (tt - a)))
            case hw => simp [Region.wanted, yielded]
            case ho =>
              intro w' hb hf
              clear hf
              refine ⟨?_⟩
              go_simp
              first | exact ⟨Ext.refl _ _, rfl⟩ | exact Ext.refl _ _ | exact ⟨Ext.refl _ _, by first | rw [HW1.out] | rw [HW2.out]⟩
            simp only [Act.put]
            apply grow_fixed (c := (.slice (some ad) len cap))
            case hw => simp [Region.wanted, yielded]
            case ho =>
              intro w' hb hf
              clear hf
              have c1 := (hb.cell (p := ⟨w.heap.size, 0, none⟩) (World.block_lt_of_cell? W _ HX.out)).trans HX.out
              refine ⟨?_⟩
              go_simp
              first | exact ⟨Ext.refl _ _, rfl⟩ | exact Ext.refl _ _ | exact ⟨Ext.refl _ _, by first | rw [HW1.out] | rw [HW2.out]⟩
            simp only [Act.put]
            apply grow_fixed (c := (.int .i64 (k : Int)))
            case hw => simp [Region.wanted, yielded]
            case ho =>
              intro w' hb hf
              clear hf
              refine ⟨?_⟩
              go_simp
              first | exact ⟨Ext.refl _ _, rfl⟩ | exact Ext.refl _ _ | exact ⟨Ext.refl _ _, by first | rw [HW1.out] | rw [HW2.out]⟩
            simp only [Act.put]
            apply grow_fixed (c := (.pointer (some (ad.add k))))
            case hw => simp [Region.wanted, yielded]
            case ho =>
              intro w' hb hf
              clear hf
              refine ⟨?_⟩
              go_simp
              first | exact ⟨Ext.refl _ _, rfl⟩ | exact Ext.refl _ _ | exact ⟨Ext.refl _ _, by first | rw [HW1.out] | rw [HW2.out]⟩
            simp only [Act.put]
            apply grow_fixed (c := (.int .i64 z))
            case hw => simp [Region.wanted, yielded]
            case ho =>
              intro w' hb hf
              clear hf
              have c1 := (hb.cell (p := ad.add k) (World.block_lt_of_cell? W _ HCX.out)).trans HCX.out
              refine ⟨?_⟩
              go_simp
              first | exact ⟨Ext.refl _ _, rfl⟩ | exact Ext.refl _ _ | exact ⟨Ext.refl _ _, by first | rw [HW1.out] | rw [HW2.out]⟩
            simp only [Act.put]
            apply grow_fixed (c := (.int .i64 (minI (tt - a) z)))
            case hw => simp [Region.wanted, yielded]
            case ho =>
              intro w' hb hf
              clear hf
              refine ⟨?_⟩
              go_simp
              first | exact ⟨Ext.refl _ _, rfl⟩ | exact Ext.refl _ _ | exact ⟨Ext.refl _ _, by first | rw [HW1.out] | rw [HW2.out]⟩
            simp only [Act.put]
            apply grow_fixed (c := (.agg #[.int .i64 (k : Int), .int .i64 (maxI (off - a) 0), .int .i64 (minI (tt - a) z)]))
            case hw => simp [Region.wanted, yielded]
            case ho =>
              intro w' hb hf
              clear hf
              refine ⟨?_⟩
              go_simp
              first | exact ⟨Ext.refl _ _, rfl⟩ | exact Ext.refl _ _ | exact ⟨Ext.refl _ _, by first | rw [HW1.out] | rw [HW2.out]⟩
            simp only [Act.put]
            apply grow_free (G := NewBox W.heap.size 34 #[.int .i64 0, .int .i64 0, .int .i64 0])
            case hw => simp [Region.wanted, yielded]
            case hm => exact NewBox.mono
            case ho =>
              intro w' hb hf
              clear hf
              refine ⟨?_⟩
              go_simp
              exact ⟨Ext.of_below (by simpa using hb.size) ((Below.refl _ w').alloc (Nat.le_refl _) _), NewBox.alloc 34 _ w' (by simpa using hb.size)⟩
            intro q
            simp only [Act.put]
            refine grow_nil (fun w' hb hf => ?_)
            have hq := hf _ List.mem_cons_self
            dsimp only at hq
            have hq2 := hq
            obtain ⟨g, fr, rfl, hg, -, -⟩ := hq2
            have c0 := hq.cell 0
            have c1 := hq.cell 1
            have c2 := hq.cell 2
            have f0 := hq.frozen 0 (by decide)
            have f1 := hq.frozen 1 (by decide)
            have f2 := hq.frozen 2 (by decide)
            have HQ := Aside0.mk hq
            clear hf hq
            refine ⟨by simp [Region.wanted, yielded], ⟨?_⟩⟩
            go_simp
            simp only [OnlyNormal]
            have hb3 := ((hb.setCell (p := ⟨g, 0, none⟩) hg (.int .i64 (k : Int))).setCell (p := ⟨g, 1, none⟩) hg (.int .i64 (maxI (off - a) 0))).setCell (p := ⟨g, 2, none⟩) hg (.int .i64 (minI (tt - a) z))
            have d0 : (((w'.setCell ⟨g, 0, none⟩ (.int .i64 (k : Int))).setCell ⟨g, 1, none⟩ (.int .i64 (maxI (off - a) 0))).setCell ⟨g, 2, none⟩ (.int .i64 (minI (tt - a) z))).cell? ⟨g, 0, none⟩ = some (.int .i64 (k : Int)) := by
              rw [World.cell?_setCell_other _ _ _ _ (by simp), World.cell?_setCell_other _ _ _ _ (by simp)]
              exact World.cell?_setCell_same' _ _ _ (by rw [c0]; rfl)
            have d1 : (((w'.setCell ⟨g, 0, none⟩ (.int .i64 (k : Int))).setCell ⟨g, 1, none⟩ (.int .i64 (maxI (off - a) 0))).setCell ⟨g, 2, none⟩ (.int .i64 (minI (tt - a) z))).cell? ⟨g, 1, none⟩ = some (.int .i64 (maxI (off - a) 0)) := by
              rw [World.cell?_setCell_other _ _ _ _ (by simp)]
              exact World.cell?_setCell_same' _ _ _ (by rw [World.cell?_setCell_other _ _ _ _ (by simp), c1]; rfl)
            have d2 : (((w'.setCell ⟨g, 0, none⟩ (.int .i64 (k : Int))).setCell ⟨g, 1, none⟩ (.int .i64 (maxI (off - a) 0))).setCell ⟨g, 2, none⟩ (.int .i64 (minI (tt - a) z))).cell? ⟨g, 2, none⟩ = some (.int .i64 (minI (tt - a) z)) := by
              exact World.cell?_setCell_same' _ _ _ (by rw [World.cell?_setCell_other _ _ _ _ (by simp), World.cell?_setCell_other _ _ _ _ (by simp), c2]; rfl)
            generalize (((w'.setCell ⟨g, 0, none⟩ (.int .i64 (k : Int))).setCell ⟨g, 1, none⟩ (.int .i64 (maxI (off - a) 0))).setCell ⟨g, 2, none⟩ (.int .i64 (minI (tt - a) z))) = W3 at hb3 d0 d1 d2
            clear c0 c1 c2 f0 f1 f2 HQ hb w'
            have hg3 : W.grownBy W3 none := ⟨hb3.os, hb3.tape, hb3.output, hb3.size, fun k hk _ => hb3.block k hk⟩
            have hv3 := HV.out.kept hg3 (by simp)
            have hrow3 := pw_own_below HROW.out hb3
            have hc3 := hv3.cell
            have HV3 := Aside0.mk hv3
            have HROW3 := Aside0.mk hrow3
            have HB3 := Aside0.mk hb3
            have HG3 := Aside0.mk hg3
            have hp1 := HP.out
            clear hv3 hrow3 hb3 hg3
            unfold part1 at hp1
            generalize maxI (off - a) 0 = fr at *
            generalize minI (tt - a) z = up at *
            by_cases hlt : fr < up
            · rw [if_pos hlt] at hp1
              have HP1 := Aside0.mk hp1
              clear hp1
              have HN3 := Aside0.mk (cell3_new W3 34 (.int .i64 (k : Int)) (.int .i64 fr) (.int .i64 up))
              have HLEN := Aside0.mk (show (partsPre zs off tt pre).length + 1 ≤ maxLen by have := partsPre_len zs off tt pre; have := HLT.out; unfold maxLen; omega)
              have HBY := Aside0.mk (show ((partsPre zs off tt pre).length + 1) * 24 ≤ 140737488355328 by have := partsPre_len zs off tt pre; have := HLT.out; omega)
              have HBASE := Aside0.mk (show w1.heap.size + 1 + 1 ≤ (W3.alloc (.cells #[.int .i64 (k : Int), .int .i64 fr, .int .i64 up] 34)).heap.size by have := HV3.out.lt; simp; omega)
              have HR3 := Aside0.mk (HROW3.out.alloc (.cells #[.int .i64 (k : Int), .int .i64 fr, .int .i64 up] 34))
              have HB2 := Aside0.mk (show w1.heap.size + 1 + 1 ≤ W3.heap.size by have := HV3.out.lt; omega)
              gi_wp2_with (gi_at_builtin; refine wpListIn_append_own _ rfl _ _ 27 rfl (w1.heap.size + 1 + 1) 34 i0 (.agg #[.int .i64 0, .int .i64 0, .int .i64 0]) 3 24 Try.underlying27 HI1.out HI2.out HI3.out HI4.out rfl (by decide) v _ _ rfl HR3.out ⟨W3.heap.size, 0, none⟩ 1 1 [.int .i64 (k : Int), .int .i64 fr, .int .i64 up] rfl rfl HN3.out (cells3_one (k : Int) fr up) HLEN.out HBY.out HBASE.out ?_; intro v' w4 hown' hgrow _; obtain ⟨g', cap', rfl⟩ := ownsRow_succ hown'; obtain ⟨hv1, hv2, hr2, hk2, hb2⟩ := HV3.out.appended (by decide) HROW3.out HB2.out (Nat.le_refl _) hown' hgrow; have hc1 := hv1.cell; have hf1 := hv1.frozen; have HAV := Aside0.mk hv2; have HAR := Aside0.mk hr2; have HAK := Aside0.mk hk2; have HAB := Aside0.mk hb2; clear hv1 hv2 hr2 hk2 hb2 hown' hgrow)
              have hW : ∀ b, b < w1.heap.size + 1 + 1 → b < W.heap.size := fun b hb => by have := HV.out.lt; omega
              have hk3 : ∀ B, KeepsFrom B W W3 := fun B => KeepsFrom.of_grownBy HG3.out (fun j e => by cases e)
              have hb3' : Below w.heap.size W W3 := HB3.out.mono HB'.out.size
              have hb4 := hb3'.trans (HAB.out.mono (by omega))
              refine ⟨(hk3 _).trans (HAK.out.from _), hb4, ⟨⟨?_, ?_, ?_⟩, ?_⟩, HB'.out.trans hb4⟩
              · exact (HAB.out.cell (p := ⟨w.heap.size, 0, none⟩) (by show w.heap.size < _; omega)).trans ((HB3.out.cell (p := ⟨w.heap.size, 0, none⟩) (hW _ (by show w.heap.size < _; omega))).trans HX.out)
              · exact (HAB.out.cell (p := ⟨w1.heap.size, 0, none⟩) (by show w1.heap.size < _; omega)).trans ((HB3.out.cell (p := ⟨w1.heap.size, 0, none⟩) (hW _ (by show w1.heap.size < _; omega))).trans HO.out)
              · exact (HAB.out.cell (p := ⟨w1.heap.size + 1, 0, none⟩) (by show w1.heap.size + 1 < _; omega)).trans ((HB3.out.cell (p := ⟨w1.heap.size + 1, 0, none⟩) (hW _ (by show w1.heap.size + 1 < _; omega))).trans HT.out)
              · refine ⟨_, HAV.out, ?_⟩
                rw [HSN.out, HP1.out]
                first | simpa [cells3] using HAR.out | (refine ⟨?_, trivial⟩; simpa [cells3] using HAR.out)
            · rw [if_neg hlt] at hp1
              have HP1 := Aside0.mk hp1
              clear hp1
              gi_wp2
              have hW : ∀ b, b < w1.heap.size + 1 + 1 → b < W.heap.size := fun b hb => by have := HV.out.lt; omega
              have hk3 : ∀ B, KeepsFrom B W W3 := fun B => KeepsFrom.of_grownBy HG3.out (fun j e => by cases e)
              have hb3' : Below w.heap.size W W3 := HB3.out.mono HB'.out.size
              refine ⟨hk3 _, hb3', ⟨⟨?_, ?_, ?_⟩, ?_⟩, HB'.out.trans hb3'⟩
              · exact (HB3.out.cell (p := ⟨w.heap.size, 0, none⟩) (hW _ (by show w.heap.size < _; omega))).trans HX.out
              · exact (HB3.out.cell (p := ⟨w1.heap.size, 0, none⟩) (hW _ (by show w1.heap.size < _; omega))).trans HO.out
              · exact (HB3.out.cell (p := ⟨w1.heap.size + 1, 0, none⟩) (hW _ (by show w1.heap.size + 1 < _; omega))).trans HT.out
              · refine ⟨_, HV3.out, ?_⟩
                rw [HSN.out, HP1.out]
                first | simpa using HROW3.out | (refine ⟨?_, trivial⟩; simpa using HROW3.out)
          case hsp => exact ⟨NewBox.mono, trivial⟩
      case done =>
        rintro D ys W hD hys ⟨⟨⟨hx, ho, ht⟩, v, hv, hrow, -⟩, hB⟩ hK
        have hc := hv.cell
        have HROW := Aside0.mk hrow
        have HB' := Aside0.mk hB
        have HYS := Aside0.mk hys
        clear hrow hB hys bO bN hB1 b1 b2 b3 hx1 hx ho ht
        gi_wp2
        refine ⟨by simp, .inl ⟨_, _, rfl, run_takeDeferred hK, ?_⟩⟩
        have e : partsPre zs off tt ys = partsOf zs off n := by
          rw [partsPre_first HYS.out, partsOf, HCK.out, HRB.out, HTT.out, HL.out]; rfl
        have hrow := own_weaken HROW.out (show w.heap.size ≤ _ by omega)
        rw [e] at hrow
        exact ⟨_, results_tmp rfl _ _ _, v, rfl, ownsRow_putObj hrow _ hK rfl, HB'.out.trans (belowK_b (w := w) (Nat.le_refl _) W D _ _ (by simp at hD; omega) hK rfl rfl)⟩
      case stop =>
        rintro D c pre W hD hpre ⟨rfl, ini, last, rfl, hst, ⟨⟨hx, ho, ht⟩, v, hv, hrow, -⟩, hB⟩ hK
        have hc := hv.cell
        have HROW := Aside0.mk hrow
        have HB' := Aside0.mk hB
        have HYS := Aside0.mk hpre
        have HST := Aside0.mk hst
        clear hrow hB hpre bO bN hB1 b1 b2 b3 hx1 hx ho ht hst
        gi_wp2
        refine ⟨by simp, .inl ⟨_, _, rfl, run_takeDeferred hK, ?_⟩⟩
        have e : partsPre zs off tt ini = partsOf zs off n := by
          obtain ⟨k, hk, hf⟩ := HYS.out
          obtain ⟨hf1, rfl⟩ := firstK_snoc hf
          rw [partsPre_first hf1, partsOf, HCK.out, HRB.out, HTT.out]
          exact (parts_stop HRB.out off tt HST.out _ (by rw [HL.out]; omega) (Nat.le_refl _)).symm
        have hrow := own_weaken HROW.out (show w.heap.size ≤ _ by omega)
        rw [e] at hrow
        exact ⟨_, results_tmp rfl _ _ _, v, rfl, ownsRow_putObj hrow _ hK rfl, HB'.out.trans (belowK_b (w := w) (Nat.le_refl _) W D _ _ (by simp at hD; omega) hK rfl rfl)⟩
end Go.Proofs.Ytbadkblofihjhaa
