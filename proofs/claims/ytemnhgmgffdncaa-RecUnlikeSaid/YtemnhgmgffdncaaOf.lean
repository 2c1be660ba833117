/-
  Layer 4: what is got of bytes.
-/
import Derived.Test.YtemnhgmgffdncaaTake
import Derived.Lib.LazyBuf
namespace Go.Proofs.Ytemnhgmgffdncaa
set_option linter.unusedVariables false
set_option linter.unusedSimpArgs false
open Go.RowKit Go.Proofs.YtemnhgmgffdncaaW.PrintWords Go.Proofs.YtemnhgmgffdncaaW.PrintMore
attribute [local go_sem] max2_int

def numF (xs : List Int) (size : Nat) : Int × List Int := if xs.length < size then (-1, xs) else (beV (xs.take size), xs.drop size)
theorem num_any {B0 : Nat} (gb size : Nat) (xs : List Int) (w : World) (h : RdAt w gb B0 xs) (hs : size ≤ 7) (hu : u8s xs) :
    Calls Try.prog 44 #[.pointer (some ⟨gb, 0, none⟩), .int .i64 (size : Int)] w fun e w' => e = .returned (.int .i64 (numF xs size).1) ∧ RdAt w' gb B0 (numF xs size).2 ∧ w.grownBy w' (some gb) := by
  unfold numF
  by_cases hn : xs.length < size
  · rw [if_pos hn]
    refine (num_less gb size xs w h hn).mono ?_
    rintro e w' ⟨rfl, rfl⟩
    exact ⟨rfl, h, World.grownBy.refl _ _⟩
  · rw [if_neg hn]
    exact num_calls gb size xs w h (by omega) hs hu
theorem numF_u8s {xs : List Int} (hu : u8s xs) (size : Nat) : u8s (numF xs size).2 := by
  unfold numF
  split
  · exact hu
  · exact u8s_drop hu _
theorem numF_range {xs : List Int} (hu : u8s xs) (size : Nat) : -1 ≤ (numF xs size).1 ∧ (numF xs size).1 < 256 ^ size := by
  unfold numF
  split
  · refine ⟨by show -1 ≤ (-1 : Int); omega, ?_⟩
    have : (0 : Int) < 256 ^ size := Int.pow_pos (by decide)
    show (-1 : Int) < _
    omega
  · have h := beV_bound (xs.take size) (u8s_take hu _)
    have hl : (xs.take size).length = size := by rw [List.length_take]; omega
    rw [hl] at h
    exact ⟨by have := h.1; show -1 ≤ beV _; omega, h.2⟩
set_option maxRecDepth 100000 in
set_option maxHeartbeats 1000000 in
theorem clone_calls (A : Option Addr) (c : Nat) (xs : List Int) (w : World) (hr : ReadsInt w .u8 A xs.length xs) (hb : xs.length ≤ 140737488355328) :
    Calls Try.prog 45 #[.slice A xs.length c] w fun e w' => ∃ v, e = .returned v ∧ w'.ownsRow w.heap.size 5 1 v xs.length (nums .u8 xs) ∧ Below w.heap.size w w' := by
  have HR := Aside0.mk hr
  have HB := Aside0.mk hb
  clear hr hb
  have q50 : ∀ (w : World) (a : Option Addr) (n c : Nat), (binOp .eql 50 (.slice a n c) (.slice none 0 0)).run Try.prog w = .ok (.bool a.isNone) w := fun w a n c => run_eql_slice_nil w _ _ a n c Try.underlying50
  cases A with
  | none =>
    have hx : xs = [] := by
      rcases Nat.eq_zero_or_pos xs.length with h | h
      · exact List.eq_nil_of_length_eq_zero h
      · obtain ⟨ad, e, _⟩ := HR.out.2.2 h; cases e
    subst hx
    go_enter Try.func45, Try.ntmps45
    go_wp2
    go_ret
    exact ⟨_, rfl, World.ownsRow_nil _ _ _ _, Below.refl _ _⟩
  | some ad =>
    go_enter Try.func45, Try.ntmps45
    go_upto_region 3 with fail
    go_wp2_with (at_builtin; refine wpList_appendE (.tmp 5) (.tmp 6) 50 rfl rfl rfl rfl ?_; obtain ⟨v1, w1, hr1, ho1, hg1, _⟩ := bytes_run (t := 50) (u := 50) (ty := 50) Try.underlying50 Try.underlying50 w.heap.size (.slice (some ⟨w.heap.size, 0, none⟩) 0 0) [] xs (some ad) xs.length c (World.ownsRow_made w #[] 0 (Nat.le_refl _) (Nat.zero_le _) rfl) (HR.out.below (below_alloc (Below.refl _ _) _)) (below_alloc (Below.refl _ _) _).size (by have := HB.out; simpa using this); refine ⟨v1, w1, hr1, ?_⟩; have HO := Aside0.mk ho1; have HG := Aside0.mk hg1; clear ho1 hg1 hr1)
    go_ret
    refine ⟨_, rfl, HO.out, ?_⟩
    exact pw_below_grown ((Below.refl _ _).alloc (Nat.le_refl _) _) _ (below_alloc (Below.refl _ _) _).size HG.out (fun k e => by simp [Value.ownBlock] at e; omega)
/-- A row of one's own, wherever it stands. -/
def OwnB (W : World) (B : Nat) (v : Value) (xs : List Int) : Prop := W.ownsRow B 5 1 v xs.length (nums .u8 xs)
set_option maxRecDepth 100000 in
theorem tombOf_calls {B0 : Nat} (g gb : Nat) (kind : Int) (key : ByteArray) (id no size : Int) (vL vB : Value) (xs : List Int) (w : World) (hr : RecIs w g kind key id no size vL vB) (hb : RdAt w gb B0 xs) :
    Calls Try.prog 41 #[.pointer (some ⟨g, 0, none⟩), .pointer (some ⟨gb, 0, none⟩)] w fun e w' => e = .returned (.bool true) ∧ RecIs w' g kind (strOfNums xs) id no size vL vB ∧ Two g gb w w' := by
  obtain ⟨A, c, hb⟩ := hb
  have HR := Aside0.mk hr
  have c1 := hr.c1
  have f1 := hr.fr 1
  have k0 := hb.cell
  have hcs := conv_str (T := 50) Try.underlying50 hb.rd c
  clear hr hb
  go_enter Try.func41, Try.ntmps41
  go_wp2
  go_ret
  exact ⟨rfl, HR.out.set1 _, Two.left (grown_set w g 1 _)⟩
theorem ne_ptr {W : World} {g gb B0 : Nat} {kind id no size : Int} {key : ByteArray} {vL vB : Value} {xs : List Int} (hr : RecIs W g kind key id no size vL vB) (hb : RdAt W gb B0 xs) : g ≠ gb := fun e => by
  subst e
  obtain ⟨A, c, h⟩ := hb
  have := h.blk
  rw [hr.blk] at this
  injection this with this
  injection this with _ this
  cases this
theorem RdAt.below {W W' : World} {gb B0 : Nat} {xs : List Int} (h : RdAt W gb B0 xs) (hg : Below W.heap.size W W') : RdAt W' gb B0 xs := h.grows hg
theorem own_set {W : World} {B g i n sz : Nat} {v u : Value} {e t : TypeId} {ys : List Value} {cs : Array Value} (h : W.ownsRow B e sz v n ys) (hg : W.heap[g]? = some (.cells cs t (0, 0))) (hne : e ≠ t) : (W.setCell ⟨g, i, none⟩ u).ownsRow B e sz v n ys :=
  own_keep h fun k _ _ cs' hcs => set_other W g i u hcs fun e2 => by
    subst e2
    rw [hg] at hcs
    injection hcs with hcs
    injection hcs with _ hcs
    exact hne hcs.symm
structure NumIs (B0 gb : Nat) (k : Int) (xs : List Int) (p : Int × List Int) : Prop where
  run : ∀ w, RdAt w gb B0 xs → Calls Try.prog 44 #[.pointer (some ⟨gb, 0, none⟩), .int .i64 k] w fun e w' => e = .returned (.int .i64 p.1) ∧ RdAt w' gb B0 p.2 ∧ w.grownBy w' (some gb)
set_option maxRecDepth 100000 in
set_option maxHeartbeats 1000000 in
theorem pieceOf_calls {B0 : Nat} (g gb : Nat) (kind : Int) (key : ByteArray) (id no size : Int) (vL vB : Value) (xs : List Int) (w : World) (hr : RecIs w g kind key id no size vL vB) (hb : RdAt w gb B0 xs) (hu : u8s xs) (hl : xs.length ≤ 100000000000) :
    Calls Try.prog 29 #[.pointer (some ⟨g, 0, none⟩), .pointer (some ⟨gb, 0, none⟩)] w fun e w' => e = .returned (.bool (decide (0 ≤ (numF (numF xs 6).2 2).1))) ∧ (∃ v, RecIs w' g kind key (numF xs 6).1 (numF (numF xs 6).2 2).1 size vL v ∧ OwnB w' w.heap.size v (numF (numF xs 6).2 2).2) ∧ Two g gb w w' := by
  have HNE := Aside0.mk (ne_ptr hr hb)
  have HR := Aside0.mk hr
  have HB := Aside0.mk hb
  have HU := Aside0.mk hu
  clear hr hb
  have hng : some g ≠ some gb := by have := HNE.out; intro e; injection e with e; exact this e
  have HNG := Aside0.mk hng
  have hr1 := (numF_range (numF_u8s hu 6) 2)
  have HL2 := Aside0.mk (show (numF (numF xs 6).2 2).2.length ≤ 100000000000 from by
    have h1 : ∀ (ys : List Int) (k : Nat), (numF ys k).2.length ≤ ys.length := fun ys k => by
      unfold numF
      split
      · exact Nat.le_refl _
      · show (ys.drop k).length ≤ _; rw [List.length_drop]; omega
    exact Nat.le_trans (h1 _ _) (Nat.le_trans (h1 _ _) hl))
  have H1 : Aside0 (NumIs B0 gb 6 xs (numF xs 6)) := ⟨⟨fun w h => num_any gb 6 xs w h (by decide) hu⟩⟩
  have H2 : Aside0 (NumIs B0 gb 2 (numF xs 6).2 (numF (numF xs 6).2 2)) := ⟨⟨fun w h => num_any gb 2 (numF xs 6).2 w h (by decide) (numF_u8s hu 6)⟩⟩
  clear hng hu hl
  generalize numF xs 6 = p6 at H1 H2 hr1 HL2 ⊢
  obtain ⟨i6, xs6⟩ := p6
  simp only at H1 H2 hr1 HL2 ⊢
  generalize numF xs6 2 = p2 at H2 hr1 HL2 ⊢
  obtain ⟨i2, xs2⟩ := p2
  simp only at H2 hr1 HL2 ⊢
  obtain ⟨hr1, hr2⟩ := hr1
  have hr3 : i2 < 65536 := hr2
  clear hr2
  go_enter Try.func29, Try.ntmps29
  go_upto_region 2 with (first
    | (go_at_call 44; ((with_reducible refine (H1.out.run _ HB.out).mono ?_)); rintro e w1 ⟨rfl, hrd, hg⟩; have HRD := Aside0.mk hrd; have HG := Aside0.mk hg; clear hrd hg)
    | (go_at_call 44; ((with_reducible refine (H2.out.run _ HRD.out).mono ?_)); rintro e w2 ⟨rfl, hrd, hg⟩; have HRD2 := Aside0.mk hrd; have HG2 := Aside0.mk hg; have HR2 := Aside0.mk ((HR.out.far HG.out HNG.out).far hg HNG.out); have c2 := HR2.out.c2; have f2 := HR2.out.fr 2; have c3 := HR2.out.c3; have f3 := HR2.out.fr 3; clear hrd hg))
  have HR3 := Aside0.mk ((HR2.out.set2 i6).set3 i2)
  have HRD3 := Aside0.mk ((HRD2.out.set (i := 2) (u := .int .i64 i6) (fun e => HNE.out e.symm) HR2.out.c2 (fun z e => by cases e)).set (i := 3) (u := .int .i64 i2) (fun e => HNE.out e.symm) (HR2.out.set2 i6).c3 (fun z e => by cases e))
  have HG3 := Aside0.mk (show Two g gb w _ from (((Two.right HG.out).trans (Two.right HG2.out)).trans (Two.left (grown_set w2 g 2 (.int .i64 i6)))).trans (Two.left (grown_set _ g 3 (.int .i64 i2))))
  clear c2 f2 c3 f3
  generalize (w2.setCell ⟨g, 2, none⟩ (.int .i64 i6)).setCell ⟨g, 3, none⟩ (.int .i64 i2) = w3 at HR3 HRD3 HG3 ⊢
  obtain ⟨A, c, hrd3⟩ := HRD3.out
  have k3 := hrd3.cell
  have HD3 := Aside0.mk hrd3
  clear hrd3
  go_upto_region 3 with (go_at_call 45; refine (clone_calls A c xs2 w3 HD3.out.rd (by have := HL2.out; omega)).mono ?_; rintro e w4 ⟨v4, rfl, ho4, hb4⟩; have HO4 := Aside0.mk ho4; have HB4 := Aside0.mk hb4; have HR4 := Aside0.mk (HR3.out.grows hb4); have c6 := HR4.out.c6; have f6 := HR4.out.fr 6; obtain ⟨A4, d4, rfl, _⟩ := own_slice ho4; clear ho4 hb4)
  have HR5 := Aside0.mk (HR4.out.set6 (.slice A4 xs2.length d4))
  have HO5 := Aside0.mk (own_set (i := 6) (u := .slice A4 xs2.length d4) HO4.out HR4.out.blk (by decide))
  have HG5 := Aside0.mk ((HG3.out.trans (Two.grows HB4.out)).trans (Two.left (grown_set w4 g 6 (.slice A4 xs2.length d4))))
  clear c6 f6 k3
  generalize w4.setCell ⟨g, 6, none⟩ (.slice A4 xs2.length d4) = w5 at HR5 HO5 HG5 ⊢
  have c3 := HR5.out.c3
  go_wp2
  go_ret
  exact ⟨rfl, ⟨_, HR5.out, own_mono HO5.out HG3.out.size⟩, HG5.out⟩
theorem keyF_len (xs : List Int) : (keyF xs).2.1.length ≤ xs.length := by
  cases xs with
  | nil => exact Nat.le_refl _
  | cons n rest =>
    simp only [keyF]
    by_cases h : rest.length < n.toNat
    · rw [if_pos h]; simp
    · rw [if_neg h]; simp; omega
theorem keyF_u8s {xs : List Int} (hu : u8s xs) : u8s (keyF xs).2.1 := by
  cases xs with
  | nil => exact hu
  | cons n rest =>
    have hr : u8s rest := fun x hx => hu x (List.mem_cons_of_mem _ hx)
    simp only [keyF]
    by_cases h : rest.length < n.toNat
    · rw [if_pos h]; exact hr
    · rw [if_neg h]; exact u8s_drop hr _
structure KeyIs (B0 g gb : Nat) (kind : Int) (key : ByteArray) (id no size : Int) (vL vB : Value) (xs : List Int) (p : ByteArray × List Int × Bool) : Prop where
  run : ∀ w, RecIs w g kind key id no size vL vB → RdAt w gb B0 xs → Calls Try.prog 46 #[.pointer (some ⟨gb, 0, none⟩), .pointer (some ⟨g, 0, none⟩)] w fun e w' => e = .returned (.bool p.2.2) ∧ RecIs w' g kind p.1 id no size vL vB ∧ RdAt w' gb B0 p.2.1 ∧ Two g gb w w'
set_option maxRecDepth 100000 in
set_option maxHeartbeats 1000000 in
theorem inlineOf_calls {B0 : Nat} (g gb : Nat) (kind : Int) (key : ByteArray) (id no size : Int) (vL vB : Value) (xs : List Int) (w : World) (hr : RecIs w g kind key id no size vL vB) (hb : RdAt w gb B0 xs) (hu : u8s xs) (hl : xs.length ≤ 100000000000) :
    Calls Try.prog 37 #[.pointer (some ⟨g, 0, none⟩), .pointer (some ⟨gb, 0, none⟩)] w fun e w' => e = .returned (.bool (keyF xs).2.2) ∧ (∃ v, RecIs w' g kind (keyF xs).1 id no size vL v ∧ OwnB w' w.heap.size v (keyF xs).2.1) ∧ Two g gb w w' := by
  have HNE := Aside0.mk (ne_ptr hr hb)
  have HR := Aside0.mk hr
  have HB := Aside0.mk hb
  have HLL := Aside0.mk (Nat.le_trans (keyF_len xs) hl)
  have H1 : Aside0 (KeyIs B0 g gb kind key id no size vL vB xs (keyF xs)) := ⟨⟨fun w h1 h2 => keyed_calls g gb kind key id no size vL vB xs w h1 h2 hu⟩⟩
  clear hr hb hu hl
  generalize keyF xs = p at HLL H1 ⊢
  obtain ⟨key', xs', ok⟩ := p
  simp only at HLL H1 ⊢
  go_enter Try.func37, Try.ntmps37
  go_upto_region 2 with (go_at_call 46; refine (H1.out.run _ HR.out HB.out).mono ?_; rintro e w3 ⟨rfl, hr3, hb3, hg3⟩; have HR3 := Aside0.mk hr3; have HRD3 := Aside0.mk hb3; have HG3 := Aside0.mk hg3; clear hr3 hb3 hg3)
  obtain ⟨A, c, hrd3⟩ := HRD3.out
  have k3 := hrd3.cell
  have HD3 := Aside0.mk hrd3
  clear hrd3
  go_upto_region 3 with (go_at_call 45; refine (clone_calls A c xs' w3 HD3.out.rd (by have := HLL.out; omega)).mono ?_; rintro e w4 ⟨v4, rfl, ho4, hb4⟩; have HO4 := Aside0.mk ho4; have HB4 := Aside0.mk hb4; have HR4 := Aside0.mk (HR3.out.grows hb4); have c6 := HR4.out.c6; have f6 := HR4.out.fr 6; obtain ⟨A4, d4, rfl, _⟩ := own_slice ho4; clear ho4 hb4)
  have HR5 := Aside0.mk (HR4.out.set6 (.slice A4 xs'.length d4))
  have HO5 := Aside0.mk (own_set (i := 6) (u := .slice A4 xs'.length d4) HO4.out HR4.out.blk (by decide))
  have HG5 := Aside0.mk ((HG3.out.trans (Two.grows HB4.out)).trans (Two.left (grown_set w4 g 6 (.slice A4 xs'.length d4))))
  clear c6 f6 k3
  generalize w4.setCell ⟨g, 6, none⟩ (.slice A4 xs'.length d4) = w5 at HR5 HO5 HG5 ⊢
  go_wp2
  go_ret
  exact ⟨rfl, ⟨_, HR5.out, own_mono HO5.out HG3.out.size⟩, HG5.out⟩
end Go.Proofs.Ytemnhgmgffdncaa

/-
  Layer 4: a Root's parts, as they are got.
-/
namespace Go.Proofs.Ytemnhgmgffdncaa
set_option linter.unusedVariables false
set_option linter.unusedSimpArgs false
open Go.RowKit Go.Proofs.YtemnhgmgffdncaaW.PrintWords Go.Proofs.YtemnhgmgffdncaaW.PrintMore
attribute [local go_sem] max2_int

abbrev Loc3 := Int × Int × Int
def locCells (l : List Loc3) : List Value := l.flatMap fun x => [.int .i64 x.1, .int .i64 x.2.1, .int .i64 x.2.2]
theorem locCells_length (l : List Loc3) : (locCells l).length = l.length * 3 := by
  induction l with
  | nil => rfl
  | cons x l ih => simp only [locCells, List.flatMap_cons, List.length_append, List.length_cons, List.length_nil] at ih ⊢; omega
theorem locCells_append (l k : List Loc3) : locCells (l ++ k) = locCells l ++ locCells k := by simp [locCells]
theorem locCells_one (l : List Loc3) : ∀ u ∈ locCells l, u.oneCell' = true := by
  intro u hu
  obtain ⟨x, _, hx⟩ := List.mem_flatMap.1 hu
  simp only [List.mem_cons, List.not_mem_nil, or_false] at hx
  rcases hx with rfl | rfl | rfl <;> rfl
def locsF : Nat → List Loc3 → List Int → List Loc3 × List Int × Bool
  | 0, acc, xs => (acc, xs, true)
  | k + 1, acc, xs => if (numF (numF (numF xs 4).2 4).2 2).1 < 0 then (acc, [], false) else locsF k (acc ++ [((numF xs 4).1, (numF (numF xs 4).2 4).1, (numF (numF (numF xs 4).2 4).2 2).1)]) (numF (numF (numF xs 4).2 4).2 2).2
theorem numF_len (ys : List Int) (k : Nat) : (numF ys k).2.length ≤ ys.length := by
  unfold numF
  split
  · exact Nat.le_refl _
  · show (ys.drop k).length ≤ _; rw [List.length_drop]; omega
/-- A Root's fields out of the bytes behind its kind. -/
def rootF (xs : List Int) : Option (ByteArray × Int × Int × List Loc3) :=
  if (keyF xs).2.2 = true then
    if 0 ≤ (numF (numF (numF (keyF xs).2.1 6).2 3).2 2).1 ∧ (locsF (numF (numF (numF (keyF xs).2.1 6).2 3).2 2).1.toNat [] (numF (numF (numF (keyF xs).2.1 6).2 3).2 2).2).2.2 = true ∧ (locsF (numF (numF (numF (keyF xs).2.1 6).2 3).2 2).1.toNat [] (numF (numF (numF (keyF xs).2.1 6).2 3).2 2).2).2.1 = [] then
      some ((keyF xs).1, (numF (keyF xs).2.1 6).1, (numF (numF (keyF xs).2.1 6).2 3).1, (locsF (numF (numF (numF (keyF xs).2.1 6).2 3).2 2).1.toNat [] (numF (numF (numF (keyF xs).2.1 6).2 3).2 2).2).1)
    else none
  else none
/-- What the call may turn: the record, the pointer, and what it made itself. -/
def Own2 (g gb B : Nat) (W W' : World) : Prop := KeepS (fun k => k = g ∨ k = gb ∨ B ≤ k) W W'
theorem Two.own {g gb : Nat} {w a b : World} (h : Two g gb w a) (k : Own2 g gb w.heap.size a b) : Two g gb w b :=
  ⟨k.os.trans h.os, k.tape.trans h.tape, k.output.trans h.output, Nat.le_trans h.size k.size, fun i hi hn => (k.block i (Nat.lt_of_lt_of_le hi h.size) (fun e => by
    rcases e with e | e | e
    · exact hn (.inl e)
    · exact hn (.inr e)
    · omega)).trans (h.block i hi hn)⟩
theorem Own2.two {g gb B : Nat} {W W' : World} (h : Two g gb W W') : Own2 g gb B W W' := h.mono fun k _ e => e.elim .inl (fun e => .inr (.inl e))
structure MoreIs (B0 gb : Nat) (xs : List Int) (p : Loc3 × List Int) : Prop where
  one : NumIs B0 gb 4 xs (p.1.1, (numF xs 4).2)
  two : NumIs B0 gb 4 (numF xs 4).2 (p.1.2.1, (numF (numF xs 4).2 4).2)
  three : NumIs B0 gb 2 (numF (numF xs 4).2 4).2 (p.1.2.2, p.2)
theorem more_is {B0 : Nat} (gb : Nat) (xs : List Int) (hu : u8s xs) : MoreIs B0 gb xs (((numF xs 4).1, (numF (numF xs 4).2 4).1, (numF (numF (numF xs 4).2 4).2 2).1), (numF (numF (numF xs 4).2 4).2 2).2) :=
  ⟨⟨fun w h => num_any gb 4 xs w h (by decide) hu⟩, ⟨fun w h => num_any gb 4 _ w h (by decide) (numF_u8s hu 4)⟩, ⟨fun w h => num_any gb 2 _ w h (by decide) (numF_u8s (numF_u8s hu 4) 4)⟩⟩
theorem info39 : (Try.prog.info? 39).map (fun i => (i.zero, i.size, i.bytes)) = some (some (.agg #[.int .i64 0, .int .i64 0, .int .i64 0]), 3, 24) := by kernel_rfl
end Go.Proofs.Ytemnhgmgffdncaa
