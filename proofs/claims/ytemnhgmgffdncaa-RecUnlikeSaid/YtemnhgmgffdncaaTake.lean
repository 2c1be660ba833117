/-
  Layer 4: bytes that numbers are taken from.
-/
import Derived.Test.YtemnhgmgffdncaaPut
import Derived.Test.YtemnhgmgffdncaaWMore
namespace Go.Proofs.Ytemnhgmgffdncaa
set_option linter.unusedVariables false
set_option linter.unusedSimpArgs false
open Go.RowKit Go.Proofs.YtemnhgmgffdncaaW.PrintWords

/-- Bytes behind a pointer, that are read. -/
structure RdIs (W : World) (gb B0 : Nat) (A : Option Addr) (c : Nat) (xs : List Int) : Prop where
  blk : W.heap[gb]? = some (.cells #[.slice A xs.length c] 50 (0, 0))
  le : xs.length ≤ c
  rd : ReadsInt W .u8 A xs.length xs
  low : xs ≠ [] → ∀ ad, A = some ad → ad.block < B0
def RdAt (W : World) (gb B0 : Nat) (xs : List Int) : Prop := ∃ A c, RdIs W gb B0 A c xs
theorem RdIs.cell {W : World} {gb B0 c : Nat} {A : Option Addr} {xs : List Int} (h : RdIs W gb B0 A c xs) : W.cell? ⟨gb, 0, none⟩ = some (.slice A xs.length c) := cell_of_row W gb 0 _ 50 (0, 0) h.blk
theorem RdIs.fr {W : World} {gb B0 c : Nat} {A : Option Addr} {xs : List Int} (h : RdIs W gb B0 A c xs) : W.frozen? ⟨gb, 0, none⟩ = false := frozen_of_row W gb 0 _ 50 h.blk
theorem RdAt.grows {W W' : World} {gb B0 : Nat} {xs : List Int} (h : RdAt W gb B0 xs) (hg : Grows W W') : RdAt W' gb B0 xs :=
  h.elim fun A h => h.elim fun c h => ⟨A, c, (hg.block gb (lt_heap h.blk)).trans h.blk, h.le, h.rd.below hg, h.low⟩
/-- .. as another block than the pointer's turns, one that holds no bytes. -/
theorem RdAt.set {W : World} {gb g i B0 : Nat} {x u : Value} {xs : List Int} (h : RdAt W gb B0 xs) (hne : gb ≠ g) (hx : W.cell? ⟨g, i, none⟩ = some x) (hn : ∀ z, x ≠ .int .u8 z) : RdAt (W.setCell ⟨g, i, none⟩ u) gb B0 xs :=
  h.elim fun A h => h.elim fun c h => ⟨A, c, set_other W g i u h.blk hne, h.le, reads_set h.rd hx hn, h.low⟩
theorem cut_from {T : TypeId} (hT : Try.prog.underlying T = some (.slice 5)) (hT' : Try.prog.elem T = 5) {A : Option Addr} {n c : Nat} (k : Nat) (hk : k ≤ n) (hnc : n ≤ c) : ∃ A' : Option Addr, (A' = if c = k then A else A.map (·.add k)) ∧ ∀ w : World, (Instr.slice T (.slice A n c) (some (.int .i64 (k : Int))) none none).run Try.prog w = .ok (.slice A' (n - k) (c - k)) w := by
  refine ⟨_, rfl, fun w => ?_⟩
  have h1 : ((k : Int)) ≤ (n : Int) := by omega
  have h2 : ((n : Int)) ≤ (c : Int) := by omega
  have hT2 : Try.prog.underlying T = some (.slice (Try.prog.elem T)) := by rw [hT']; exact hT
  split
  · subst c; go_simp
  · go_simp
set_option maxRecDepth 100000 in
theorem take_less {B0 : Nat} (gb n : Nat) (xs : List Int) (w : World) (h : RdAt w gb B0 xs) (hn : xs.length < n) :
    Calls Try.prog 47 #[.pointer (some ⟨gb, 0, none⟩), .int .i64 (n : Int)] w fun e w' => e = .returned (.tuple #[.slice none 0 0, .bool false]) ∧ w' = w := by
  obtain ⟨A, c, h⟩ := h
  have k0 := h.cell
  have hn' : (xs.length : Int) < (n : Int) := by omega
  clear h
  go_enter Try.func47, Try.ntmps47
  go_wp2
  go_ret2
  exact ⟨rfl, rfl⟩
set_option maxRecDepth 100000 in
theorem take_calls {B0 : Nat} (gb n : Nat) (xs : List Int) (w : World) (h : RdAt w gb B0 xs) (hn : n ≤ xs.length) :
    Calls Try.prog 47 #[.pointer (some ⟨gb, 0, none⟩), .int .i64 (n : Int)] w fun e w' => ∃ A c, e = .returned (.tuple #[.slice A n c, .bool true]) ∧ RdAt w' gb B0 (xs.drop n) ∧ ReadsInt w' .u8 A n (xs.take n) ∧ n ≤ c ∧ w.grownBy w' (some gb) := by
  obtain ⟨A, c, h⟩ := h
  have H := Aside0.mk h
  have k0 := h.cell
  have f0 := h.fr
  have hle := h.le
  have hn' : ¬ ((xs.length : Int) < (n : Int)) := by omega
  have hn2 : n ≤ c := by omega
  have hn3 : (n : Int) ≤ (c : Int) := by omega
  obtain ⟨A', hA', hsl⟩ := cut_from (T := 50) Try.underlying50 rfl (A := A) n hn hle
  have HA := Aside0.mk hA'
  clear h hA'
  go_enter Try.func47, Try.ntmps47
  go_wp2
  go_ret2
  refine ⟨A, c, rfl, ⟨A', c - n, ?_, ?_, ?_, ?_⟩, reads_set (reads_take H.out.rd n hn) H.out.cell (fun z e => by cases e), hn2, grown_set w gb 0 _⟩
  · have := blk_set H.out.blk 0 (.slice A' (xs.length - n) (c - n))
    rw [List.length_drop]; exact this
  · rw [List.length_drop]; omega
  · have := reads_drop H.out.rd n c hn hle
    rw [← HA.out, ← List.length_drop] at this
    exact reads_set this H.out.cell (fun z e => by cases e)
  · intro hne ad e
    have hx : xs ≠ [] := fun e => hne (by rw [e]; simp)
    rw [HA.out] at e
    split at e
    · exact H.out.low hx ad e
    · cases A with
      | none => cases e
      | some a =>
        have e' := Option.some.inj e
        have hb : (a.add n).block = a.block := by unfold Addr.add; split <;> rfl
        rw [← e', hb]
        exact H.out.low hx a rfl
/-- The number of bytes. -/
def beV (xs : List Int) : Int := xs.foldl (fun n c => 256 * n + c) 0
theorem beV_snoc (xs : List Int) (c : Int) : beV (xs ++ [c]) = 256 * beV xs + c := by simp [beV, List.foldl_append]
theorem beV_aux : ∀ (xs : List Int) (acc : Int) (k : Nat), u8s xs → 0 ≤ acc → acc < 256 ^ k → 0 ≤ xs.foldl (fun n c => 256 * n + c) acc ∧ xs.foldl (fun n c => 256 * n + c) acc < 256 ^ (k + xs.length)
  | [], acc, k, _, h0, h1 => by simpa using ⟨h0, h1⟩
  | c :: xs, acc, k, hu, h0, h1 => by
    have hc := hu c (List.mem_cons_self)
    have e : (256 : Int) ^ (k + 1) = 256 ^ k * 256 := Int.pow_succ _ _
    have := beV_aux xs (256 * acc + c) (k + 1) (fun x hx => hu x (List.mem_cons_of_mem _ hx)) (by omega) (by omega)
    rw [List.length_cons, show k + (xs.length + 1) = k + 1 + xs.length by omega]
    exact this
theorem beV_bound (xs : List Int) (h : u8s xs) : 0 ≤ beV xs ∧ beV xs < 256 ^ xs.length := by
  have := beV_aux xs 0 0 h (by omega) (by simp)
  simpa [beV] using this
theorem or_low (n c : Int) (h0 : 0 ≤ n) (h1 : n < 36028797018963968) (hc0 : 0 ≤ c) (hc1 : c < 256) : bits .or .i64 (256 * n) c = 256 * n + c :=
  bits_join .i64 63 (by decide) (fun n h0 h1 => IntWalk.i64_in _ ⟨by omega, Int.le_sub_one_of_lt (show n < 9223372036854775808 from h1)⟩) 8 (256 * n) c (by omega) (by show 256 * n % 256 = 0; omega) (by show 256 * n < 9223372036854775808; omega) hc0 (by show c < 256; omega) (by show c < 9223372036854775808; omega)
theorem shl_low (n : Int) (h0 : 0 ≤ n) (h1 : n < 36028797018963968) : IntKind.i64.wrap (n * 256) = 256 * n := by
  rw [IntWalk.i64_in _ ⟨by omega, by omega⟩]; omega
set_option maxRecDepth 100000 in
theorem num_less {B0 : Nat} (gb size : Nat) (xs : List Int) (w : World) (h : RdAt w gb B0 xs) (hn : xs.length < size) :
    Calls Try.prog 44 #[.pointer (some ⟨gb, 0, none⟩), .int .i64 (size : Int)] w fun e w' => e = .returned (.int .i64 (-1)) ∧ w' = w := by
  have H := Aside0.mk h
  clear h
  go_enter Try.func44, Try.ntmps44
  go_wp2_with (go_at_call 47; refine (take_less gb size xs _ H.out hn).mono ?_; rintro e w' ⟨rfl, hww⟩; replace hww := hww.symm; subst hww)
  go_ret
  exact ⟨rfl, rfl⟩
set_option maxRecDepth 100000 in
set_option maxHeartbeats 1000000 in
theorem num_calls {B0 : Nat} (gb size : Nat) (xs : List Int) (w : World) (h : RdAt w gb B0 xs) (hn : size ≤ xs.length) (hs : size ≤ 7) (hu : u8s xs) :
    Calls Try.prog 44 #[.pointer (some ⟨gb, 0, none⟩), .int .i64 (size : Int)] w fun e w' => e = .returned (.int .i64 (beV (xs.take size))) ∧ RdAt w' gb B0 (xs.drop size) ∧ w.grownBy w' (some gb) := by
  have H := Aside0.mk h
  have HU := Aside0.mk (u8s_take hu size)
  have HTL := Aside0.mk (show (xs.take size).length = size by rw [List.length_take]; omega)
  clear h hu
  go_enter Try.func44, Try.ntmps44
  go_wp2_with (go_at_call 47; refine (take_calls gb size xs _ H.out hn).mono ?_; rintro e w1 ⟨A, c, rfl, hrd, hr, hc, hg⟩; have HRD := Aside0.mk hrd; have HR := Aside0.mk hr; have HG := Aside0.mk hg; clear hrd hr hg)
  generalize hys : xs.take size = ys at HU HTL HR
  have HYS := Aside0.mk hys
  clear hys
  go_loopg [7, 9, 20] size (fun f v7 v9 v20 wz => ∃ i : Nat, Aside0 (f + i = size) ∧ i ≤ size ∧ v20 = .int .i64 i ∧ v7 = .int .i64 (beV (ys.take i)) ∧ w1 = wz)
  case atStart => exact ⟨0, ⟨rfl⟩, by omega, rfl, rfl, rfl⟩
  case round =>
    obtain ⟨i, HF, hi, rfl, rfl, rfl⟩ := hrel
    by_cases hlt : i < size
    · have hlt2 : (i : Int) < (size : Int) := by omega
      obtain ⟨ad, rfl, hcl⟩ := HR.out.2.2 (by omega)
      have hcell := hcl i hlt
      have hil : i < ys.length := by rw [HTL.out]; exact hlt
      rw [List.getD_eq_getElem?_getD, List.getElem?_eq_getElem hil, Option.getD_some] at hcell
      have hts : ys.take (i + 1) = ys.take i ++ [ys[i]] := List.take_succ_eq_append_getElem hil
      have hbs := beV_snoc (ys.take i) ys[i]
      have hbb := beV_bound (ys.take i) (u8s_take HU.out i)
      have hyi := HU.out ys[i] (List.getElem_mem hil)
      have hpw : (256 : Int) ^ (ys.take i).length ≤ 256 ^ 6 := by
        have : (ys.take i).length ≤ 6 := by rw [List.length_take]; omega
        exact_mod_cast Nat.pow_le_pow_right (by decide : 0 < 256) this
      have hb1 : beV (ys.take i) < 36028797018963968 := by
        have : (256 : Int) ^ 6 = 281474976710656 := by decide
        omega
      have hor := or_low (beV (ys.take i)) ys[i] hbb.1 hb1 hyi.1 hyi.2
      have hshl := shl_low (beV (ys.take i)) hbb.1 hb1
      rw [← hts] at hbs
      have HBS := Aside0.mk hbs
      obtain ⟨hq0, hq1⟩ := hyi
      have hbb0 := hbb.1
      clear hts hbs hbb hpw hcl
      generalize ys[i] = q at hcell hor HBS hq0 hq1
      generalize beV (ys.take i) = n at hor hshl HBS hb1 hbb0 ⊢
      go_wp2
      go_roundg (size - (i + 1))
      case measure => have := HF.out; omega
      case rel => exact ⟨i + 1, ⟨by have := HF.out; omega⟩, by omega, by go_num, by rw [HBS.out], rfl⟩
    · obtain rfl : i = size := by omega
      go_wp2
      go_ret
      have hfin : beV (ys.take i) = beV (xs.take i) := by rw [HYS.out, List.take_of_length_le (by rw [HTL.out]; exact Nat.le_refl _)]
      exact ⟨by rw [← hfin]; rfl, HRD.out, HG.out⟩
end Go.Proofs.Ytemnhgmgffdncaa

/-
  Layer 4: a record behind a pointer; its key.
-/
namespace Go.Proofs.Ytemnhgmgffdncaa
set_option linter.unusedVariables false
set_option linter.unusedSimpArgs false
open Go.RowKit Go.Proofs.YtemnhgmgffdncaaW.PrintWords Go.Proofs.YtemnhgmgffdncaaW.PrintMore
attribute [local go_sem] max2_int

/-- A record's cells. -/
def recCells (kind : Int) (key : ByteArray) (id no size : Int) (vL vB : Value) : Array Value := #[.int .i64 kind, .string key, .int .i64 id, .int .i64 no, .int .i64 size, vL, vB]
def RecIs (W : World) (g : Nat) (kind : Int) (key : ByteArray) (id no size : Int) (vL vB : Value) : Prop := W.heap[g]? = some (.cells (recCells kind key id no size vL vB) 49 (0, 0))
section
variable {W W' : World} {g : Nat} {kind id no size : Int} {key : ByteArray} {vL vB : Value}
theorem RecIs.blk (h : RecIs W g kind key id no size vL vB) : W.heap[g]? = some (.cells (recCells kind key id no size vL vB) 49 (0, 0)) := h
theorem RecIs.lt (h : RecIs W g kind key id no size vL vB) : g < W.heap.size := lt_heap h
theorem RecIs.grows (h : RecIs W g kind key id no size vL vB) (hg : Grows W W') : RecIs W' g kind key id no size vL vB := (hg.block g h.lt).trans h
theorem RecIs.far {r : Option Nat} (h : RecIs W g kind key id no size vL vB) (hg : W.grownBy W' r) (hne : some g ≠ r) : RecIs W' g kind key id no size vL vB := (hg.block g h.lt hne).trans h
theorem RecIs.c0 (h : RecIs W g kind key id no size vL vB) : W.cell? ⟨g, 0, none⟩ = some (.int .i64 kind) := cell_of_row W g 0 _ 49 (0, 0) h
theorem RecIs.c1 (h : RecIs W g kind key id no size vL vB) : W.cell? ⟨g, 1, none⟩ = some (.string key) := cell_of_row W g 1 _ 49 (0, 0) h
theorem RecIs.c2 (h : RecIs W g kind key id no size vL vB) : W.cell? ⟨g, 2, none⟩ = some (.int .i64 id) := cell_of_row W g 2 _ 49 (0, 0) h
theorem RecIs.c3 (h : RecIs W g kind key id no size vL vB) : W.cell? ⟨g, 3, none⟩ = some (.int .i64 no) := cell_of_row W g 3 _ 49 (0, 0) h
theorem RecIs.c4 (h : RecIs W g kind key id no size vL vB) : W.cell? ⟨g, 4, none⟩ = some (.int .i64 size) := cell_of_row W g 4 _ 49 (0, 0) h
theorem RecIs.c5 (h : RecIs W g kind key id no size vL vB) : W.cell? ⟨g, 5, none⟩ = some vL := cell_of_row W g 5 _ 49 (0, 0) h
theorem RecIs.c6 (h : RecIs W g kind key id no size vL vB) : W.cell? ⟨g, 6, none⟩ = some vB := cell_of_row W g 6 _ 49 (0, 0) h
theorem RecIs.fr (h : RecIs W g kind key id no size vL vB) (j : Nat) : W.frozen? ⟨g, j, none⟩ = false := frozen_of_row W g j _ 49 h
theorem RecIs.set1 (h : RecIs W g kind key id no size vL vB) (x : ByteArray) : RecIs (W.setCell ⟨g, 1, none⟩ (.string x)) g kind x id no size vL vB := blk_set h 1 _
theorem RecIs.set2 (h : RecIs W g kind key id no size vL vB) (x : Int) : RecIs (W.setCell ⟨g, 2, none⟩ (.int .i64 x)) g kind key x no size vL vB := blk_set h 2 _
theorem RecIs.set3 (h : RecIs W g kind key id no size vL vB) (x : Int) : RecIs (W.setCell ⟨g, 3, none⟩ (.int .i64 x)) g kind key id x size vL vB := blk_set h 3 _
theorem RecIs.set4 (h : RecIs W g kind key id no size vL vB) (x : Int) : RecIs (W.setCell ⟨g, 4, none⟩ (.int .i64 x)) g kind key id no x vL vB := blk_set h 4 _
theorem RecIs.set5 (h : RecIs W g kind key id no size vL vB) (x : Value) : RecIs (W.setCell ⟨g, 5, none⟩ x) g kind key id no size x vB := blk_set h 5 _
theorem RecIs.set6 (h : RecIs W g kind key id no size vL vB) (x : Value) : RecIs (W.setCell ⟨g, 6, none⟩ x) g kind key id no size vL x := blk_set h 6 _
end
/-- Two blocks turn. -/
def Two (g gb : Nat) (W W' : World) : Prop := KeepS (fun k => k = g ∨ k = gb) W W'
theorem Two.refl (g gb : Nat) (W : World) : Two g gb W W := KeepS.refl _ _
theorem Two.trans {g gb : Nat} {a b c : World} (h : Two g gb a b) (k : Two g gb b c) : Two g gb a c := KeepS.trans h k
theorem Two.left {g gb : Nat} {W W' : World} (h : W.grownBy W' (some g)) : Two g gb W W' := KeepS.of_grown h fun k e => .inl (by injection e with e; exact e.symm)
theorem Two.right {g gb : Nat} {W W' : World} (h : W.grownBy W' (some gb)) : Two g gb W W' := KeepS.of_grown h fun k e => .inr (by injection e with e; exact e.symm)
theorem Two.grows {g gb : Nat} {W W' : World} (h : Grows W W') : Two g gb W W' := KeepS.of_grows h
theorem Two.below {g gb B : Nat} {W W' : World} (h : Two g gb W W') (hB : B ≤ W.heap.size) (h1 : B ≤ g) (h2 : B ≤ gb) : Below B W W' := KeepS.below h hB fun k e => by rcases e with e | e <;> omega

def keyF (xs : List Int) : ByteArray × List Int × Bool :=
  match xs with
  | [] => (strOfNums [], [], true)
  | n :: rest => if rest.length < n.toNat then (strOfNums [], rest, false) else (strOfNums (rest.take n.toNat), rest.drop n.toNat, true)
set_option maxRecDepth 100000 in
set_option maxHeartbeats 1000000 in
theorem keyed_calls {B0 : Nat} (g gb : Nat) (kind : Int) (key : ByteArray) (id no size : Int) (vL vB : Value) (xs : List Int) (w : World) (hr : RecIs w g kind key id no size vL vB) (hb : RdAt w gb B0 xs) (hu : u8s xs) :
    Calls Try.prog 46 #[.pointer (some ⟨gb, 0, none⟩), .pointer (some ⟨g, 0, none⟩)] w fun e w' => e = .returned (.bool (keyF xs).2.2) ∧ RecIs w' g kind (keyF xs).1 id no size vL vB ∧ RdAt w' gb B0 (keyF xs).2.1 ∧ Two g gb w w' := by
  have hne : g ≠ gb := fun e => by
    subst e
    obtain ⟨A, c, h⟩ := hb
    have := h.blk
    rw [hr.blk] at this
    injection this with this
    injection this with _ this
    cases this
  have HNE := Aside0.mk hne
  have HR := Aside0.mk hr
  have HB := Aside0.mk hb
  clear hr hb hne
  cases xs with
  | nil =>
    go_enter Try.func46, Try.ntmps46
    go_upto_region 2 with (first
      | (go_at_call 44; refine (num_less gb 1 [] _ HB.out (by decide)).mono ?_; rintro e w' ⟨rfl, hww⟩; replace hww := hww.symm; subst hww)
      | (go_at_call 47; refine (take_calls gb 0 [] _ HB.out (by decide)).mono ?_; rintro e w1 ⟨A, c, rfl, hrd, hrr, hc, hg⟩; have HRD := Aside0.mk hrd; have HRR := Aside0.mk hrr; have HG := Aside0.mk hg; clear hrd hrr hg))
    have HR1 := Aside0.mk (HR.out.far HG.out (by have := HNE.out; intro e; injection e with e; exact this e))
    have hcs := conv_str (T := 23) Try.underlying23 HRR.out c
    have f1 := HR1.out.fr 1
    have c1 := HR1.out.c1
    go_wp2
    go_ret
    refine ⟨rfl, HR1.out.set1 _, HRD.out.set (fun e => HNE.out e.symm) HR1.out.c1 (fun z e => by cases e), (Two.right HG.out).trans (Two.left (grown_set w1 g 1 _))⟩
  | cons n rest =>
    have hn := hu n List.mem_cons_self
    have HUR := Aside0.mk (show u8s rest from fun x hx => hu x (List.mem_cons_of_mem _ hx))
    obtain ⟨N, rfl⟩ : ∃ N : Nat, n = (N : Int) := ⟨n.toNat, by omega⟩
    have HU := Aside0.mk hu
    have hN : N < 256 := by omega
    have HBE := Aside0.mk (show beV (((N : Int) :: rest).take 1) = (N : Int) by simp [beV])
    have hmx : mx (N : Int) 0 = (N : Int) := by unfold mx; omega
    clear hn hu
    by_cases hlt : rest.length < N
    · have HK := Aside0.mk (show keyF ((N : Int) :: rest) = (strOfNums [], rest, false) by simp only [keyF, Int.toNat_natCast]; rw [if_pos hlt])
      rw [HK.out]
      go_enter Try.func46, Try.ntmps46
      go_upto_region 2 with (first
        | (go_at_call 44; refine (num_calls gb 1 _ _ HB.out (by simp) (by decide) HU.out).mono ?_; rw [HBE.out]; rintro e w1 ⟨rfl, hrd, hg⟩; have HRD := Aside0.mk (show RdAt w1 gb B0 rest from hrd); have HG := Aside0.mk hg; clear hrd hg)
        | (go_at_call 47; refine (take_less gb N rest _ HRD.out hlt).mono ?_; rintro e w' ⟨rfl, hww⟩; replace hww := hww.symm; subst hww))
      have HR1 := Aside0.mk (HR.out.far HG.out (by have := HNE.out; intro e; injection e with e; exact this e))
      have hcs := conv_str (T := 23) Try.underlying23 (show ReadsInt w1 .u8 none 0 [] from ReadsInt.nil w1 .u8) 0
      have f1 := HR1.out.fr 1
      have c1 := HR1.out.c1
      go_wp2
      go_ret
      refine ⟨rfl, HR1.out.set1 _, HRD.out.set (fun e => HNE.out e.symm) HR1.out.c1 (fun z e => by cases e), (Two.right HG.out).trans (Two.left (grown_set w1 g 1 _))⟩
    · have HK := Aside0.mk (show keyF ((N : Int) :: rest) = (strOfNums (rest.take N), rest.drop N, true) by simp only [keyF, Int.toNat_natCast]; rw [if_neg hlt])
      rw [HK.out]
      go_enter Try.func46, Try.ntmps46
      go_upto_region 2 with (first
        | (go_at_call 44; refine (num_calls gb 1 _ _ HB.out (by simp) (by decide) HU.out).mono ?_; rw [HBE.out]; rintro e w1 ⟨rfl, hrd, hg⟩; have HRD := Aside0.mk (show RdAt w1 gb B0 rest from hrd); have HG := Aside0.mk hg; clear hrd hg)
        | (go_at_call 47; refine (take_calls gb N rest _ HRD.out (by omega)).mono ?_; rintro e w2 ⟨A, c, rfl, hrd2, hrr, hc, hg2⟩; have HRD2 := Aside0.mk hrd2; have HRR := Aside0.mk hrr; have HG2 := Aside0.mk hg2; clear hrd2 hrr hg2))
      have hng : some g ≠ some gb := by have := HNE.out; intro e; injection e with e; exact this e
      have HR1 := Aside0.mk ((HR.out.far HG.out hng).far HG2.out hng)
      have hcs := conv_str (T := 23) Try.underlying23 HRR.out c
      have f1 := HR1.out.fr 1
      have c1 := HR1.out.c1
      clear hng
      go_wp2
      go_ret
      refine ⟨rfl, HR1.out.set1 _, HRD2.out.set (fun e => HNE.out e.symm) HR1.out.c1 (fun z e => by cases e), ((Two.right HG.out).trans (Two.right HG2.out)).trans (Two.left (grown_set w2 g 1 _))⟩
end Go.Proofs.Ytemnhgmgffdncaa
