/-
  Layer 4: the record of bytes: the walk up to the kind's own part.
-/
import Derived.Test.YtemnhgmgffdncaaPutRec
import Derived.Test.YtemnhgmgffdncaaRoot
import Derived.Test.YtemnhgmgffdncaaTurns
namespace Go.Proofs.Ytemnhgmgffdncaa
set_option linter.unusedVariables false
set_option linter.unusedSimpArgs false
open Go.RowKit Go.Proofs.YtemnhgmgffdncaaW.PrintWords Go.Proofs.YtemnhgmgffdncaaW.PrintMore
attribute [local go_sem] max2_int
abbrev Rec5 := ByteArray × Int × Int × Int × List Loc3 × List Int
theorem own_low {W : World} {B : Nat} {v : Value} {xs : List Int} (h : OwnB W B v xs) : ∃ A c, v = .slice A xs.length c ∧ xs.length ≤ c ∧ Low W W.heap.size A xs.length xs := by
  obtain ⟨A, c, rfl, hc⟩ := own_slice h
  refine ⟨A, c, rfl, hc, own_reads' h, fun hn ad e => ?_⟩
  subst e
  rcases h.2 with ⟨e, h0⟩ | ⟨g, cap, cur, e, _, h3, _⟩
  · cases e
  · injection e with e _ _
    injection e with e
    subst e
    exact lt_heap h3
theorem locCells_get : ∀ (ls : List Loc3) (i : Nat) (x : Loc3), ls[i]? = some x → ∀ (j : Nat) (u : Value), [Value.int .i64 x.1, .int .i64 x.2.1, .int .i64 x.2.2][j]? = some u → j < 3 → (locCells ls)[i * 3 + j]? = some u
  | [], i, x, h, _, _, _, _ => by cases h
  | y :: ls, 0, x, h, j, u, hu, hj => by
    obtain rfl := Option.some.inj h
    rw [show locCells (y :: ls) = [Value.int .i64 y.1, .int .i64 y.2.1, .int .i64 y.2.2] ++ locCells ls from rfl, List.getElem?_append_left (by simp; omega), Nat.zero_mul, Nat.zero_add]
    exact hu
  | y :: ls, i + 1, x, h, j, u, hu, hj => by
    rw [show locCells (y :: ls) = [Value.int .i64 y.1, .int .i64 y.2.1, .int .i64 y.2.2] ++ locCells ls from rfl, List.getElem?_append_right (by simp; omega), show (i + 1) * 3 + j - [Value.int .i64 y.1, .int .i64 y.2.1, .int .i64 y.2.2].length = i * 3 + j by simp; omega]
    exact locCells_get ls i x h j u hu hj
theorem own_lowL {W : World} {B : Nat} {v : Value} {ls : List Loc3} (h : W.ownsRow B 39 3 v ls.length (locCells ls)) : ∃ A c, v = .slice A ls.length c ∧ ls.length ≤ c ∧ LowL W W.heap.size A ls := by
  obtain ⟨A, c, rfl, hc⟩ := own_slice h
  refine ⟨A, c, rfl, hc, ?_, fun hn => ?_⟩
  · rcases h.2 with ⟨_, h0⟩ | ⟨g, cap, cur, e, _, h3, h4, h5, _⟩
    · omega
    · have : maxLen = 9223372036854775807 := by decide
      omega
  · rcases h.2 with ⟨_, h0⟩ | ⟨g, cap, cur, e, _, h3, h4, h5, h6, h7⟩
    · omega
    · injection e with e _ _
      subst e
      refine ⟨_, rfl, lt_heap h3, fun i x hx => ?_⟩
      have hi := (List.getElem?_eq_some_iff.1 hx).1
      have hget : ∀ j u, [Value.int .i64 x.1, .int .i64 x.2.1, .int .i64 x.2.2][j]? = some u → j < 3 → cur[i * 3 + j]? = some u := by
        intro j u hu hj
        rw [← Array.getElem?_toList]
        have h8 : (cur.toList.take (ls.length * 3))[i * 3 + j]? = some u := by rw [h7]; exact locCells_get ls i x hx j u hu hj
        rw [List.getElem?_take] at h8
        split at h8
        · exact h8
        · cases h8
      have hadd : (⟨g, 0, none⟩ : Addr).add (i * 3) = ⟨g, i * 3, none⟩ := by
        unfold Addr.add; split
        · rename_i h; rw [h]
        · simp
      rw [hadd]
      refine ⟨?_, ?_, ?_⟩
      · exact (cell_of_row W g (i * 3) cur 39 (0, 0) h3).trans (hget 0 _ rfl (by decide))
      · exact (cell_of_row W g (i * 3 + 1) cur 39 (0, 0) h3).trans (hget 1 _ rfl (by decide))
      · exact (cell_of_row W g (i * 3 + 2) cur 39 (0, 0) h3).trans (hget 2 _ rfl (by decide))
/-- What a kind's Of does. -/
structure GetIs (f3 : FuncId) (k : Int) (ys : List Int) (res : Option Rec5) : Prop where
  run : ∀ (w8 : World) (g gb B0 : Nat), B0 ≤ w8.heap.size → B0 ≤ g → RecIs w8 g k noKey 0 0 0 (.slice none 0 0) (.slice none 0 0) → RdAt w8 gb B0 ys →
    Calls Try.prog f3 #[.pointer (some ⟨g, 0, none⟩), .pointer (some ⟨gb, 0, none⟩)] w8 fun e w' => e = .returned (.bool res.isSome) ∧ (∀ x, res = some x → ∃ vL vB, RecIs w' g k x.1 x.2.1 x.2.2.1 x.2.2.2.1 vL vB ∧ w'.ownsRow w8.heap.size 39 3 vL x.2.2.2.2.1.length (locCells x.2.2.2.2.1) ∧ OwnB w' w8.heap.size vB x.2.2.2.2.2) ∧ Two g gb w8 w'
  call : ∀ (p p' : Value) (w1 : World), (callFunc f3 #[p, p']).run Try.prog w1 = .ok (.enter f3 #[p, p']) w1
theorem grown_keep {W W1 W2 : World} {q : Nat} (h : Grows W W1) (hk : W1.grownBy W2 (some q)) (hq : W.heap.size ≤ q) : Grows W W2 :=
  ⟨hk.os.trans h.os, hk.tape.trans h.tape, hk.output.trans h.output, Nat.le_trans h.size hk.size, fun k hlt => (hk.block k (Nat.lt_of_lt_of_le hlt h.size) (fun e => by injection e with e; omega)).trans (h.block k hlt)⟩
theorem two_recT {W W1 : World} {g gb q : Nat} {t : TypeId} {a : Int} {b : ByteArray} {c d e : Int} {vl vb : Value} (h : RecT t W q a b c d e vl vb) (h2 : Two g gb W W1) (hn : q ≠ g ∧ q ≠ gb) : RecT t W1 q a b c d e vl vb :=
  (h2.block q (lt_heap h) (fun e => e.elim hn.1 hn.2)).trans h
theorem two_grows {W W1 W2 : World} {g gb : Nat} (h : Grows W W1) (h2 : Two g gb W1 W2) (h3 : W.heap.size ≤ g) (h4 : W.heap.size ≤ gb) : Grows W W2 :=
  Below.then h (h2.below h.size h3 h4)
theorem own_setAll {W : World} {B e sz n q : Nat} {v : Value} {xs : List Value} {t : TypeId} {a : Int} {b : ByteArray} {c d f : Int} {vl vb : Value} (h : W.ownsRow B e sz v n xs) (hr : RecT t W q a b c d f vl vb) (ht : t ≠ e) {kind : Int} {key : ByteArray} {id no size : Int} {vL vB : Value} : (setAll W q kind key id no size vL vB).ownsRow B e sz v n xs :=
  own_keep h fun k _ _ cs hk => ((setAll_grown W q kind key id no size vL vB).block k (lt_heap hk) (fun e1 => by
    injection e1 with e1; subst e1
    have h1 := hr.blk
    rw [hk] at h1
    injection h1 with h1
    injection h1 with _ h2
    exact ht h2.symm)).trans hk
/-- What Get answers. -/
def GetPost (w : World) (r : Option (Int × Rec5)) (e : Ending) (w' : World) : Prop :=
  ∃ v, e = .returned (.tuple #[v, .bool r.isSome]) ∧ Grows w w' ∧ (r = none → v = recV 0 noKey 0 0 0 (.slice none 0 0) (.slice none 0 0)) ∧ (∀ k x, r = some (k, x) → ∃ vL vB, v = recV k x.1 x.2.1 x.2.2.1 x.2.2.2.1 vL vB ∧ w'.ownsRow w.heap.size 39 3 vL x.2.2.2.2.1.length (locCells x.2.2.2.2.1) ∧ OwnB w' w.heap.size vB x.2.2.2.2.2)
theorem GetPost.mk_none {w w' : World} {r : Option (Int × Rec5)} (hr : r = none) (hg : Grows w w') : GetPost w r (.returned (.tuple #[recV 0 noKey 0 0 0 (.slice none 0 0) (.slice none 0 0), .bool false])) w' := by
  subst hr
  exact ⟨_, rfl, hg, fun _ => rfl, fun _ _ e => by cases e⟩
theorem GetPost.mk_some {w w' : World} {r : Option (Int × Rec5)} {k : Int} {key : ByteArray} {id no size : Int} {ls : List Loc3} {bs : List Int} {vL vB : Value} (hr : r = some (k, (key, id, no, size, ls, bs))) (hg : Grows w w') (h1 : w'.ownsRow w.heap.size 39 3 vL ls.length (locCells ls)) (h2 : w'.ownsRow w.heap.size 5 1 vB bs.length (nums .u8 bs)) : GetPost w r (.returned (.tuple #[recV k key id no size vL vB, .bool true])) w' := by
  subst hr
  refine ⟨_, rfl, hg, fun e => (by cases e), fun k' x' e => ?_⟩
  have e := Option.some.inj e
  obtain ⟨rfl, rfl⟩ := Prod.mk.inj e
  exact ⟨_, _, rfl, h1, h2⟩
set_option maxRecDepth 100000 in
set_option maxHeartbeats 4000000 in
theorem getR_calls (A : Option Addr) (c : Nat) (k : Int) (ys : List Int) (w : World) (hr : ReadsInt w .u8 A (ys.length + 1) (k :: ys)) (hc : ys.length + 1 ≤ c) (hk0 : 0 ≤ k) (hk1 : k < 256) (kd : Array Value) (is : Bool) (hkd : kindAt k = (kd, is)) (hkz : kd.size = 4) (hk4 : kd.all (·.oneCell') = true) (f0 f1 f2 f3 : FuncId) (res : Option Rec5) (hyes : is = true → kd = #[.func (.func f0) #[] #[], .func (.func f1) #[] #[], .func (.func f2) #[] #[], .func (.func f3) #[] #[]] ∧ GetIs f3 k ys res) (hno : is = false → res = none) :
    Calls Try.prog 11 #[.slice A (ys.length + 1) c] w (GetPost w (res.bind fun x => if rightB k x.1 x.2.1 x.2.2.1 x.2.2.2.1 x.2.2.2.2.1 x.2.2.2.2.2.length then some (k, x) else none)) := by
  have HYES := Aside0.mk hyes
  have HNO := Aside0.mk hno
  clear hyes hno
  have HR := Aside0.mk hr
  have HKD := Aside0.mk hkd
  have HKZ := Aside0.mk hkz
  have HK4 := Aside0.mk hk4
  obtain ⟨ad, hA, hcell⟩ := hr.2.2 (by omega)
  subst hA
  have ha0 : ad.add 0 = ad := by cases ad with | mk b o p => cases p <;> simp [Addr.add]
  have HC := Aside0.mk (show w.cell? ad = some (.int .u8 k) from by have h := hcell 0 (by omega); rw [ha0] at h; exact h)
  clear ha0
  have hwk : IntKind.i64.wrap k = k := IntWalk.i64_in _ ⟨by omega, by omega⟩
  have HRD : Aside0 (∀ W, Grows w W → ReadsInt W .u8 (if c = 1 then some ad else some ⟨ad.block, ad.off + 1, none⟩) ys.length ys) := ⟨fun W hg => by
    have h := (reads_drop hr 1 c (by omega) hc).below hg
    have ha1 : ad.add 1 = ⟨ad.block, ad.off + 1, none⟩ := by rfl
    rw [Option.map_some, ha1, Nat.add_sub_cancel] at h
    exact h⟩
  have HLW : Aside0 (ys ≠ [] → ∀ a, (if c = 1 then some ad else some ⟨ad.block, ad.off + 1, none⟩) = some a → a.block < w.heap.size) := ⟨fun _ a e => by
    have h1 : ad.block < w.heap.size := World.block_lt_of_cell? w _ HC.out
    split at e <;> (obtain rfl := Option.some.inj e; exact h1)⟩
  clear hr hcell hkd hkz hk4
  have hz : (((ys.length : Int) + 1) == 0) = false := beq_eq_false_iff_ne.2 (by omega)
  go_enter Try.func11, Try.ntmps11
  go_upto_region 3 with fail
  have HG1 := Aside0.mk (show Grows w _ from (Below.refl w.heap.size w).alloc (Nat.le_refl _) (.cells #[.int .i64 0, .string (⟨#[]⟩ : ByteArray), .int .i64 0, .int .i64 0, .int .i64 0, .slice none 0 0, .slice none 0 0] 25))
  have HQ1 := Aside0.mk (show RecT 25 _ _ 0 noKey 0 0 0 (.slice none 0 0) (.slice none 0 0) from heap_alloc_new w (.cells #[.int .i64 0, .string (⟨#[]⟩ : ByteArray), .int .i64 0, .int .i64 0, .int .i64 0, .slice none 0 0, .slice none 0 0] 25))
  generalize w.alloc (.cells #[.int .i64 0, .string (⟨#[]⟩ : ByteArray), .int .i64 0, .int .i64 0, .int .i64 0, .slice none 0 0, .slice none 0 0] 25) = w1 at HG1 HQ1 ⊢
  obtain ⟨q, hqq⟩ : ∃ q, q = w.heap.size := ⟨_, rfl⟩
  rw [← hqq] at HQ1 ⊢
  have HWQ := Aside0.mk (Nat.le_of_eq hqq.symm)
  clear hqq
  have HC1 := Aside0.mk ((HG1.out.cell (World.block_lt_of_cell? w _ HC.out)).trans HC.out)
  have hpl : (0 : Int) < (ys.length : Int) + 1 := by omega
  apply wp_region_phase (GrowsN 45) (KeepN (fun t => t = 45) w1.heap.size) (growsN_phase _ _) (NoBox w1.heap.size 45) (NoBox.start w1 45) (fun _ _ k h => h.grows k) (hm := by kernel_rfl) (hB := by kernel_rfl)
  case h =>
    apply phase_free (G := (fun v W => ∃ m, v = .map (some m) ∧ KindsAt W m))
    case hw => simp [Region.wanted, yielded]
    case ho =>
      intro w' hk hf
      clear hf
      refine ⟨?_⟩
      go_simp
      exact (kinds_calls w').mono fun e w2 h => h.elim fun m h => ⟨_, h.1, h.2.2, m, rfl, h.2.1⟩
    case hm => exact fun v a c h hk => h.elim fun m h => ⟨m, h.1, hk.block m _ h.2 (.inr fun cs t e => by cases e)⟩
    intro v13
    simp only [Act.put, List.setIfInBounds_toArray, List.set_cons_zero, List.set_cons_succ]
    iterate 2
      apply phase_fixed
      case hw => simp [Region.wanted, yielded]
      case ho =>
        intro w' hk hf
        clear hf
        refine ⟨?_⟩
        go_simp
        exact ⟨GrowsN.refl _ _, rfl⟩
      simp only [Act.put, List.setIfInBounds_toArray, List.set_cons_zero, List.set_cons_succ]
    apply phase_fixed (c := .int .u8 k)
    case hw => simp [Region.wanted, yielded]
    case ho =>
      intro w' hk hf
      clear hf
      have hb := hk.below (Nat.le_refl _)
      have kc := (hb.cell (World.block_lt_of_cell? w1 _ HC1.out)).trans HC1.out
      refine ⟨?_⟩
      go_simp
      exact ⟨GrowsN.refl _ _, rfl⟩
    simp only [Act.put, List.setIfInBounds_toArray, List.set_cons_zero, List.set_cons_succ]
    apply phase_fixed (c := .int .i64 k)
    case hw => simp [Region.wanted, yielded]
    case ho =>
      intro w' hk hf
      clear hf
      refine ⟨?_⟩
      go_simp
      exact ⟨GrowsN.refl _ _, rfl⟩
    simp only [Act.put, List.setIfInBounds_toArray, List.set_cons_zero, List.set_cons_succ]
    apply phase_fixed (c := .tuple #[.agg kd, .bool is])
    case hw => simp [Region.wanted, yielded]
    case ho =>
      intro w' hk hf
      obtain ⟨m, e7, hm⟩ : ∃ m, v13 = .map (some m) ∧ KindsAt w' m := hf _ (List.Mem.head _) (by kernel_rfl)
      clear hf
      subst e7
      have hlk := run_look w' m k hm
      rw [HKD.out] at hlk
      refine ⟨?_⟩
      go_simp
      exact ⟨GrowsN.refl _ _, rfl⟩
    simp only [Act.put, List.setIfInBounds_toArray, List.set_cons_zero, List.set_cons_succ]
    iterate 3
      apply phase_fixed
      case hw => simp [Region.wanted, yielded]
      case ho =>
        intro w' hk hf
        clear hf
        refine ⟨?_⟩
        go_simp
        exact ⟨GrowsN.refl _ _, rfl⟩
      simp only [Act.put, List.setIfInBounds_toArray, List.set_cons_zero, List.set_cons_succ]
    apply phase_turn_free (G := (Box w1.heap.size 45 4)) (J := (fun v W => OneBox w1.heap.size 45 #[.nilFunc, .nilFunc, .nilFunc, .nilFunc] W))
    case hw => simp [Region.wanted, yielded]
    case ho =>
      intro w' hk hf hI
      clear hf
      have HI := Aside0.mk hI
      clear hI
      refine ⟨?_⟩
      go_simp
      exact ⟨KeepN.of_grows ((Below.refl _ _).alloc (Nat.le_refl _) _), (HI.out.alloc _).1, (HI.out.alloc _).2⟩
    case hJ => exact fun v a c h hh => hh.grows h
    case hm => exact fun v a c h hk => h.keep hk
    intro v4
    simp only [Act.put, List.setIfInBounds_toArray, List.set_cons_zero, List.set_cons_succ]
    apply phase_turn (c := undef) (J := OneBox w1.heap.size 45 kd)
    case hw => simp [Region.wanted, yielded]
    case ho =>
      intro w' hk hf hI
      obtain ⟨q3, e3, hq3, cs3, hc3, hs3⟩ : Box w1.heap.size 45 4 v4 w' := hf _ (List.Mem.head _) (by kernel_rfl)
      clear hf
      subst e3
      exact growAt_store_row 45 (.tmp 4) (.tmp 19) rfl q3 kd rfl rfl 45 cs3 hc3 (by rw [HKZ.out]; kernel_rfl) (by rw [hs3, HKZ.out]) HK4.out ⟨KeepN.setRow _ hc3 (by rw [hs3, HKZ.out]) hq3 rfl, hI.setRow _ hq3 hc3, rfl⟩
    case hJ => exact fun a c h hh => hh.grows h
    simp only [Act.put, List.setIfInBounds_toArray, List.set_cons_zero, List.set_cons_succ]
    iterate 1
      apply phase_fixed
      case hw => simp [Region.wanted, yielded]
      case ho =>
        intro w' hk hf
        clear hf
        refine ⟨?_⟩
        go_simp
        exact ⟨GrowsN.refl _ _, rfl⟩
      simp only [Act.put, List.setIfInBounds_toArray, List.set_cons_zero, List.set_cons_succ]
    refine phase_nil (fun w5 hk5 hI hf5 => ?_)
    obtain ⟨q4, e4, hq4, hc4⟩ := hI.full (hf5 _ (List.Mem.head _))
    clear hI hf5
    subst e4
    have hg5 : Grows w1 w5 := hk5.below (Nat.le_refl _)
    have HG5 := Aside0.mk (HG1.out.trans hg5)
    have HQ5 := Aside0.mk (HQ1.out.grows hg5)
    have HC5 := Aside0.mk ((hg5.cell (World.block_lt_of_cell? w1 _ HC1.out)).trans HC1.out)
    have HD5 := Aside0.mk hc4
    clear hk5 hg5 hc4 hq4
    have hc2 : (ys.length : Int) + 1 ≤ (c : Int) := by omega
    have hc3 : (1 : Int) ≤ (ys.length : Int) + 1 := by omega
    have hc4 : 1 ≤ ys.length + 1 := by omega
    go_upto_region 4 with fail
    apply U.wp_region_phase Grows (KeepN (fun t => t = 49 ∨ t = 50) w5.heap.size) (keepN_phase _ _) (fun _ => True) trivial (fun _ _ _ h => h) (hm := by kernel_rfl) (hB := by kernel_rfl)
    case h =>
      iterate 2
        apply U.phase_fixed
        case hw => simp [Region.wanted, yielded]
        case ho =>
          intro w' hk hf
          clear hf
          refine ⟨?_⟩
          go_simp
          exact ⟨Grows.refl _, rfl⟩
        simp only [Act.put, List.setIfInBounds_toArray, List.set_cons_zero, List.set_cons_succ]
      apply U.phase_fixed (c := .int .u8 k)
      case hw => simp [Region.wanted, yielded]
      case ho =>
        intro w' hk hf
        clear hf
        have hb := hk.below (Nat.le_refl _)
        have kc := (hb.cell (World.block_lt_of_cell? w5 _ HC5.out)).trans HC5.out
        refine ⟨?_⟩
        go_simp
        exact ⟨Grows.refl _, rfl⟩
      simp only [Act.put, List.setIfInBounds_toArray, List.set_cons_zero, List.set_cons_succ]
      apply U.phase_fixed (c := .int .i64 k)
      case hw => simp [Region.wanted, yielded]
      case ho =>
        intro w' hk hf
        clear hf
        refine ⟨?_⟩
        go_simp
        exact ⟨Grows.refl _, rfl⟩
      simp only [Act.put, List.setIfInBounds_toArray, List.set_cons_zero, List.set_cons_succ]
      iterate 3
        apply U.phase_fixed
        case hw => simp [Region.wanted, yielded]
        case ho =>
          intro w' hk hf
          clear hf
          refine ⟨?_⟩
          go_simp
          exact ⟨Grows.refl _, rfl⟩
        simp only [Act.put, List.setIfInBounds_toArray, List.set_cons_zero, List.set_cons_succ]
      apply U.phase_free (G := (Box w5.heap.size 49 7))
      case hw => simp [Region.wanted, yielded]
      case ho =>
        intro w' hk hf
        clear hf
        refine ⟨?_⟩
        go_simp
        exact ⟨(Below.refl _ _).alloc (Nat.le_refl _) _, Box.alloc 49 _ hk.size⟩
      case hm => exact fun v a c h hk => h.keep hk
      intro v6
      simp only [Act.put, List.setIfInBounds_toArray, List.set_cons_zero, List.set_cons_succ]
      apply U.phase_free (G := (Box w5.heap.size 50 1))
      case hw => simp [Region.wanted, yielded]
      case ho =>
        intro w' hk hf
        clear hf
        refine ⟨?_⟩
        go_simp
        exact ⟨(Below.refl _ _).alloc (Nat.le_refl _) _, Box.alloc 50 _ hk.size⟩
      case hm => exact fun v a c h hk => h.keep hk
      intro v7
      simp only [Act.put, List.setIfInBounds_toArray, List.set_cons_zero, List.set_cons_succ]
      apply U.phase_turn [7] (fun l w' => Full w5.heap.size 49 #[.int .i64 k, .string (⟨#[]⟩ : ByteArray), .int .i64 0, .int .i64 0, .int .i64 0, .slice none 0 0, .slice none 0 0] (l.getD 0 undef) w') (L := [v6]) (c := undef)
      case hD => rfl
      case hw => simp [Region.wanted, yielded]
      case ho =>
        intro w' hk hf hI
        obtain ⟨q3, e3, hq3, cs3, hc3, hs3⟩ : Box w5.heap.size 49 7 v6 w' := hf _ (List.Mem.tail _ (List.Mem.head _)) (by kernel_rfl)
        clear hf
        subst e3
        exact growAt_store_row 49 (.tmp 6) (.tmp 25) rfl q3 _ rfl rfl 49 cs3 hc3 (by kernel_rfl) (by rw [hs3]; rfl) (by simp [Value.oneCell']) ⟨KeepN.setRow _ hc3 (by rw [hs3]; rfl) hq3 (.inl rfl), ⟨q3, rfl, hq3, setRow_same _ hc3⟩, rfl⟩
      case hJ => exact fun l a c h hh => hh.grows h
      simp only [Act.put, List.setIfInBounds_toArray, List.set_cons_zero, List.set_cons_succ]
      apply U.phase_turn [7, 8] (fun l w' => Full w5.heap.size 49 #[.int .i64 k, .string (⟨#[]⟩ : ByteArray), .int .i64 0, .int .i64 0, .int .i64 0, .slice none 0 0, .slice none 0 0] (l.getD 0 undef) w' ∧ Full w5.heap.size 50 #[(.slice (if c = 1 then some ad else some ⟨ad.block, ad.off + 1, none⟩) ys.length (c - 1))] (l.getD 1 undef) w') (L := [v6, v7]) (c := undef)
      case hD => rfl
      case hw => simp [Region.wanted, yielded]
      case ho =>
        intro w' hk hf hI
        obtain ⟨q4, e4, hq4, cs4, hc4, hs4⟩ : Box w5.heap.size 50 1 v7 w' := hf _ (List.Mem.head _) (by kernel_rfl)
        clear hf
        subst e4
        exact growAt_store_one 50 (.tmp 7) (.tmp 27) rfl q4 _ rfl rfl 50 cs4 hc4 (by kernel_rfl) hs4 rfl rfl ⟨KeepN.setRow _ hc4 (by rw [hs4]; rfl) hq4 (.inr rfl), ⟨hI.setRow _ hc4 (by decide), q4, rfl, hq4, setRow_same _ hc4⟩, rfl⟩
      case hJ => exact fun l a c h hh => ⟨hh.1.grows h, hh.2.grows h⟩
      simp only [Act.put, List.setIfInBounds_toArray, List.set_cons_zero, List.set_cons_succ]
      refine U.phase_nil (fun w8 hk8 hI hf8 => ?_)
      obtain ⟨⟨q6, e6, hq6, hc6⟩, q7, e7, hq7, hc7⟩ := hI
      replace e6 : v6 = .pointer (some ⟨q6, 0, none⟩) := e6
      replace e7 : v7 = .pointer (some ⟨q7, 0, none⟩) := e7
      subst e6
      subst e7
      have hgN : Grows w5 w8 := hk8.below (Nat.le_refl _)
      have HQ8 := Aside0.mk (HQ5.out.grows hgN)
      have HG8 := Aside0.mk (HG5.out.trans hgN)
      have HR8 := Aside0.mk (show RecIs w8 q6 k noKey 0 0 0 (.slice none 0 0) (.slice none 0 0) from hc6)
      have HD8 := Aside0.mk ((hgN.block _ (lt_heap HD5.out)).trans HD5.out)
      have HB8 := Aside0.mk hc7
      clear hk8 hf8 hgN hc6 hc7
      generalize (if c = 1 then some ad else some (⟨ad.block, ad.off + 1, none⟩ : Addr)) = A2 at HB8 HRD HLW ⊢
      cases is with
      | false =>
        obtain rfl := HNO.out rfl
        have f0 := HQ8.out.fr 0; have f1 := HQ8.out.fr 1; have f2 := HQ8.out.fr 2; have f3 := HQ8.out.fr 3; have f4 := HQ8.out.fr 4; have f5 := HQ8.out.fr 5; have f6 := HQ8.out.fr 6; have d0 := HQ8.out.c0; have d1 := HQ8.out.c1; have d2 := HQ8.out.c2; have d3 := HQ8.out.c3; have d4 := HQ8.out.c4; have d5 := HQ8.out.c5; have d6 := HQ8.out.c6
        go_wp2
        have HQ9 := Aside0.mk (setAll_rec HQ8.out 0 noKey 0 0 0 (.slice none 0 0) (.slice none 0 0))
        exact bodyPost_ret (results_ct rfl _ _ q 25 _ (0, 0) _ rfl HQ9.out Try.underlying25 rfl (by kernel_rfl)) rfl (by exact GetPost.mk_none rfl (grown_keep HG8.out (setAll_grown w8 q 0 noKey 0 0 0 (.slice none 0 0) (.slice none 0 0)) HWQ.out))
      | true =>
        obtain ⟨rfl, hgi⟩ := HYES.out rfl
        have HGI := Aside0.mk hgi
        clear hgi
        have hB7 : Aside0 (RdAt w8 q7 w.heap.size ys) := ⟨⟨A2, c - 1, HB8.out, by omega, HRD.out w8 HG8.out, HLW.out⟩⟩
        have HGB := Aside0.mk (show Grows w w8 from HG8.out)
        have hcc := HGI.out.call (.pointer (some ⟨q6, 0, none⟩)) (.pointer (some ⟨q7, 0, none⟩))
        have hrun := Aside0.mk (HGI.out.run w8 q6 q7 w.heap.size HG8.out.size (Nat.le_trans HG5.out.size hq6) HR8.out hB7.out)
        have HNQ := Aside0.mk (show q ≠ q6 ∧ q ≠ q7 from ⟨fun e => by have := lt_heap HQ5.out; omega, fun e => by have := lt_heap HQ5.out; omega⟩)
        have HWQ6 := Aside0.mk (Nat.le_trans HG5.out.size hq6)
        have HWQ7 := Aside0.mk (Nat.le_trans HG5.out.size hq7)
        have e3 := cell_of_row w8 q4 3 _ 45 (0, 0) HD8.out
        have f0 := HQ8.out.fr 0
        cases res with
        | none =>
          go_upto_region 6 with (refine hrun.out.mono ?_; rintro e w9 ⟨rfl, hx, h2⟩; have H2 := Aside0.mk h2; clear hx h2)
          have HQ9 := Aside0.mk (two_recT HQ8.out H2.out HNQ.out)
          have HG9 := Aside0.mk (two_grows HG8.out H2.out HWQ6.out HWQ7.out)
          clear f0
          have f0 := HQ9.out.fr 0; have f1 := HQ9.out.fr 1; have f2 := HQ9.out.fr 2; have f3 := HQ9.out.fr 3; have f4 := HQ9.out.fr 4; have f5 := HQ9.out.fr 5; have f6 := HQ9.out.fr 6; have d0 := HQ9.out.c0; have d1 := HQ9.out.c1; have d2 := HQ9.out.c2; have d3 := HQ9.out.c3; have d4 := HQ9.out.c4; have d5 := HQ9.out.c5; have d6 := HQ9.out.c6
          go_wp2
          have HQ10 := Aside0.mk (setAll_rec HQ9.out 0 noKey 0 0 0 (.slice none 0 0) (.slice none 0 0))
          exact bodyPost_ret (results_ct rfl _ _ q 25 _ (0, 0) _ rfl HQ10.out Try.underlying25 rfl (by kernel_rfl)) rfl (by exact GetPost.mk_none rfl (grown_keep HG9.out (setAll_grown _ q 0 noKey 0 0 0 (.slice none 0 0) (.slice none 0 0)) HWQ.out))
        | some x =>
          obtain ⟨key1, id1, no1, size1, ls1, bs1⟩ := x
          obtain ⟨rb, hrb⟩ : ∃ rb, rb = rightB k key1 id1 no1 size1 ls1 bs1.length := ⟨_, rfl⟩
          have HRB := Aside0.mk hrb
          have hres : (Option.bind (some (key1, id1, no1, size1, ls1, bs1)) fun x => if rightB k x.1 x.2.1 x.2.2.1 x.2.2.2.1 x.2.2.2.2.1 x.2.2.2.2.2.length then some (k, x) else none) = if rb then some (k, (key1, id1, no1, size1, ls1, bs1)) else none := by rw [hrb]; rfl
          have HRES := Aside0.mk hres
          clear hrb hres
          cases rb with
          | false =>
            go_upto_region 6 with (first | (go_at_call 13; refine (right_calls k key1 id1 no1 size1 LA lc ls1 BA bc bs1 w9 HIN.out).mono ?_; rw [← HRB.out]; rintro e w10 ⟨rfl, hg⟩; have HG10 := Aside0.mk hg; clear hg) | (refine hrun.out.mono ?_; rintro e w9 ⟨rfl, hx, h2⟩; obtain ⟨vL, vB, hr9, hL9, hB9⟩ := hx _ rfl; obtain ⟨LA, lc, rfl, hlc, hlL⟩ := own_lowL hL9; obtain ⟨BA, bc, rfl, hbc, hlB⟩ := own_low hB9; have HR9 := Aside0.mk hr9; have HL9 := Aside0.mk hL9; have HBB9 := Aside0.mk hB9; have HIN := Aside0.mk (show RecIn w9 w9.heap.size LA lc ls1 BA bc bs1 from ⟨hlL, hlc, hlB, hbc⟩); have H2 := Aside0.mk h2; have d0 := hr9.c0; have d1 := hr9.c1; have d2 := hr9.c2; have d3 := hr9.c3; have d4 := hr9.c4; have d5 := hr9.c5; have d6 := hr9.c6; clear hx h2 hr9 hL9 hB9 hlc hlL hbc hlB))
            have HQ10 := Aside0.mk ((two_recT HQ8.out H2.out HNQ.out).grows HG10.out)
            have HGX := Aside0.mk ((two_grows HG8.out H2.out HWQ6.out HWQ7.out).trans HG10.out)
            clear d0 d1 d2 d3 d4 d5 d6 f0
            have f0 := HQ10.out.fr 0; have f1 := HQ10.out.fr 1; have f2 := HQ10.out.fr 2; have f3 := HQ10.out.fr 3; have f4 := HQ10.out.fr 4; have f5 := HQ10.out.fr 5; have f6 := HQ10.out.fr 6; have d0 := HQ10.out.c0; have d1 := HQ10.out.c1; have d2 := HQ10.out.c2; have d3 := HQ10.out.c3; have d4 := HQ10.out.c4; have d5 := HQ10.out.c5; have d6 := HQ10.out.c6
            go_wp2
            have HQ11 := Aside0.mk (setAll_rec HQ10.out 0 noKey 0 0 0 (.slice none 0 0) (.slice none 0 0))
            exact bodyPost_ret (results_ct rfl _ _ q 25 _ (0, 0) _ rfl HQ11.out Try.underlying25 rfl (by kernel_rfl)) rfl (by exact GetPost.mk_none HRES.out (grown_keep HGX.out (setAll_grown _ q 0 noKey 0 0 0 (.slice none 0 0) (.slice none 0 0)) HWQ.out))
          | true =>
            go_upto_region 7 with (first | (go_at_call 13; refine (right_calls k key1 id1 no1 size1 LA lc ls1 BA bc bs1 w9 HIN.out).mono ?_; rw [← HRB.out]; rintro e w10 ⟨rfl, hg⟩; have HG10 := Aside0.mk hg; clear hg) | (refine hrun.out.mono ?_; rintro e w9 ⟨rfl, hx, h2⟩; obtain ⟨vL, vB, hr9, hL9, hB9⟩ := hx _ rfl; obtain ⟨LA, lc, rfl, hlc, hlL⟩ := own_lowL hL9; obtain ⟨BA, bc, rfl, hbc, hlB⟩ := own_low hB9; have HR9 := Aside0.mk hr9; have HL9 := Aside0.mk hL9; have HBB9 := Aside0.mk hB9; have HIN := Aside0.mk (show RecIn w9 w9.heap.size LA lc ls1 BA bc bs1 from ⟨hlL, hlc, hlB, hbc⟩); have H2 := Aside0.mk h2; have d0 := hr9.c0; have d1 := hr9.c1; have d2 := hr9.c2; have d3 := hr9.c3; have d4 := hr9.c4; have d5 := hr9.c5; have d6 := hr9.c6; clear hx h2 hr9 hL9 hB9 hlc hlL hbc hlB))
            have HQ10 := Aside0.mk ((two_recT HQ8.out H2.out HNQ.out).grows HG10.out)
            have HGX := Aside0.mk ((two_grows HG8.out H2.out HWQ6.out HWQ7.out).trans HG10.out)
            have HR10 := Aside0.mk (HR9.out.grows HG10.out)
            have HL10 := Aside0.mk (own_grows HL9.out HG10.out)
            have HB10 := Aside0.mk (own_grows (show w9.ownsRow _ 5 1 _ _ _ from HBB9.out) HG10.out)
            clear d0 d1 d2 d3 d4 d5 d6 f0
            have e0 := HR10.out.c0; have e1 := HR10.out.c1; have e2 := HR10.out.c2; have e3 := HR10.out.c3; have e4 := HR10.out.c4; have e5 := HR10.out.c5; have e6 := HR10.out.c6
            have f0 := HQ10.out.fr 0; have f1 := HQ10.out.fr 1; have f2 := HQ10.out.fr 2; have f3 := HQ10.out.fr 3; have f4 := HQ10.out.fr 4; have f5 := HQ10.out.fr 5; have f6 := HQ10.out.fr 6; have d0 := HQ10.out.c0; have d1 := HQ10.out.c1; have d2 := HQ10.out.c2; have d3 := HQ10.out.c3; have d4 := HQ10.out.c4; have d5 := HQ10.out.c5; have d6 := HQ10.out.c6
            go_wp2
            have HQ11 := Aside0.mk (setAll_rec HQ10.out k key1 id1 no1 size1 (.slice LA ls1.length lc) (.slice BA bs1.length bc))
            exact bodyPost_ret (results_ct rfl _ _ q 25 _ (0, 0) _ rfl HQ11.out Try.underlying25 rfl (by kernel_rfl)) rfl (by exact GetPost.mk_some HRES.out (grown_keep HGX.out (setAll_grown _ q k key1 id1 no1 size1 _ _) HWQ.out) (own_mono (own_setAll HL10.out HQ10.out (by decide)) HG8.out.size) (own_mono (own_setAll HB10.out HQ10.out (by decide)) HG8.out.size))
    case ht => kernel_rfl
  case ht => kernel_rfl
end Go.Proofs.Ytemnhgmgffdncaa

/-
  Layer 4: the record of bytes: every kind.
-/
namespace Go.Proofs.Ytemnhgmgffdncaa
set_option linter.unusedVariables false
set_option linter.unusedSimpArgs false
open Go.RowKit Go.Proofs.YtemnhgmgffdncaaW.PrintWords Go.Proofs.YtemnhgmgffdncaaW.PrintMore
attribute [local go_sem] max2_int
/-- A kind's fields out of the bytes behind it. -/
def getOf (k : Int) (ys : List Int) : Option Rec5 :=
  if k = 1 then if 0 ≤ (numF (numF ys 6).2 2).1 then some (noKey, (numF ys 6).1, (numF (numF ys 6).2 2).1, 0, [], (numF (numF ys 6).2 2).2) else none
  else if k = 2 then (rootF ys).map fun x => (x.1, x.2.1, 0, x.2.2.1, x.2.2.2, [])
  else if k = 3 then if (keyF ys).2.2 then some ((keyF ys).1, 0, 0, 0, [], (keyF ys).2.1) else none
  else if k = 4 then some (strOfNums ys, 0, 0, 0, [], [])
  else none
def getRec (xs : List Int) : Option (Int × Rec5) :=
  match xs with
  | [] => none
  | k :: ys => (getOf k ys).bind fun x => if rightB k x.1 x.2.1 x.2.2.1 x.2.2.2.1 x.2.2.2.2.1 x.2.2.2.2.2.length then some (k, x) else none
theorem own_no (W : World) (B : Nat) : W.ownsRow B 39 3 (.slice none 0 0) ([] : List Loc3).length (locCells []) := World.ownsRow_nil _ _ _ _
theorem ownB_no (W : World) (B : Nat) : OwnB W B (.slice none 0 0) [] := World.ownsRow_nil _ _ _ _
set_option maxRecDepth 100000 in
theorem get1 (ys : List Int) (hu : u8s ys) (hl : ys.length ≤ 100000000000) : GetIs 29 1 ys (getOf 1 ys) where
  run := fun w8 g gb B0 hB hg hr hb => (pieceOf_calls g gb 1 noKey 0 0 0 _ _ ys w8 hr hb hu hl).mono fun e w' h => by
    obtain ⟨rfl, ⟨v, h1, h2⟩, h3⟩ := h
    unfold getOf
    rw [if_pos rfl]
    by_cases hp : 0 ≤ (numF (numF ys 6).2 2).1
    · rw [if_pos hp, decide_eq_true hp]
      exact ⟨rfl, fun x hx => by obtain rfl := Option.some.inj hx; exact ⟨_, _, h1, own_no _ _, h2⟩, h3⟩
    · rw [if_neg hp, decide_eq_false hp]
      exact ⟨rfl, fun x hx => (by cases hx), h3⟩
  call := fun p p' w1 => by go_simp
set_option maxRecDepth 100000 in
theorem get2 (ys : List Int) (hu : u8s ys) (hl : ys.length ≤ 100000000000) : GetIs 33 2 ys (getOf 2 ys) where
  run := fun w8 g gb B0 hB hg hr hb => (rootOf_calls g gb 2 noKey 0 0 0 _ ys w8 hB hg hr hb hu hl).mono fun e w' h => by
    obtain ⟨rfl, h1, h3⟩ := h
    unfold getOf
    rw [if_neg (by decide), if_pos rfl]
    refine ⟨by rw [Option.isSome_map], fun x hx => ?_, h3⟩
    obtain ⟨y, hy, rfl⟩ := Option.map_eq_some_iff.1 hx
    obtain ⟨vL, h4, h5⟩ := h1 y hy
    exact ⟨_, _, h4, h5, ownB_no _ _⟩
  call := fun p p' w1 => by go_simp
set_option maxRecDepth 100000 in
theorem get3 (ys : List Int) (hu : u8s ys) (hl : ys.length ≤ 100000000000) : GetIs 37 3 ys (getOf 3 ys) where
  run := fun w8 g gb B0 hB hg hr hb => (inlineOf_calls g gb 3 noKey 0 0 0 _ _ ys w8 hr hb hu hl).mono fun e w' h => by
    obtain ⟨rfl, ⟨v, h1, h2⟩, h3⟩ := h
    unfold getOf
    rw [if_neg (by decide), if_neg (by decide), if_pos rfl]
    cases hp : (keyF ys).2.2 with
    | true => exact ⟨rfl, fun x hx => by obtain rfl := Option.some.inj hx; exact ⟨_, _, h1, own_no _ _, h2⟩, h3⟩
    | false => exact ⟨rfl, fun x hx => (by cases hx), h3⟩
  call := fun p p' w1 => by go_simp
set_option maxRecDepth 100000 in
theorem get4 (ys : List Int) : GetIs 41 4 ys (getOf 4 ys) where
  run := fun w8 g gb B0 hB hg hr hb => (tombOf_calls g gb 4 noKey 0 0 0 _ _ ys w8 hr hb).mono fun e w' h => by
    obtain ⟨rfl, h1, h3⟩ := h
    unfold getOf
    rw [if_neg (by decide), if_neg (by decide), if_neg (by decide), if_pos rfl]
    exact ⟨rfl, fun x hx => by obtain rfl := Option.some.inj hx; exact ⟨_, _, h1, own_no _ _, ownB_no _ _⟩, h3⟩
  call := fun p p' w1 => by go_simp
set_option maxRecDepth 100000 in
set_option maxHeartbeats 1000000 in
theorem getNil_calls (A : Option Addr) (c : Nat) (w : World) : Calls Try.prog 11 #[.slice A 0 c] w (GetPost w none) := by
  go_enter Try.func11, Try.ntmps11
  go_upto_region 2 with fail
  have HG1 := Aside0.mk (show Grows w _ from (Below.refl w.heap.size w).alloc (Nat.le_refl _) (.cells #[.int .i64 0, .string (⟨#[]⟩ : ByteArray), .int .i64 0, .int .i64 0, .int .i64 0, .slice none 0 0, .slice none 0 0] 25))
  have HQ1 := Aside0.mk (show RecT 25 _ _ 0 noKey 0 0 0 (.slice none 0 0) (.slice none 0 0) from heap_alloc_new w (.cells #[.int .i64 0, .string (⟨#[]⟩ : ByteArray), .int .i64 0, .int .i64 0, .int .i64 0, .slice none 0 0, .slice none 0 0] 25))
  generalize w.alloc (.cells #[.int .i64 0, .string (⟨#[]⟩ : ByteArray), .int .i64 0, .int .i64 0, .int .i64 0, .slice none 0 0, .slice none 0 0] 25) = w1 at HG1 HQ1 ⊢
  obtain ⟨q, hqq⟩ : ∃ q, q = w.heap.size := ⟨_, rfl⟩
  rw [← hqq] at HQ1 ⊢
  have HWQ := Aside0.mk (Nat.le_of_eq hqq.symm)
  clear hqq
  have f0 := HQ1.out.fr 0; have f1 := HQ1.out.fr 1; have f2 := HQ1.out.fr 2; have f3 := HQ1.out.fr 3; have f4 := HQ1.out.fr 4; have f5 := HQ1.out.fr 5; have f6 := HQ1.out.fr 6; have d0 := HQ1.out.c0; have d1 := HQ1.out.c1; have d2 := HQ1.out.c2; have d3 := HQ1.out.c3; have d4 := HQ1.out.c4; have d5 := HQ1.out.c5; have d6 := HQ1.out.c6
  go_wp2
  have HQ10 := Aside0.mk (setAll_rec HQ1.out 0 noKey 0 0 0 (.slice none 0 0) (.slice none 0 0))
  exact bodyPost_ret (results_ct rfl _ _ q 25 _ (0, 0) _ rfl HQ10.out Try.underlying25 rfl (by kernel_rfl)) rfl (by exact GetPost.mk_none rfl (grown_keep HG1.out (setAll_grown _ q 0 noKey 0 0 0 (.slice none 0 0) (.slice none 0 0)) HWQ.out))
theorem get_calls (A : Option Addr) (c : Nat) (xs : List Int) (w : World) (hr : ReadsInt w .u8 A xs.length xs) (hc : xs.length ≤ c) (hu : u8s xs) (hl : xs.length ≤ 100000000000) :
    Calls Try.prog 11 #[.slice A xs.length c] w (GetPost w (getRec xs)) := by
  cases xs with
  | nil => exact getNil_calls A c w
  | cons k ys =>
    have hk := hu k List.mem_cons_self
    have hus : u8s ys := fun x hx => hu x (List.mem_cons_of_mem _ hx)
    have hls : ys.length ≤ 100000000000 := by rw [List.length_cons] at hl; omega
    have hz : ∀ f0 f1 f2 f3 : FuncId, (#[Value.func (.func f0) #[] #[], .func (.func f1) #[] #[], .func (.func f2) #[] #[], .func (.func f3) #[] #[]] : Array Value).all (·.oneCell') = true := fun _ _ _ _ => by simp [Value.oneCell']
    show Calls Try.prog 11 #[.slice A (ys.length + 1) c] w _
    unfold getRec
    by_cases h1 : k = 1
    · subst h1; exact getR_calls A c 1 ys w hr hc hk.1 hk.2 #[.func (.func 26) #[] #[], .func (.func 27) #[] #[], .func (.func 28) #[] #[], .func (.func 29) #[] #[]] true rfl rfl (hz _ _ _ _) 26 27 28 29 _ (fun _ => ⟨rfl, get1 ys hus hls⟩) (fun e => by cases e)
    · by_cases h2 : k = 2
      · subst h2; exact getR_calls A c 2 ys w hr hc hk.1 hk.2 #[.func (.func 30) #[] #[], .func (.func 31) #[] #[], .func (.func 32) #[] #[], .func (.func 33) #[] #[]] true rfl rfl (hz _ _ _ _) 30 31 32 33 _ (fun _ => ⟨rfl, get2 ys hus hls⟩) (fun e => by cases e)
      · by_cases h3 : k = 3
        · subst h3; exact getR_calls A c 3 ys w hr hc hk.1 hk.2 #[.func (.func 34) #[] #[], .func (.func 35) #[] #[], .func (.func 36) #[] #[], .func (.func 37) #[] #[]] true rfl rfl (hz _ _ _ _) 34 35 36 37 _ (fun _ => ⟨rfl, get3 ys hus hls⟩) (fun e => by cases e)
        · by_cases h4 : k = 4
          · subst h4; exact getR_calls A c 4 ys w hr hc hk.1 hk.2 #[.func (.func 38) #[] #[], .func (.func 39) #[] #[], .func (.func 40) #[] #[], .func (.func 41) #[] #[]] true rfl rfl (hz _ _ _ _) 38 39 40 41 _ (fun _ => ⟨rfl, get4 ys⟩) (fun e => by cases e)
          · exact getR_calls A c k ys w hr hc hk.1 hk.2 noKind false (by unfold kindAt; rw [if_neg h1, if_neg h2, if_neg h3, if_neg h4]) rfl (by simp [noKind, Value.oneCell']) 38 39 40 41 _ (fun e => by cases e) (fun _ => by unfold getOf; rw [if_neg h1, if_neg h2, if_neg h3, if_neg h4])
end Go.Proofs.Ytemnhgmgffdncaa

/-
  Layer 4: what a record's bytes are, and the record of bytes: plain lists.
-/
namespace Go.Proofs.Ytemnhgmgffdncaa
set_option linter.unusedVariables false
set_option linter.unusedSimpArgs false
open Go.RowKit Go.Proofs.YtemnhgmgffdncaaW.PrintWords Go.Proofs.YtemnhgmgffdncaaW.PrintMore
theorem pow256 (k : Nat) : (0 : Int) < 256 ^ k := Int.pow_pos (by decide)
theorem beI_succ (n : Int) (s : Nat) : beI n (s + 1) = beI (n / 256) s ++ [n % 256] := by
  unfold beI
  rw [List.range_succ, List.map_append]
  congr 1
  · refine List.map_congr_left fun i hi => ?_
    have hi := List.mem_range.1 hi
    have e : s + 1 - 1 - i = (s - 1 - i) + 1 := by omega
    rw [e, Int.pow_succ, Int.mul_comm, ← Int.ediv_ediv_of_nonneg (by decide : (0 : Int) ≤ 256)]
  · simp
theorem beV_beI : ∀ (s : Nat) (n : Int), 0 ≤ n → n < 256 ^ s → beV (beI n s) = n
  | 0, n, h0, h1 => by
    have : n = 0 := by simp at h1; omega
    subst this; rfl
  | s + 1, n, h0, h1 => by
    rw [beI_succ, beV_snoc, beV_beI s (n / 256) (by omega) (by rw [Int.pow_succ] at h1; omega)]
    omega
theorem beV_bound' {xs : List Int} (h : u8s xs) {s : Nat} (hs : xs.length = s) : 0 ≤ beV xs ∧ beV xs < 256 ^ s := hs ▸ beV_bound xs h
theorem beI_beV : ∀ (s : Nat) (xs : List Int), u8s xs → xs.length = s → beI (beV xs) s = xs
  | 0, xs, h, hl => by obtain rfl := List.length_eq_zero_iff.1 hl; rfl
  | s + 1, xs, h, hl => by
    have hne : xs ≠ [] := fun e => by rw [e] at hl; cases hl
    have hx := List.dropLast_concat_getLast hne
    have hc := h (xs.getLast hne) (List.getLast_mem hne)
    have hu : u8s xs.dropLast := fun x hx => h x (List.dropLast_subset _ hx)
    have hl2 : xs.dropLast.length = s := by rw [List.length_dropLast]; omega
    have ih := beI_beV s xs.dropLast hu hl2
    rw [← hx, beV_snoc, beI_succ, show (256 * beV xs.dropLast + xs.getLast hne) / 256 = beV xs.dropLast by omega, show (256 * beV xs.dropLast + xs.getLast hne) % 256 = xs.getLast hne by omega, ih]
theorem numF_put (n : Int) (s : Nat) (ys : List Int) (h0 : 0 ≤ n) (h1 : n < 256 ^ s) : numF (beI n s ++ ys) s = (n, ys) := by
  unfold numF
  rw [if_neg (by rw [List.length_append, beI_length]; omega), List.take_left' (beI_length n s), List.drop_left' (beI_length n s), beV_beI s n h0 h1]
theorem numF_inv {xs : List Int} (hu : u8s xs) {s : Nat} (h : 0 ≤ (numF xs s).1) : xs = beI (numF xs s).1 s ++ (numF xs s).2 := by
  unfold numF at h ⊢
  split at h
  · cases h
  · rename_i hl
    rw [if_neg hl]
    show xs = beI (beV (xs.take s)) s ++ xs.drop s
    rw [beI_beV s (xs.take s) (u8s_take hu s) (by rw [List.length_take]; omega), List.take_append_drop]
theorem numF_lt {xs : List Int} (hu : u8s xs) (s : Nat) : (numF xs s).1 < 256 ^ s := (numF_range hu s).2
theorem keyF_put (key : ByteArray) (ys : List Int) (h : key.size < 256) : keyF (beI (key.size : Int) 1 ++ numsOf key ++ ys) = (key, ys, true) := by
  have e : beI (key.size : Int) 1 = [(key.size : Int)] := by
    rw [beI_succ]
    show [(key.size : Int) % 256] = _
    rw [show (key.size : Int) % 256 = key.size by omega]
  rw [e]
  show (if (numsOf key ++ ys).length < (key.size : Int).toNat then _ else _) = _
  rw [Int.toNat_natCast, if_neg (by rw [List.length_append, numsOf_length]; omega)]
  show (strOfNums ((numsOf key ++ ys).take key.size), (numsOf key ++ ys).drop key.size, true) = _
  rw [List.take_left' (numsOf_length key), List.drop_left' (numsOf_length key), str_numsOf]
theorem keyF_inv {xs : List Int} (hu : u8s xs) (h : (keyF xs).2.2 = true) (h1 : 1 ≤ (keyF xs).1.size) : xs = beI ((keyF xs).1.size : Int) 1 ++ numsOf (keyF xs).1 ++ (keyF xs).2.1 := by
  cases xs with
  | nil => exact absurd h1 (by show ¬ (1 ≤ (strOfNums []).size); rw [str_size]; simp)
  | cons n rest =>
    have hn := hu n List.mem_cons_self
    have hr : u8s rest := fun x hx => hu x (List.mem_cons_of_mem _ hx)
    unfold keyF at h h1 ⊢
    simp only at h h1 ⊢
    split at h
    · cases h
    · rename_i hl
      rw [if_neg hl]
      show n :: rest = beI ((strOfNums (rest.take n.toNat)).size : Int) 1 ++ numsOf (strOfNums (rest.take n.toNat)) ++ rest.drop n.toNat
      rw [str_size, numsOf_str (u8s_take hr _), List.append_assoc, List.take_append_drop, List.length_take, beI_succ]
      show n :: rest = [((min n.toNat rest.length : Nat) : Int) % 256] ++ rest
      rw [show ((min n.toNat rest.length : Nat) : Int) % 256 = n by omega]
      rfl
/-- A part's numbers are such that their bytes hold them. -/
def locIn (x : Loc3) : Prop := (0 ≤ x.1 ∧ x.1 < 256 ^ 4) ∧ (0 ≤ x.2.1 ∧ x.2.1 < 256 ^ 4) ∧ (0 ≤ x.2.2 ∧ x.2.2 < 256 ^ 2)
theorem locsF_put : ∀ (ls acc : List Loc3) (ys : List Int), (∀ x ∈ ls, locIn x) → locsF ls.length acc (locsB ls ++ ys) = (acc ++ ls, ys, true)
  | [], acc, ys, _ => by simp [locsF, locsB]
  | x :: ls, acc, ys, h => by
    obtain ⟨hx1, hx2, hx3⟩ := h x List.mem_cons_self
    have e : locsB (x :: ls) ++ ys = beI x.1 4 ++ (beI x.2.1 4 ++ (beI x.2.2 2 ++ (locsB ls ++ ys))) := by
      rw [show locsB (x :: ls) = (beI x.1 4 ++ beI x.2.1 4 ++ beI x.2.2 2) ++ locsB ls from rfl]
      simp only [List.append_assoc]
    rw [e, List.length_cons, locsF, numF_put _ _ _ hx1.1 hx1.2]
    simp only
    rw [numF_put _ _ _ hx2.1 hx2.2]
    simp only
    rw [numF_put _ _ _ hx3.1 hx3.2]
    simp only
    rw [if_neg (by omega), locsF_put ls _ ys (fun y hy => h y (List.mem_cons_of_mem _ hy))]
    simp
theorem locsF_inv : ∀ (k : Nat) (acc : List Loc3) (xs : List Int), u8s xs → (locsF k acc xs).2.2 = true → ∃ ls, ls.length = k ∧ (locsF k acc xs).1 = acc ++ ls ∧ ((∀ x ∈ ls, 0 ≤ x.1 ∧ 0 ≤ x.2.1) → xs = locsB ls ++ (locsF k acc xs).2.1)
  | 0, acc, xs, _, _ => ⟨[], rfl, by simp [locsF], fun _ => by simp [locsF, locsB]⟩
  | k + 1, acc, xs, hu, h => by
    rw [locsF] at h ⊢
    split at h
    · cases h
    · rename_i hn
      rw [if_neg hn]
      have hn3 : 0 ≤ (numF (numF (numF xs 4).2 4).2 2).1 := by omega
      have hu1 := numF_u8s hu 4
      have hu2 := numF_u8s hu1 4
      have i3 := numF_inv hu2 hn3
      obtain ⟨ls, h1, h2, h3⟩ := locsF_inv k (acc ++ [((numF xs 4).1, (numF (numF xs 4).2 4).1, (numF (numF (numF xs 4).2 4).2 2).1)]) _ (numF_u8s hu2 2) h
      refine ⟨((numF xs 4).1, (numF (numF xs 4).2 4).1, (numF (numF (numF xs 4).2 4).2 2).1) :: ls, by simp [h1], by rw [h2]; simp, fun hx => ?_⟩
      have i1 := numF_inv hu (hx _ List.mem_cons_self).1
      have i2 := numF_inv hu1 (hx _ List.mem_cons_self).2
      have h4 := h3 fun x hm => hx x (List.mem_cons_of_mem _ hm)
      rw [show ∀ x, locsB (x :: ls) = (beI x.1 4 ++ beI x.2.1 4 ++ beI x.2.2 2) ++ locsB ls from fun _ => rfl]
      simp only [List.append_assoc]
      rw [← h4, ← i3, ← i2, ← i1]
theorem locFine_in {x : Loc3} (h : locFine x = true) : locIn x := by
  unfold locFine withinB at h
  simp only [Bool.and_eq_true, decide_eq_true_eq] at h
  unfold locIn
  refine ⟨⟨by omega, by omega⟩, ⟨by omega, by omega⟩, by omega, by omega⟩
theorem sumL_fine : ∀ (ls : List Loc3) (s r : Int), sumL ls s = some r → ∀ x ∈ ls, locFine x = true
  | [], _, _, _, x, hx => by cases hx
  | y :: ls, s, r, h, x, hx => by
    rw [sumL] at h
    split at h
    · rename_i hy
      rcases List.mem_cons.1 hx with rfl | hx
      · exact hy
      · exact sumL_fine ls _ r h x hx
    · cases h
theorem size0_key {key : ByteArray} (h : key.size = 0) : key = noKey := by
  cases key with
  | mk d =>
    have : d = #[] := Array.eq_empty_of_size_eq_zero h
    rw [this]; rfl
theorem lt_64k {n : Nat} (h : n < 65536) : (n : Int) < 256 ^ 2 := by
  have : (256 : Int) ^ 2 = 65536 := by decide
  omega
/-- A Root's bytes, and others behind them. -/
theorem rootF_put (key : ByteArray) (id size : Int) (ls : List Loc3) (z : List Int) (hk : key.size < 256) (hi : 0 ≤ id ∧ id < 256 ^ 6) (hs : 0 ≤ size ∧ size < 256 ^ 3) (hn : ls.length < 65536) (hl : ∀ x ∈ ls, locIn x) :
    rootF (beI (key.size : Int) 1 ++ numsOf key ++ (beI id 6 ++ (beI size 3 ++ (beI (ls.length : Int) 2 ++ (locsB ls ++ z))))) = if z = [] then some (key, id, size, ls) else none := by
  unfold rootF
  rw [keyF_put key _ hk]
  rw [if_pos rfl]
  rw [numF_put id 6 _ hi.1 hi.2]
  simp only
  rw [numF_put size 3 _ hs.1 hs.2]
  simp only
  rw [numF_put (ls.length : Int) 2 _ (by omega) (lt_64k hn)]
  simp only [Int.toNat_natCast]
  rw [locsF_put ls [] z hl]
  simp only [List.nil_append]
  by_cases hz : z = []
  · rw [if_pos hz, if_pos ⟨by omega, trivial, hz⟩]
  · rw [if_neg hz, if_neg (fun h => hz h.2.2)]
theorem putF2_eq (key : ByteArray) (id no size : Int) (ls : List Loc3) (bs z : List Int) : putF 2 key id no size ls bs ++ z = 2 :: (beI (key.size : Int) 1 ++ numsOf key ++ (beI id 6 ++ (beI size 3 ++ (beI (ls.length : Int) 2 ++ (locsB ls ++ z))))) := by
  unfold putF
  rw [if_neg (by decide), if_pos rfl]
  simp only [List.append_assoc, List.cons_append, List.nil_append]
theorem getRec_cons (k : Int) (ys : List Int) : getRec (k :: ys) = (getOf k ys).bind fun x => if rightB k x.1 x.2.1 x.2.2.1 x.2.2.2.1 x.2.2.2.2.1 x.2.2.2.2.2.length then some (k, x) else none := rfl
/-- A Root's bytes, and others behind them, are a Root, or none. -/
theorem get_root {key : ByteArray} {id no size : Int} {ls : List Loc3} {bs : List Int} (h : rightB 2 key id no size ls bs.length = true) (z : List Int) : getRec (putF 2 key id no size ls bs ++ z) = if z = [] then some (2, (key, id, no, size, ls, bs)) else none := by
  have p := right2 h
  have f := rootFine_parts p.2.2.2
  have kk := keyB_size f.1
  have hb : bs = [] := List.length_eq_zero_iff.1 p.2.2.1
  have hno : no = 0 := p.2.1
  rw [putF2_eq, getRec_cons]
  unfold getOf
  rw [if_neg (by decide), if_pos rfl, rootF_put key id size ls z (by omega) ⟨p.1.1, by have := p.1.2; omega⟩ ⟨by omega, by omega⟩ (by have := f.2.1; omega) (fun x hx => locFine_in (sumL_fine ls 0 size f.2.2.1 x hx))]
  by_cases hz : z = []
  · rw [if_pos hz, if_pos hz]
    simp only [Option.map_some, Option.bind_some]
    subst hb hno
    rw [if_pos h]
  · rw [if_neg hz, if_neg hz]
    rfl
theorem get_put {kind : Int} {key : ByteArray} {id no size : Int} {ls : List Loc3} {bs : List Int} (h : rightB kind key id no size ls bs.length = true) : getRec (putF kind key id no size ls bs) = some (kind, (key, id, no, size, ls, bs)) := by
  rcases right_kind h with rfl | rfl | rfl | rfl
  · have p := right1 h
    obtain rfl := size0_key p.2.1
    have hs : size = 0 := p.2.2.1
    have hl : ls = [] := List.length_eq_zero_iff.1 p.2.2.2.1
    subst hs hl
    have e : putF 1 noKey id no 0 [] bs = 1 :: (beI id 6 ++ (beI no 2 ++ bs)) := by
      unfold putF
      rw [if_pos rfl]
      simp only [List.append_assoc, List.cons_append, List.nil_append]
    rw [e, getRec_cons]
    unfold getOf
    rw [if_pos rfl, numF_put id 6 _ p.1.1 (by have := p.1.2; omega)]
    simp only
    rw [numF_put no 2 _ p.2.2.2.2.1.1 (by have := p.2.2.2.2.1.2; omega), if_pos p.2.2.2.2.1.1]
    simp only [Option.bind_some]
    rw [if_pos h]
  · have := get_root h []
    rw [List.append_nil, if_pos rfl] at this
    exact this
  · have p := right3 h
    obtain ⟨rfl, rfl, rfl, hl, hk, hb⟩ := p
    obtain rfl : ls = [] := List.length_eq_zero_iff.1 hl
    have e : putF 3 key 0 0 0 [] bs = 3 :: (beI (key.size : Int) 1 ++ numsOf key ++ bs) := by
      unfold putF
      rw [if_neg (by decide), if_neg (by decide), if_pos rfl]
      simp only [List.append_assoc, List.cons_append, List.nil_append]
    rw [e, getRec_cons]
    unfold getOf
    rw [if_neg (by decide), if_neg (by decide), if_pos rfl, keyF_put key bs (by omega)]
    simp only [if_true, Option.bind_some]
    rw [if_pos h]
  · have p := right4 h
    obtain ⟨rfl, rfl, rfl, hl, hb, hk⟩ := p
    obtain rfl : ls = [] := List.length_eq_zero_iff.1 hl
    obtain rfl : bs = [] := List.length_eq_zero_iff.1 hb
    have e : putF 4 key 0 0 0 [] [] = 4 :: numsOf key := by
      unfold putF
      rw [if_neg (by decide), if_neg (by decide), if_neg (by decide)]
      rfl
    rw [e, getRec_cons]
    unfold getOf
    rw [if_neg (by decide), if_neg (by decide), if_neg (by decide), if_pos rfl, str_numsOf]
    simp only [Option.bind_some]
    rw [if_pos h]
theorem put_get {xs : List Int} (hu : u8s xs) {k : Int} {key : ByteArray} {id no size : Int} {ls : List Loc3} {bs : List Int} (h : getRec xs = some (k, (key, id, no, size, ls, bs))) : rightB k key id no size ls bs.length = true ∧ putF k key id no size ls bs = xs := by
  cases xs with
  | nil => cases h
  | cons k' ys =>
    have hus : u8s ys := fun x hx => hu x (List.mem_cons_of_mem _ hx)
    rw [getRec_cons] at h
    obtain ⟨x, hx, h⟩ := Option.bind_eq_some_iff.1 h
    split at h
    · rename_i hr
      have h := Option.some.inj h
      obtain ⟨rfl, rfl⟩ := Prod.mk.inj h
      simp only at hr
      refine ⟨hr, ?_⟩
      unfold getOf at hx
      rcases right_kind hr with rfl | rfl | rfl | rfl
      · rw [if_pos rfl] at hx
        have p := right1 hr
        split at hx
        · rename_i hn
          have hx := Option.some.inj hx
          simp only [Prod.mk.injEq] at hx
          obtain ⟨q1, q2, q3, q4, q5, q6⟩ := hx
          subst q1 q2 q3 q4 q5 q6
          have i1 := numF_inv hus p.1.1
          have i2 := numF_inv (numF_u8s hus 6) hn
          unfold putF
          rw [if_pos rfl, List.append_assoc, List.append_assoc, ← i2, ← i1]
          rfl
        · cases hx
      · rw [if_neg (by decide), if_pos rfl] at hx
        have p := right2 hr
        have f := rootFine_parts p.2.2.2
        have kk := keyB_size f.1
        obtain ⟨y, hy, hx⟩ := Option.map_eq_some_iff.1 hx
        obtain ⟨y1, y2, y3, y4⟩ := y
        simp only [Prod.mk.injEq] at hx
        obtain ⟨q1, q2, q3, q4, q5, q6⟩ := hx
        subst q1 q2 q3 q4 q5 q6
        unfold rootF at hy
        split at hy
        · rename_i hk
          split at hy
          · rename_i hc
            obtain ⟨hc1, hc2, hc3⟩ := hc
            have hy := Option.some.inj hy
            obtain ⟨e1, hy⟩ := Prod.mk.inj hy
            obtain ⟨e2, hy⟩ := Prod.mk.inj hy
            obtain ⟨e3, e4⟩ := Prod.mk.inj hy
            have u1 := keyF_u8s hus
            have u2 := numF_u8s u1 6
            have u3 := numF_u8s u2 3
            have u4 := numF_u8s u3 2
            have i1 := keyF_inv hus hk (by rw [e1]; exact kk.1)
            have i2 := numF_inv u1 (s := 6) (by rw [e2]; exact p.1.1)
            have i3 := numF_inv u2 (s := 3) (by rw [e3]; have := f.2.2.2.1; omega)
            have i4 := numF_inv u3 (s := 2) hc1
            obtain ⟨l5, h5, h6, h7⟩ := locsF_inv _ [] _ u4 hc2
            rw [List.nil_append] at h6
            have hl5 : l5 = y4 := h6.symm.trans e4
            subst hl5
            have h8 := h7 fun x hx => by
              have hf := locFine_in (sumL_fine l5 0 y3 f.2.2.1 x hx)
              exact ⟨hf.1.1, hf.2.1.1⟩
            rw [hc3, List.append_nil] at h8
            have h9 : (numF (numF (numF (keyF ys).2.1 6).2 3).2 2).1 = (l5.length : Int) := by omega
            have e0 := putF2_eq y1 y2 0 y3 l5 [] []
            rw [List.append_nil, List.append_nil] at e0
            rw [e0]
            congr 1
            rw [← h8, ← h9, ← i4, ← e3, ← i3, ← e2, ← i2, ← e1, ← i1]
          · cases hy
        · cases hy
      · rw [if_neg (by decide), if_neg (by decide), if_pos rfl] at hx
        have p := right3 hr
        split at hx
        · rename_i hk
          have hx := Option.some.inj hx
          simp only [Prod.mk.injEq] at hx
          obtain ⟨q1, q2, q3, q4, q5, q6⟩ := hx
          subst q1 q2 q3 q4 q5 q6
          have i1 := keyF_inv hus hk p.2.2.2.2.1.1
          unfold putF
          rw [if_neg (by decide), if_neg (by decide), if_pos rfl, List.append_assoc, List.append_assoc, ← List.append_assoc (beI _ _), ← i1]
          rfl
        · cases hx
      · rw [if_neg (by decide), if_neg (by decide), if_neg (by decide), if_pos rfl] at hx
        have hx := Option.some.inj hx
        have hk := (Prod.mk.inj hx).1
        subst hk
        unfold putF
        rw [if_neg (by decide), if_neg (by decide), if_neg (by decide), numsOf_str hus]
        rfl
    · cases h
theorem cons_len {k : Int} {ys : List Int} {n : Nat} (h : ys.length = n) : (k :: ys).length = n + 1 := by rw [List.length_cons, h]
/-- How long a right record's bytes are, and with what they begin. -/
theorem put_shape {kind : Int} {key : ByteArray} {id no size : Int} {ls : List Loc3} {bs : List Int} (h : rightB kind key id no size ls bs.length = true) :
    (∃ ys, putF kind key id no size ls bs = kind :: ys) ∧ (putF kind key id no size ls bs).length = (if kind = 1 then 9 + bs.length else if kind = 2 then 13 + key.size + 10 * ls.length else if kind = 3 then 2 + key.size + bs.length else 1 + key.size) := by
  unfold putF
  rcases right_kind h with rfl | rfl | rfl | rfl
  · rw [if_pos rfl, if_pos rfl]
    refine ⟨⟨beI id 6 ++ (beI no 2 ++ bs), by simp⟩, ?_⟩
    simp [beI_length]; omega
  · rw [if_neg (by decide), if_pos rfl, if_neg (by decide), if_pos rfl]
    refine ⟨⟨_, by simp only [List.append_assoc, List.cons_append, List.nil_append]; rfl⟩, ?_⟩
    simp [beI_length, numsOf_length, locsB_length]; omega
  · rw [if_neg (by decide), if_neg (by decide), if_pos rfl, if_neg (by decide), if_neg (by decide), if_pos rfl]
    refine ⟨⟨_, by simp only [List.append_assoc, List.cons_append, List.nil_append]; rfl⟩, ?_⟩
    simp [beI_length, numsOf_length]; omega
  · rw [if_neg (by decide), if_neg (by decide), if_neg (by decide), if_neg (by decide), if_neg (by decide), if_neg (by decide)]
    refine ⟨⟨_, by simp only [List.append_assoc, List.cons_append, List.nil_append]; rfl⟩, ?_⟩
    simp [numsOf_length]; omega
/-- A right record's bytes are a body. -/
theorem put_body {kind : Int} {key : ByteArray} {id no size : Int} {ls : List Loc3} {bs : List Int} (h : rightB kind key id no size ls bs.length = true) : 1 ≤ (putF kind key id no size ls bs).length ∧ (putF kind key id no size ls bs).length ≤ 8192 ∧ key.size ≤ 64 ∧ bs.length ≤ 4096 ∧ ls.length ≤ 512 := by
  rw [(put_shape h).2]
  rcases right_kind h with rfl | rfl | rfl | rfl
  · have p := right1 h
    rw [if_pos rfl]; omega
  · have p := right2 h
    have f := rootFine_parts p.2.2.2
    have kk := keyB_size f.1
    rw [if_neg (by decide), if_pos rfl]; omega
  · have p := right3 h
    rw [if_neg (by decide), if_neg (by decide), if_pos rfl]; omega
  · have p := right4 h
    rw [if_neg (by decide), if_neg (by decide), if_neg (by decide)]; omega
theorem put_u8s {kind : Int} {key : ByteArray} {id no size : Int} {ls : List Loc3} {bs : List Int} (hb : u8s bs) (h : rightB kind key id no size ls bs.length = true) : u8s (putF kind key id no size ls bs) := by
  have one : ∀ z : Int, 0 ≤ z → z < 256 → u8s [z] := fun z h0 h1 x hx => by rw [List.mem_singleton.1 hx]; exact ⟨h0, h1⟩
  unfold putF
  rcases right_kind h with rfl | rfl | rfl | rfl
  · rw [if_pos rfl]
    exact u8s_append (u8s_append (u8s_append (one 1 (by decide) (by decide)) (beI_u8s _ _)) (beI_u8s _ _)) hb
  · rw [if_neg (by decide), if_pos rfl]
    exact u8s_append (u8s_append (u8s_append (u8s_append (u8s_append (u8s_append (one 2 (by decide) (by decide)) (beI_u8s _ _)) (numsOf_u8s _)) (beI_u8s _ _)) (beI_u8s _ _)) (beI_u8s _ _)) (locsB_u8s _)
  · rw [if_neg (by decide), if_neg (by decide), if_pos rfl]
    exact u8s_append (u8s_append (u8s_append (one 3 (by decide) (by decide)) (beI_u8s _ _)) (numsOf_u8s _)) hb
  · rw [if_neg (by decide), if_neg (by decide), if_neg (by decide)]
    exact u8s_append (one 4 (by decide) (by decide)) (numsOf_u8s _)
end Go.Proofs.Ytemnhgmgffdncaa
