/-
  Layer 4: a record's bytes, as they are put.
-/
import Derived.Test.YtemnhgmgffdncaaTake
namespace Go.Proofs.Ytemnhgmgffdncaa
set_option linter.unusedVariables false
set_option linter.unusedSimpArgs false
open Go.RowKit Go.Proofs.YtemnhgmgffdncaaW.PrintWords Go.Proofs.YtemnhgmgffdncaaW.PrintMore
attribute [local go_sem] max2_int

theorem growAt_appendU {P : Program} {o : Oper} {a : Act} {w : World} {R : Value → World → Prop} (s x : Operand) (t u : TypeId) (ho : o.op = .call { callee := .builtin .append, args := #[s, x], argTypes := #[t, u] }) {v x' : Value} (hs : a.eval s = v) (hx : a.eval x = x')
    (h : ∃ v' w', (Builtin.append_ #[t, u] o.type #[v, x']).run P w = .ok v' w' ∧ R v' w') : growAt P o a w R := by
  obtain ⟨v', w', hr, h⟩ := h
  refine ⟨?_⟩
  unfold execOp
  simp only [ho, resolve, invoke, builtin, Sem.run_bind, Sem.run_pure, Result.andThen_ok, List.map_toArray, List.map_cons, List.map_nil, hs, hx, hr]
  exact h
/-- Blocks that a put may turn: the pointer's, new ones, and rows of bytes from B on. -/
def SB (gb B : Nat) (wr : World) (k : Nat) : Prop := k = gb ∨ wr.heap.size ≤ k ∨ (B ≤ k ∧ ∃ cs, wr.heap[k]? = some (.cells cs 5 (0, 0)))
theorem KeepT.of_sb {gb B : Nat} {W W' : World} (h : KeepS (SB gb B W) W W') : KeepT gb B W W' :=
  ⟨h.os, h.tape, h.output, h.size, fun k o hk h1 h2 => (h.block k (lt_heap hk) (fun e => by
    rcases e with e | e | ⟨e, cs, hcs⟩
    · exact h1 e
    · have := lt_heap hk; omega
    · rw [hk] at hcs
      injection hcs with hcs
      rcases h2 with h2 | h2
      · omega
      · exact h2 cs hcs)).trans hk⟩
theorem sb_first {gb B : Nat} {wr : World} {v : Value} {n : Nat} {xs : List Value} (h : wr.ownsRow B 5 1 v n xs) : ∀ q, v.ownBlock = some q → SB gb B wr q :=
  fun q hq => .inr (.inr ⟨(h.lt q hq).1, own_typed h q hq⟩)
theorem sb_next {gb B : Nat} {wr w' w1 : World} {v v1 : Value} {n : Nat} {xs : List Value} (hk : KeepS (SB gb B wr) wr w') (hg : w'.grownBy w1 v.ownBlock) (hv : ∀ q, v.ownBlock = some q → SB gb B wr q) (ho : w1.ownsRow B 5 1 v1 n xs) : ∀ q, v1.ownBlock = some q → SB gb B wr q := by
  intro q hq
  by_cases hs : SB gb B wr q
  · exact hs
  · exfalso
    have hlt : q < wr.heap.size := by
      rcases Nat.lt_or_ge q wr.heap.size with h | h
      · exact h
      · exact absurd (.inr (.inl h)) hs
    obtain ⟨cs, hcs⟩ := own_typed ho q hq
    rw [hg.block q (Nat.lt_of_lt_of_le hlt hk.size) (fun e => hs (hv q e.symm)), hk.block q hlt hs] at hcs
    exact hs (.inr (.inr ⟨(ho.lt q hq).1, cs, hcs⟩))
/-- Bytes that stand below B. -/
structure Low (W : World) (B : Nat) (A : Option Addr) (m : Nat) (bs : List Int) : Prop where
  rd : ReadsInt W .u8 A m bs
  low : 0 < m → ∀ ad, A = some ad → ad.block < B
theorem Low.keep {W W' : World} {B m : Nat} {A : Option Addr} {bs : List Int} (h : Low W B A m bs) (hk : ∀ k, k < B → k < W.heap.size → W'.heap[k]? = W.heap[k]?) : Low W' B A m bs := by
  refine ⟨⟨h.rd.1, h.rd.2.1, fun hn => ?_⟩, h.low⟩
  obtain ⟨ad, e, hc⟩ := h.rd.2.2 hn
  refine ⟨ad, e, fun j hj => ?_⟩
  have hb : (ad.add j).block = ad.block := by unfold Addr.add; split <;> rfl
  have hlo := h.low hn ad e
  have hlt := World.block_lt_of_cell? W (ad.add j) (hc j hj)
  rw [World.cell?_of_block (w := W) (hk (ad.add j).block (by omega) hlt)]
  exact hc j hj
theorem Low.keepT {gb B m : Nat} {A : Option Addr} {bs : List Int} {W W' : World} (h : Low W B A m bs) (hk : KeepT gb B W W') (hg : B ≤ gb) : Low W' B A m bs :=
  h.keep fun k hk1 hk2 => by
    rw [hk.block k _ (Array.getElem?_eq_getElem hk2) (by omega) (.inl hk1), Array.getElem?_eq_getElem hk2]
theorem Low.sb {gb B m : Nat} {A : Option Addr} {bs : List Int} {W W' : World} (h : Low W B A m bs) (hk : KeepS (SB gb B W) W W') (hg : B ≤ gb) (hB : B ≤ W.heap.size) : Low W' B A m bs := h.keepT (KeepT.of_sb hk) hg
theorem RecIs.sb {W W' wr : World} {g gb B : Nat} {kind id no size : Int} {key : ByteArray} {vL vB : Value} (h : RecIs wr g kind key id no size vL vB) (hk : KeepS (SB gb B wr) wr W) (hne : g ≠ gb) : RecIs W g kind key id no size vL vB :=
  (hk.block g (lt_heap h) (fun e => by
    rcases e with e | e | ⟨_, cs, e⟩
    · exact hne e
    · have := lt_heap h; omega
    · rw [h.blk] at e; injection e with e; injection e with _ e; cases e)).trans h
theorem RecIs.keepT {W W' : World} {g gb B : Nat} {kind id no size : Int} {key : ByteArray} {vL vB : Value} (h : RecIs W g kind key id no size vL vB) (hk : KeepT gb B W W') (hne : g ≠ gb) : RecIs W' g kind key id no size vL vB :=
  hk.block g _ h hne (.inr fun cs e => by injection e with _ e; cases e)
theorem rec_buf {W : World} {g gb B : Nat} {kind id no size : Int} {key : ByteArray} {vL vB : Value} {xs : List Int} (hr : RecIs W g kind key id no size vL vB) (hb : BufAt W gb B xs) : g ≠ gb := fun e => by
  subst e
  obtain ⟨v, h⟩ := hb
  have := h.blk
  rw [hr.blk] at this
  injection this with this
  injection this with _ this
  cases this
set_option maxRecDepth 100000 in
set_option maxHeartbeats 4000000 in
theorem tombTo_calls (g gb B : Nat) (kind : Int) (key : ByteArray) (id no size : Int) (vL vB : Value) (xs : List Int) (w : World) (hr : RecIs w g kind key id no size vL vB) (hb : BufAt w gb B xs) (hB : B ≤ w.heap.size) (hgb : B ≤ gb) (hx : xs.length ≤ 100) (hky : key.size ≤ 10000) :
    Calls Try.prog 40 #[.pointer (some ⟨g, 0, none⟩), .pointer (some ⟨gb, 0, none⟩)] w fun e w' => e = .returned (.tuple #[]) ∧ BufAt w' gb B (xs ++ numsOf key) ∧ KeepT gb B w w' := by
  have HNE := Aside0.mk (rec_buf hr hb)
  have HR := Aside0.mk hr
  have HBF := Aside0.mk hb
  have HB := Aside0.mk hB
  have HGB := Aside0.mk hgb
  have HX := Aside0.mk hx
  have HKY := Aside0.mk (show (numsOf key).length ≤ 10000 by rw [numsOf_length]; exact hky)
  clear hr hb hB hgb hx hky
  go_enter Try.func40, Try.ntmps40
  go_upto_region 0 with fail
  obtain ⟨v, hv⟩ := HBF.out
  have HV := Aside0.mk hv
  clear hv
  have HVS := Aside0.mk (sb_first (gb := gb) HV.out.own)
  have HBW := Aside0.mk (show B ≤ w.heap.size from HB.out)
  obtain ⟨z0, hz0⟩ : ∃ z, z = xs ++ numsOf key := ⟨_, rfl⟩
  have HZ0 := Aside0.mk hz0
  have hzl0 : z0.length = xs.length + (numsOf key).length := by rw [hz0, List.length_append]
  have HZL0 := Aside0.mk hzl0
  clear hz0 hzl0
  apply wp_region_phase Grows (KeepS (SB gb B w)) (phaseK _) (fun w' => BufIs w' gb B v xs) HV.out (fun a c h hh => hh.grows h) (hm := by kernel_rfl) (hB := by kernel_rfl)
  case h =>
    iterate 3
      apply phase_fixed
      case hw => simp [Region.wanted, yielded]
      case ho =>
        intro w' hk hf
        clear hf
        refine ⟨?_⟩
        go_simp
        exact ⟨Grows.refl _, rfl⟩
      simp only [Act.put, List.setIfInBounds_toArray, List.set_cons_zero, List.set_cons_succ]
    apply phase_turn (c := v) (J := fun w' => BufIs w' gb B v xs)
    case hw => simp [Region.wanted, yielded]
    case ho =>
      intro w' hk hf hI
      clear hf
      have k0 := hI.cell
      have HI := Aside0.mk hI
      clear hI
      refine ⟨?_⟩
      go_simp
      exact ⟨KeepS.refl _ _, HI.out, rfl⟩
    case hJ => exact fun a c h hh => hh.grows h
    simp only [Act.put, List.setIfInBounds_toArray, List.set_cons_zero, List.set_cons_succ]
    iterate 3
      apply phase_fixed
      case hw => simp [Region.wanted, yielded]
      case ho =>
        intro w' hk hf
        clear hf
        refine ⟨?_⟩
        go_simp
        exact ⟨Grows.refl _, rfl⟩
      simp only [Act.put, List.setIfInBounds_toArray, List.set_cons_zero, List.set_cons_succ]
    apply phase_fixed (c := .string key)
    case hw => simp [Region.wanted, yielded]
    case ho =>
      intro w' hk hf
      clear hf
      have kk := (RecIs.sb (W' := w') HR.out hk HNE.out).c1
      refine ⟨?_⟩
      go_simp
      exact ⟨Grows.refl _, rfl⟩
    simp only [Act.put, List.setIfInBounds_toArray, List.set_cons_zero, List.set_cons_succ]
    apply phase_turn_free (G := fun v W => True) (J := fun v12 w' => w'.heap[gb]? = some (.cells #[v] 50 (0, 0)) ∧ w'.ownsRow B 5 1 v12 z0.length (nums .u8 z0) ∧ (∀ q, v12.ownBlock = some q → SB gb B w q))
    case hw => simp [Region.wanted, yielded]
    case ho =>
      intro w' hk hf hI
      clear hf
      obtain ⟨v1, w1, hr, ho, hg⟩ := bytes_run_str (t := 50) (u := 9) (ty := 50) Try.underlying50 Try.underlying9 B v xs key hI.own (Nat.le_trans HBW.out hk.size) (by have := HX.out; have := HKY.out; have := numsOf_length key; first | omega | (simp only [List.length_append, beI_length]; omega))
      rw [← HZ0.out] at ho
      have hne : v.ownBlock ≠ some gb := fun e => by
        obtain ⟨cs, hcs⟩ := own_typed hI.own gb e
        rw [hI.blk] at hcs
        injection hcs with hcs
        injection hcs with _ hcs
        cases hcs
      exact growAt_appendU (.tmp 7) (.tmp 11) 50 9 rfl rfl rfl ⟨v1, w1, hr, KeepS.of_grown hg HVS.out, ⟨(hg.block gb (lt_heap hI.blk) (fun e => hne e.symm)).trans hI.blk, ho, sb_next hk hg HVS.out ho⟩, trivial⟩
    case hJ => exact fun v a c h hh => ⟨(h.block gb (lt_heap hh.1)).trans hh.1, own_grows hh.2.1 h, hh.2.2⟩
    case hm => exact fun _ _ _ _ _ => trivial
    intro v12
    simp only [Act.put, List.setIfInBounds_toArray, List.set_cons_zero, List.set_cons_succ]
    iterate 1
      apply phase_fixed
      case hw => simp [Region.wanted, yielded]
      case ho =>
        intro w' hk hf
        clear hf
        refine ⟨?_⟩
        go_simp
        exact ⟨Grows.refl _, rfl⟩
      simp only [Act.put, List.setIfInBounds_toArray, List.set_cons_zero, List.set_cons_succ]
    apply phase_turn (c := undef) (J := fun w' => BufAt w' gb B z0)
    case hw => simp [Region.wanted, yielded]
    case ho =>
      intro w' hk hf hI
      clear hf
      obtain ⟨Az, cz, ez, _⟩ := own_slice hI.2.1
      subst ez
      have k0 := cell_of_row w' gb 0 _ 50 (0, 0) hI.1
      have f0 := frozen_of_row w' gb 0 _ 50 hI.1
      have HI := Aside0.mk hI
      clear hI
      refine ⟨?_⟩
      go_simp
      exact ⟨KeepS.of_grown (grown_set w' gb 0 _) (fun q e => .inl (by injection e with e; exact e.symm)), ⟨_, blk_set HI.out.1 0 _, own_keep HI.out.2.1 fun q hq _ cs hcs => set_other w' gb 0 _ hcs (fun e => by subst e; rw [HI.out.1] at hcs; injection hcs with hcs; injection hcs with _ hcs; cases hcs)⟩, rfl⟩
    case hJ => exact fun a c h hh => hh.grows h
    simp only [Act.put, List.setIfInBounds_toArray, List.set_cons_zero, List.set_cons_succ]
    refine phase_nil (fun w5 hk5 hI _ => ?_)
    have HB5 := Aside0.mk hI
    have HK5 := Aside0.mk (KeepT.of_sb hk5)
    clear hI hk5
    go_wp2
    go_end0
    exact ⟨rfl, HZ0.out ▸ HB5.out, HK5.out⟩
  case ht => kernel_rfl
set_option maxRecDepth 100000 in
set_option maxHeartbeats 4000000 in
theorem inlineTo_calls (g gb B : Nat) (kind : Int) (key : ByteArray) (id no size : Int) (vL vB : Value) (xs : List Int) (w : World) (hr : RecIs w g kind key id no size vL vB) (hb : BufAt w gb B xs) (hB : B ≤ w.heap.size) (hgb : B ≤ gb) (hx : xs.length ≤ 100) (hky : key.size ≤ 10000) (A : Option Addr) (m c : Nat) (bs : List Int) (hbv : vB = .slice A m c) (hlo : Low w B A m bs) (hm : m ≤ 10000) :
    Calls Try.prog 36 #[.pointer (some ⟨g, 0, none⟩), .pointer (some ⟨gb, 0, none⟩)] w fun e w' => e = .returned (.tuple #[]) ∧ BufAt w' gb B (xs ++ beI (key.size : Int) 1 ++ numsOf key ++ bs) ∧ KeepT gb B w w' := by
  have HNE := Aside0.mk (rec_buf hr hb)
  have HR := Aside0.mk hr
  have HBF := Aside0.mk hb
  have HB := Aside0.mk hB
  have HGB := Aside0.mk hgb
  have HX := Aside0.mk hx
  have HKY := Aside0.mk (show (numsOf key).length ≤ 10000 by rw [numsOf_length]; exact hky)
  clear hr hb hB hgb hx hky
  have HLO := Aside0.mk hlo
  have HM := Aside0.mk (show bs.length ≤ 10000 by rw [hlo.rd.1]; exact hm)
  have HML := Aside0.mk hlo.rd.1
  have HK0 := Aside0.mk (KeepT.refl gb B w)
  subst hbv
  clear hlo hm
  have k1 := HR.out.c1
  go_enter Try.func36, Try.ntmps36
  go_upto_region 1 with (go_at_call 43; refine (put_calls gb B (key.size : Int) 1 xs _ HBF.out HB.out (by decide) (by have := HX.out; have := HKY.out; first | omega | (simp only [List.length_append, beI_length]; omega))).mono ?_; rintro e w1 ⟨rfl, hb1, hk1⟩; have HB1 := Aside0.mk hb1; have HR1 := Aside0.mk (HR.out.keepT hk1 HNE.out); have HK1 := Aside0.mk (KeepT.trans HK0.out hk1); have HSw1 := Aside0.mk (Nat.le_trans HB.out HK1.out.size); clear hb1 hk1)
  clear k1
  obtain ⟨ys, hys⟩ : ∃ ys, ys = xs ++ beI (key.size : Int) 1 := ⟨_, rfl⟩
  have HYS := Aside0.mk hys
  have HYL := Aside0.mk (show ys.length ≤ 200 by have := HX.out; rw [hys, List.length_append, beI_length]; omega)
  rw [← hys] at HB1
  have HLO1 := Aside0.mk (HLO.out.keepT HK1.out HGB.out)
  clear HLO hys
  have HLO := Aside0.mk HLO1.out
  clear HLO1
  obtain ⟨v, hv⟩ := HB1.out
  have HV := Aside0.mk hv
  clear hv
  have HVS := Aside0.mk (sb_first (gb := gb) HV.out.own)
  have HBW := Aside0.mk (show B ≤ w1.heap.size from HSw1.out)
  obtain ⟨z0, hz0⟩ : ∃ z, z = ys ++ numsOf key := ⟨_, rfl⟩
  have HZ0 := Aside0.mk hz0
  have hzl0 : z0.length = ys.length + (numsOf key).length := by rw [hz0, List.length_append]
  have HZL0 := Aside0.mk hzl0
  clear hz0 hzl0
  obtain ⟨z1, hz1⟩ : ∃ z, z = z0 ++ bs := ⟨_, rfl⟩
  have HZ1 := Aside0.mk hz1
  have hzl1 : z1.length = z0.length + (bs).length := by rw [hz1, List.length_append]
  have HZL1 := Aside0.mk hzl1
  clear hz1 hzl1
  apply wp_region_phase Grows (KeepS (SB gb B w1)) (phaseK _) (fun w' => BufIs w' gb B v ys) HV.out (fun a c h hh => hh.grows h) (hm := by kernel_rfl) (hB := by kernel_rfl)
  case h =>
    iterate 3
      apply phase_fixed
      case hw => simp [Region.wanted, yielded]
      case ho =>
        intro w' hk hf
        clear hf
        refine ⟨?_⟩
        go_simp
        exact ⟨Grows.refl _, rfl⟩
      simp only [Act.put, List.setIfInBounds_toArray, List.set_cons_zero, List.set_cons_succ]
    apply phase_turn (c := v) (J := fun w' => BufIs w' gb B v ys)
    case hw => simp [Region.wanted, yielded]
    case ho =>
      intro w' hk hf hI
      clear hf
      have k0 := hI.cell
      have HI := Aside0.mk hI
      clear hI
      refine ⟨?_⟩
      go_simp
      exact ⟨KeepS.refl _ _, HI.out, rfl⟩
    case hJ => exact fun a c h hh => hh.grows h
    simp only [Act.put, List.setIfInBounds_toArray, List.set_cons_zero, List.set_cons_succ]
    iterate 3
      apply phase_fixed
      case hw => simp [Region.wanted, yielded]
      case ho =>
        intro w' hk hf
        clear hf
        refine ⟨?_⟩
        go_simp
        exact ⟨Grows.refl _, rfl⟩
      simp only [Act.put, List.setIfInBounds_toArray, List.set_cons_zero, List.set_cons_succ]
    apply phase_fixed (c := .string key)
    case hw => simp [Region.wanted, yielded]
    case ho =>
      intro w' hk hf
      clear hf
      have kk := (RecIs.sb (W' := w') HR1.out hk HNE.out).c1
      refine ⟨?_⟩
      go_simp
      exact ⟨Grows.refl _, rfl⟩
    simp only [Act.put, List.setIfInBounds_toArray, List.set_cons_zero, List.set_cons_succ]
    apply phase_turn_free (G := fun v W => True) (J := fun v19 w' => w'.heap[gb]? = some (.cells #[v] 50 (0, 0)) ∧ w'.ownsRow B 5 1 v19 z0.length (nums .u8 z0) ∧ (∀ q, v19.ownBlock = some q → SB gb B w1 q))
    case hw => simp [Region.wanted, yielded]
    case ho =>
      intro w' hk hf hI
      clear hf
      obtain ⟨v1, w1, hr, ho, hg⟩ := bytes_run_str (t := 50) (u := 9) (ty := 50) Try.underlying50 Try.underlying9 B v ys key hI.own (Nat.le_trans HBW.out hk.size) (by have := HYL.out; have := HKY.out; have := HM.out; have := HML.out; have := numsOf_length key; first | omega | (have := HZL0.out; omega))
      rw [← HZ0.out] at ho
      have hne : v.ownBlock ≠ some gb := fun e => by
        obtain ⟨cs, hcs⟩ := own_typed hI.own gb e
        rw [hI.blk] at hcs
        injection hcs with hcs
        injection hcs with _ hcs
        cases hcs
      exact growAt_appendU (.tmp 14) (.tmp 18) 50 9 rfl rfl rfl ⟨v1, w1, hr, KeepS.of_grown hg HVS.out, ⟨(hg.block gb (lt_heap hI.blk) (fun e => hne e.symm)).trans hI.blk, ho, sb_next hk hg HVS.out ho⟩, trivial⟩
    case hJ => exact fun v a c h hh => ⟨(h.block gb (lt_heap hh.1)).trans hh.1, own_grows hh.2.1 h, hh.2.2⟩
    case hm => exact fun _ _ _ _ _ => trivial
    intro v19
    simp only [Act.put, List.setIfInBounds_toArray, List.set_cons_zero, List.set_cons_succ]
    iterate 3
      apply phase_fixed
      case hw => simp [Region.wanted, yielded]
      case ho =>
        intro w' hk hf
        clear hf
        refine ⟨?_⟩
        go_simp
        exact ⟨Grows.refl _, rfl⟩
      simp only [Act.put, List.setIfInBounds_toArray, List.set_cons_zero, List.set_cons_succ]
    apply phase_fixed (c := .slice A m c)
    case hw => simp [Region.wanted, yielded]
    case ho =>
      intro w' hk hf
      clear hf
      have kk := (RecIs.sb (W' := w') HR1.out hk HNE.out).c6
      refine ⟨?_⟩
      go_simp
      exact ⟨Grows.refl _, rfl⟩
    simp only [Act.put, List.setIfInBounds_toArray, List.set_cons_zero, List.set_cons_succ]
    apply phase_turn_free (G := fun v W => True) (J := fun v24 w' => w'.heap[gb]? = some (.cells #[v] 50 (0, 0)) ∧ w'.ownsRow B 5 1 v24 z1.length (nums .u8 z1) ∧ (∀ q, v24.ownBlock = some q → SB gb B w1 q))
    case hw => simp [Region.wanted, yielded]
    case ho =>
      intro w' hk hf hI
      clear hf
      obtain ⟨v1, w1, hr, ho, hg, _⟩ := bytes_run (t := 50) (u := 23) (ty := 50) Try.underlying50 Try.underlying23 B v19 z0 bs A m c hI.2.1 (HLO.out.sb hk HGB.out HBW.out).rd (Nat.le_trans HBW.out hk.size) (by have := HYL.out; have := HKY.out; have := HM.out; have := HML.out; have := numsOf_length key; first | omega | (have := HZL0.out; omega))
      rw [← HZ1.out] at ho
      have hne : v19.ownBlock ≠ some gb := fun e => by
        obtain ⟨cs, hcs⟩ := own_typed hI.2.1 gb e
        rw [hI.1] at hcs
        injection hcs with hcs
        injection hcs with _ hcs
        cases hcs
      exact growAt_appendU (.tmp 19) (.tmp 23) 50 23 rfl rfl rfl ⟨v1, w1, hr, KeepS.of_grown hg hI.2.2, ⟨(hg.block gb (lt_heap hI.1) (fun e => hne e.symm)).trans hI.1, ho, sb_next hk hg hI.2.2 ho⟩, trivial⟩
    case hJ => exact fun v a c h hh => ⟨(h.block gb (lt_heap hh.1)).trans hh.1, own_grows hh.2.1 h, hh.2.2⟩
    case hm => exact fun _ _ _ _ _ => trivial
    intro v24
    simp only [Act.put, List.setIfInBounds_toArray, List.set_cons_zero, List.set_cons_succ]
    iterate 1
      apply phase_fixed
      case hw => simp [Region.wanted, yielded]
      case ho =>
        intro w' hk hf
        clear hf
        refine ⟨?_⟩
        go_simp
        exact ⟨Grows.refl _, rfl⟩
      simp only [Act.put, List.setIfInBounds_toArray, List.set_cons_zero, List.set_cons_succ]
    apply phase_turn (c := undef) (J := fun w' => BufAt w' gb B z1)
    case hw => simp [Region.wanted, yielded]
    case ho =>
      intro w' hk hf hI
      clear hf
      obtain ⟨Az, cz, ez, _⟩ := own_slice hI.2.1
      subst ez
      have k0 := cell_of_row w' gb 0 _ 50 (0, 0) hI.1
      have f0 := frozen_of_row w' gb 0 _ 50 hI.1
      have HI := Aside0.mk hI
      clear hI
      refine ⟨?_⟩
      go_simp
      exact ⟨KeepS.of_grown (grown_set w' gb 0 _) (fun q e => .inl (by injection e with e; exact e.symm)), ⟨_, blk_set HI.out.1 0 _, own_keep HI.out.2.1 fun q hq _ cs hcs => set_other w' gb 0 _ hcs (fun e => by subst e; rw [HI.out.1] at hcs; injection hcs with hcs; injection hcs with _ hcs; cases hcs)⟩, rfl⟩
    case hJ => exact fun a c h hh => hh.grows h
    simp only [Act.put, List.setIfInBounds_toArray, List.set_cons_zero, List.set_cons_succ]
    refine phase_nil (fun w5 hk5 hI _ => ?_)
    have HB5 := Aside0.mk hI
    have HK5 := Aside0.mk (KeepT.of_sb hk5)
    clear hI hk5
    go_wp2
    go_end0
    exact ⟨rfl, by rw [← HYS.out, ← HZ0.out, ← HZ1.out]; exact HB5.out, KeepT.trans HK1.out HK5.out⟩
  case ht => kernel_rfl
set_option maxRecDepth 100000 in
set_option maxHeartbeats 4000000 in
theorem pieceTo_calls (g gb B : Nat) (kind : Int) (key : ByteArray) (id no size : Int) (vL vB : Value) (xs : List Int) (w : World) (hr : RecIs w g kind key id no size vL vB) (hb : BufAt w gb B xs) (hB : B ≤ w.heap.size) (hgb : B ≤ gb) (hx : xs.length ≤ 100) (hky : key.size ≤ 10000) (A : Option Addr) (m c : Nat) (bs : List Int) (hbv : vB = .slice A m c) (hlo : Low w B A m bs) (hm : m ≤ 10000) :
    Calls Try.prog 28 #[.pointer (some ⟨g, 0, none⟩), .pointer (some ⟨gb, 0, none⟩)] w fun e w' => e = .returned (.tuple #[]) ∧ BufAt w' gb B (xs ++ beI id 6 ++ beI no 2 ++ bs) ∧ KeepT gb B w w' := by
  have HNE := Aside0.mk (rec_buf hr hb)
  have HR := Aside0.mk hr
  have HBF := Aside0.mk hb
  have HB := Aside0.mk hB
  have HGB := Aside0.mk hgb
  have HX := Aside0.mk hx
  have HKY := Aside0.mk (show (numsOf key).length ≤ 10000 by rw [numsOf_length]; exact hky)
  clear hr hb hB hgb hx hky
  have HLO := Aside0.mk hlo
  have HM := Aside0.mk (show bs.length ≤ 10000 by rw [hlo.rd.1]; exact hm)
  have HML := Aside0.mk hlo.rd.1
  have HK0 := Aside0.mk (KeepT.refl gb B w)
  subst hbv
  clear hlo hm
  have k1 := HR.out.c2
  go_enter Try.func28, Try.ntmps28
  go_upto_region 1 with (go_at_call 43; refine (put_calls gb B id 6 xs _ HBF.out HB.out (by decide) (by have := HX.out; have := HKY.out; first | omega | (simp only [List.length_append, beI_length]; omega))).mono ?_; rintro e w1 ⟨rfl, hb1, hk1⟩; have HB1 := Aside0.mk hb1; have HR1 := Aside0.mk (HR.out.keepT hk1 HNE.out); have HK1 := Aside0.mk (KeepT.trans HK0.out hk1); have HSw1 := Aside0.mk (Nat.le_trans HB.out HK1.out.size); clear hb1 hk1)
  clear k1
  have k1 := HR1.out.c3
  go_upto_region 2 with (go_at_call 43; refine (put_calls gb B no 2 _ _ HB1.out HSw1.out (by decide) (by have := HX.out; have := HKY.out; first | omega | (simp only [List.length_append, beI_length]; omega))).mono ?_; rintro e w2 ⟨rfl, hb1, hk1⟩; have HB2 := Aside0.mk hb1; have HR2 := Aside0.mk (HR1.out.keepT hk1 HNE.out); have HK2 := Aside0.mk (KeepT.trans HK1.out hk1); have HSw2 := Aside0.mk (Nat.le_trans HB.out HK2.out.size); clear hb1 hk1)
  clear k1
  obtain ⟨ys, hys⟩ : ∃ ys, ys = xs ++ beI id 6 ++ beI no 2 := ⟨_, rfl⟩
  have HYS := Aside0.mk hys
  have HYL := Aside0.mk (show ys.length ≤ 200 by have := HX.out; rw [hys, List.length_append, List.length_append, beI_length, beI_length]; omega)
  rw [← hys] at HB2
  have HLO1 := Aside0.mk (HLO.out.keepT HK2.out HGB.out)
  clear HLO hys
  have HLO := Aside0.mk HLO1.out
  clear HLO1
  obtain ⟨v, hv⟩ := HB2.out
  have HV := Aside0.mk hv
  clear hv
  have HVS := Aside0.mk (sb_first (gb := gb) HV.out.own)
  have HBW := Aside0.mk (show B ≤ w2.heap.size from HSw2.out)
  obtain ⟨z0, hz0⟩ : ∃ z, z = ys ++ bs := ⟨_, rfl⟩
  have HZ0 := Aside0.mk hz0
  have hzl0 : z0.length = ys.length + (bs).length := by rw [hz0, List.length_append]
  have HZL0 := Aside0.mk hzl0
  clear hz0 hzl0
  apply wp_region_phase Grows (KeepS (SB gb B w2)) (phaseK _) (fun w' => BufIs w' gb B v ys) HV.out (fun a c h hh => hh.grows h) (hm := by kernel_rfl) (hB := by kernel_rfl)
  case h =>
    iterate 3
      apply phase_fixed
      case hw => simp [Region.wanted, yielded]
      case ho =>
        intro w' hk hf
        clear hf
        refine ⟨?_⟩
        go_simp
        exact ⟨Grows.refl _, rfl⟩
      simp only [Act.put, List.setIfInBounds_toArray, List.set_cons_zero, List.set_cons_succ]
    apply phase_turn (c := v) (J := fun w' => BufIs w' gb B v ys)
    case hw => simp [Region.wanted, yielded]
    case ho =>
      intro w' hk hf hI
      clear hf
      have k0 := hI.cell
      have HI := Aside0.mk hI
      clear hI
      refine ⟨?_⟩
      go_simp
      exact ⟨KeepS.refl _ _, HI.out, rfl⟩
    case hJ => exact fun a c h hh => hh.grows h
    simp only [Act.put, List.setIfInBounds_toArray, List.set_cons_zero, List.set_cons_succ]
    iterate 3
      apply phase_fixed
      case hw => simp [Region.wanted, yielded]
      case ho =>
        intro w' hk hf
        clear hf
        refine ⟨?_⟩
        go_simp
        exact ⟨Grows.refl _, rfl⟩
      simp only [Act.put, List.setIfInBounds_toArray, List.set_cons_zero, List.set_cons_succ]
    apply phase_fixed (c := .slice A m c)
    case hw => simp [Region.wanted, yielded]
    case ho =>
      intro w' hk hf
      clear hf
      have kk := (RecIs.sb (W' := w') HR2.out hk HNE.out).c6
      refine ⟨?_⟩
      go_simp
      exact ⟨Grows.refl _, rfl⟩
    simp only [Act.put, List.setIfInBounds_toArray, List.set_cons_zero, List.set_cons_succ]
    apply phase_turn_free (G := fun v W => True) (J := fun v24 w' => w'.heap[gb]? = some (.cells #[v] 50 (0, 0)) ∧ w'.ownsRow B 5 1 v24 z0.length (nums .u8 z0) ∧ (∀ q, v24.ownBlock = some q → SB gb B w2 q))
    case hw => simp [Region.wanted, yielded]
    case ho =>
      intro w' hk hf hI
      clear hf
      obtain ⟨v1, w1, hr, ho, hg, _⟩ := bytes_run (t := 50) (u := 23) (ty := 50) Try.underlying50 Try.underlying23 B v ys bs A m c hI.own (HLO.out.sb hk HGB.out HBW.out).rd (Nat.le_trans HBW.out hk.size) (by have := HYL.out; have := HKY.out; have := HM.out; have := HML.out; have := numsOf_length key; first | omega | (have := HZL0.out; omega))
      rw [← HZ0.out] at ho
      have hne : v.ownBlock ≠ some gb := fun e => by
        obtain ⟨cs, hcs⟩ := own_typed hI.own gb e
        rw [hI.blk] at hcs
        injection hcs with hcs
        injection hcs with _ hcs
        cases hcs
      exact growAt_appendU (.tmp 19) (.tmp 23) 50 23 rfl rfl rfl ⟨v1, w1, hr, KeepS.of_grown hg HVS.out, ⟨(hg.block gb (lt_heap hI.blk) (fun e => hne e.symm)).trans hI.blk, ho, sb_next hk hg HVS.out ho⟩, trivial⟩
    case hJ => exact fun v a c h hh => ⟨(h.block gb (lt_heap hh.1)).trans hh.1, own_grows hh.2.1 h, hh.2.2⟩
    case hm => exact fun _ _ _ _ _ => trivial
    intro v24
    simp only [Act.put, List.setIfInBounds_toArray, List.set_cons_zero, List.set_cons_succ]
    iterate 1
      apply phase_fixed
      case hw => simp [Region.wanted, yielded]
      case ho =>
        intro w' hk hf
        clear hf
        refine ⟨?_⟩
        go_simp
        exact ⟨Grows.refl _, rfl⟩
      simp only [Act.put, List.setIfInBounds_toArray, List.set_cons_zero, List.set_cons_succ]
    apply phase_turn (c := undef) (J := fun w' => BufAt w' gb B z0)
    case hw => simp [Region.wanted, yielded]
    case ho =>
      intro w' hk hf hI
      clear hf
      obtain ⟨Az, cz, ez, _⟩ := own_slice hI.2.1
      subst ez
      have k0 := cell_of_row w' gb 0 _ 50 (0, 0) hI.1
      have f0 := frozen_of_row w' gb 0 _ 50 hI.1
      have HI := Aside0.mk hI
      clear hI
      refine ⟨?_⟩
      go_simp
      exact ⟨KeepS.of_grown (grown_set w' gb 0 _) (fun q e => .inl (by injection e with e; exact e.symm)), ⟨_, blk_set HI.out.1 0 _, own_keep HI.out.2.1 fun q hq _ cs hcs => set_other w' gb 0 _ hcs (fun e => by subst e; rw [HI.out.1] at hcs; injection hcs with hcs; injection hcs with _ hcs; cases hcs)⟩, rfl⟩
    case hJ => exact fun a c h hh => hh.grows h
    simp only [Act.put, List.setIfInBounds_toArray, List.set_cons_zero, List.set_cons_succ]
    refine phase_nil (fun w5 hk5 hI _ => ?_)
    have HB5 := Aside0.mk hI
    have HK5 := Aside0.mk (KeepT.of_sb hk5)
    clear hI hk5
    go_wp2
    go_end0
    exact ⟨rfl, by rw [← HYS.out, ← HZ0.out]; exact HB5.out, KeepT.trans HK2.out HK5.out⟩
  case ht => kernel_rfl
end Go.Proofs.Ytemnhgmgffdncaa
