/-
  Layer 4: a Root's bytes, as they are put.
-/
import Derived.Test.YtemnhgmgffdncaaTo
import Derived.Test.YtemnhgmgffdncaaOf
namespace Go.Proofs.Ytemnhgmgffdncaa
set_option linter.unusedVariables false
set_option linter.unusedSimpArgs false
open Go.RowKit Go.Proofs.YtemnhgmgffdncaaW.PrintWords Go.Proofs.YtemnhgmgffdncaaW.PrintMore
attribute [local go_sem] max2_int

def locsB (l : List Loc3) : List Int := l.flatMap fun x => beI x.1 4 ++ beI x.2.1 4 ++ beI x.2.2 2
theorem locsB_length (l : List Loc3) : (locsB l).length = 10 * l.length := by
  induction l with
  | nil => rfl
  | cons x l ih =>
    have h : locsB (x :: l) = (beI x.1 4 ++ beI x.2.1 4 ++ beI x.2.2 2) ++ locsB l := rfl
    rw [h, List.length_append, ih, List.length_append, List.length_append, beI_length, beI_length, beI_length, List.length_cons]; omega
theorem locsB_append (a b : List Loc3) : locsB (a ++ b) = locsB a ++ locsB b := by simp [locsB]
theorem locsB_take (l : List Loc3) (i : Nat) (x : Loc3) (h : l[i]? = some x) : locsB (l.take (i + 1)) = locsB (l.take i) ++ (beI x.1 4 ++ beI x.2.1 4 ++ beI x.2.2 2) := by
  obtain ⟨hi, hx⟩ := List.getElem?_eq_some_iff.1 h
  rw [List.take_succ_eq_append_getElem hi, locsB_append, hx]
  simp [locsB]
theorem locsB_u8s (l : List Loc3) : u8s (locsB l) := by
  intro z hz
  obtain ⟨x, _, hx⟩ := List.mem_flatMap.1 hz
  rcases List.mem_append.1 hx with hx | hx
  · rcases List.mem_append.1 hx with hx | hx
    · exact beI_u8s _ _ _ hx
    · exact beI_u8s _ _ _ hx
  · exact beI_u8s _ _ _ hx
/-- Parts that stand below B. -/
structure LowL (W : World) (B : Nat) (A : Option Addr) (ls : List Loc3) : Prop where
  len : ls.length ≤ 9223372036854775807
  cells : 0 < ls.length → ∃ ad, A = some ad ∧ ad.block < B ∧ ∀ i x, ls[i]? = some x → W.cell? (ad.add (i * 3)) = some (.int .i64 x.1) ∧ W.cell? ⟨(ad.add (i * 3)).block, (ad.add (i * 3)).off + 1, none⟩ = some (.int .i64 x.2.1) ∧ W.cell? ⟨(ad.add (i * 3)).block, (ad.add (i * 3)).off + 2, none⟩ = some (.int .i64 x.2.2)
theorem add_block (ad : Addr) (j : Nat) : (ad.add j).block = ad.block := by unfold Addr.add; split <;> rfl
theorem LowL.keep {W W' : World} {B : Nat} {A : Option Addr} {ls : List Loc3} (h : LowL W B A ls) (hk : ∀ k, k < B → k < W.heap.size → W'.heap[k]? = W.heap[k]?) : LowL W' B A ls := by
  refine ⟨h.len, fun hn => ?_⟩
  obtain ⟨ad, e, hlo, hc⟩ := h.cells hn
  refine ⟨ad, e, hlo, fun i x hx => ?_⟩
  obtain ⟨h0, h1, h2⟩ := hc i x hx
  have hlt := World.block_lt_of_cell? W _ h0
  have hb := add_block ad (i * 3)
  have hh := hk (ad.add (i * 3)).block (by omega) hlt
  have e1 : W'.cell? ⟨(ad.add (i * 3)).block, (ad.add (i * 3)).off + 1, none⟩ = W.cell? ⟨(ad.add (i * 3)).block, (ad.add (i * 3)).off + 1, none⟩ := World.cell?_of_block (w := W) hh
  have e2 : W'.cell? ⟨(ad.add (i * 3)).block, (ad.add (i * 3)).off + 2, none⟩ = W.cell? ⟨(ad.add (i * 3)).block, (ad.add (i * 3)).off + 2, none⟩ := World.cell?_of_block (w := W) hh
  exact ⟨(World.cell?_of_block (w := W) hh).trans h0, e1.trans h1, e2.trans h2⟩
theorem LowL.keepT {gb B : Nat} {A : Option Addr} {ls : List Loc3} {W W' : World} (h : LowL W B A ls) (hk : KeepT gb B W W') (hg : B ≤ gb) : LowL W' B A ls :=
  h.keep fun k hk1 hk2 => by
    rw [hk.block k _ (Array.getElem?_eq_getElem hk2) (by omega) (.inl hk1), Array.getElem?_eq_getElem hk2]
theorem LowL.at {W : World} {B : Nat} {A : Option Addr} {ls : List Loc3} (h : LowL W B A ls) (i : Nat) (hi : i < ls.length) : ∃ ad x, A = some ad ∧ ls[i]? = some x ∧ W.cell? (ad.add (i * 3)) = some (.int .i64 x.1) ∧ W.cell? ⟨(ad.add (i * 3)).block, (ad.add (i * 3)).off + 1, none⟩ = some (.int .i64 x.2.1) ∧ W.cell? ⟨(ad.add (i * 3)).block, (ad.add (i * 3)).off + 2, none⟩ = some (.int .i64 x.2.2) := by
  obtain ⟨ad, e, _, hc⟩ := h.cells (by omega)
  exact ⟨ad, ls[i], e, List.getElem?_eq_getElem hi, hc i _ (List.getElem?_eq_getElem hi)⟩
theorem row_keepT {W W' : World} {gb B lb t : Nat} {cs : Array Value} (h : W.heap[lb]? = some (.cells cs t (0, 0))) (hk : KeepT gb B W W') (hne : lb ≠ gb) (ht : t ≠ 5) : W'.heap[lb]? = some (.cells cs t (0, 0)) :=
  hk.block lb _ h hne (.inr fun cs' e => by injection e with _ e; exact ht e)
set_option maxRecDepth 100000 in
set_option maxHeartbeats 4000000 in
theorem rootTo_calls (g gb B : Nat) (kind : Int) (key : ByteArray) (id no size : Int) (vL vB : Value) (xs : List Int) (w : World) (hr : RecIs w g kind key id no size vL vB) (hb : BufAt w gb B xs) (hB : B ≤ w.heap.size) (hgb : B ≤ gb) (hx : xs.length ≤ 100) (hky : key.size ≤ 10000) (LA : Option Addr) (lc : Nat) (ls : List Loc3) (hlv : vL = .slice LA ls.length lc) (hlo : LowL w B LA ls) (hm : ls.length ≤ 10000) :
    Calls Try.prog 32 #[.pointer (some ⟨g, 0, none⟩), .pointer (some ⟨gb, 0, none⟩)] w fun e w' => e = .returned (.tuple #[]) ∧ BufAt w' gb B (xs ++ beI (key.size : Int) 1 ++ numsOf key ++ beI id 6 ++ beI size 3 ++ beI (ls.length : Int) 2 ++ locsB ls) ∧ KeepT gb B w w' := by
  have HNE := Aside0.mk (rec_buf hr hb)
  have HR := Aside0.mk hr
  have HBF := Aside0.mk hb
  have HB := Aside0.mk hB
  have HGB := Aside0.mk hgb
  have HX := Aside0.mk hx
  have HKY := Aside0.mk (show (numsOf key).length ≤ 10000 by rw [numsOf_length]; exact hky)
  clear hr hb hB hgb hx hky
  have HLO := Aside0.mk hlo
  have HM := Aside0.mk hm
  have HK0 := Aside0.mk (KeepT.refl gb B w)
  subst hlv
  clear hlo hm
  have k1 := HR.out.c1
  go_enter Try.func32, Try.ntmps32
  go_upto_region 1 with (go_at_call 43; refine (put_calls gb B (key.size : Int) 1 xs _ HBF.out HB.out (by decide) (by have := HX.out; have := HKY.out; first | omega | (simp only [List.length_append, beI_length]; omega))).mono ?_; rintro e w1 ⟨rfl, hb1, hk1⟩; have HB1 := Aside0.mk hb1; have HR1 := Aside0.mk (HR.out.keepT hk1 HNE.out); have HK1 := Aside0.mk (KeepT.trans HK0.out hk1); have HSw1 := Aside0.mk (Nat.le_trans HB.out HK1.out.size); clear hb1 hk1)
  clear k1
  obtain ⟨ys, hys⟩ : ∃ ys, ys = xs ++ beI (key.size : Int) 1 := ⟨_, rfl⟩
  have HYS := Aside0.mk hys
  have HYL := Aside0.mk (show ys.length ≤ 200 by have := HX.out; rw [hys, List.length_append, beI_length]; omega)
  rw [← hys] at HB1
  clear hys
  obtain ⟨v, hv⟩ := HB1.out
  have HV := Aside0.mk hv
  clear hv
  have HVS := Aside0.mk (sb_first (gb := gb) HV.out.own)
  have HBW := Aside0.mk (show B ≤ w1.heap.size from HSw1.out)
  obtain ⟨z0, hz0⟩ : ∃ z, z = ys ++ numsOf key := ⟨_, rfl⟩
  have HZ0 := Aside0.mk hz0
  have hzl0 : z0.length = ys.length + (numsOf key).length := by rw [hz0, List.length_append]
  have HZL0 := Aside0.mk hzl0
  clear hz0 hzl0
  apply wp_region_phase Grows (KeepS (SB gb B w1)) (phaseK _) (fun w' => BufIs w' gb B v ys) HV.out (fun a c h hh => hh.grows h) (hm := by kernel_rfl) (hB := by kernel_rfl)
  case h =>
    iterate 3
      apply phase_fixed
      case hw => simp [Region.wanted, yielded]
      case ho =>
        intro w' hk hf
        clear hf
        refine ⟨?_⟩
        go_simp
        exact ⟨Grows.refl _, rfl⟩
      simp only [Act.put, List.setIfInBounds_toArray, List.set_cons_zero, List.set_cons_succ]
    apply phase_turn (c := v) (J := fun w' => BufIs w' gb B v ys)
    case hw => simp [Region.wanted, yielded]
    case ho =>
      intro w' hk hf hI
      clear hf
      have k0 := hI.cell
      have HI := Aside0.mk hI
      clear hI
      refine ⟨?_⟩
      go_simp
      exact ⟨KeepS.refl _ _, HI.out, rfl⟩
    case hJ => exact fun a c h hh => hh.grows h
    simp only [Act.put, List.setIfInBounds_toArray, List.set_cons_zero, List.set_cons_succ]
    iterate 3
      apply phase_fixed
      case hw => simp [Region.wanted, yielded]
      case ho =>
        intro w' hk hf
        clear hf
        refine ⟨?_⟩
        go_simp
        exact ⟨Grows.refl _, rfl⟩
      simp only [Act.put, List.setIfInBounds_toArray, List.set_cons_zero, List.set_cons_succ]
    apply phase_fixed (c := .string key)
    case hw => simp [Region.wanted, yielded]
    case ho =>
      intro w' hk hf
      clear hf
      have kk := (RecIs.sb (W' := w') HR1.out hk HNE.out).c1
      refine ⟨?_⟩
      go_simp
      exact ⟨Grows.refl _, rfl⟩
    simp only [Act.put, List.setIfInBounds_toArray, List.set_cons_zero, List.set_cons_succ]
    apply phase_turn_free (G := fun v W => True) (J := fun v21 w' => w'.heap[gb]? = some (.cells #[v] 50 (0, 0)) ∧ w'.ownsRow B 5 1 v21 z0.length (nums .u8 z0) ∧ (∀ q, v21.ownBlock = some q → SB gb B w1 q))
    case hw => simp [Region.wanted, yielded]
    case ho =>
      intro w' hk hf hI
      clear hf
      obtain ⟨v1, w1, hr, ho, hg⟩ := bytes_run_str (t := 50) (u := 9) (ty := 50) Try.underlying50 Try.underlying9 B v ys key hI.own (Nat.le_trans HBW.out hk.size) (by have := HYL.out; have := HKY.out; have := numsOf_length key; first | omega | (have := HZL0.out; omega))
      rw [← HZ0.out] at ho
      have hne : v.ownBlock ≠ some gb := fun e => by
        obtain ⟨cs, hcs⟩ := own_typed hI.own gb e
        rw [hI.blk] at hcs
        injection hcs with hcs
        injection hcs with _ hcs
        cases hcs
      exact growAt_appendU (.tmp 16) (.tmp 20) 50 9 rfl rfl rfl ⟨v1, w1, hr, KeepS.of_grown hg HVS.out, ⟨(hg.block gb (lt_heap hI.blk) (fun e => hne e.symm)).trans hI.blk, ho, sb_next hk hg HVS.out ho⟩, trivial⟩
    case hJ => exact fun v a c h hh => ⟨(h.block gb (lt_heap hh.1)).trans hh.1, own_grows hh.2.1 h, hh.2.2⟩
    case hm => exact fun _ _ _ _ _ => trivial
    intro v21
    simp only [Act.put, List.setIfInBounds_toArray, List.set_cons_zero, List.set_cons_succ]
    iterate 1
      apply phase_fixed
      case hw => simp [Region.wanted, yielded]
      case ho =>
        intro w' hk hf
        clear hf
        refine ⟨?_⟩
        go_simp
        exact ⟨Grows.refl _, rfl⟩
      simp only [Act.put, List.setIfInBounds_toArray, List.set_cons_zero, List.set_cons_succ]
    apply phase_turn (c := undef) (J := fun w' => BufAt w' gb B z0)
    case hw => simp [Region.wanted, yielded]
    case ho =>
      intro w' hk hf hI
      clear hf
      obtain ⟨Az, cz, ez, _⟩ := own_slice hI.2.1
      subst ez
      have k0 := cell_of_row w' gb 0 _ 50 (0, 0) hI.1
      have f0 := frozen_of_row w' gb 0 _ 50 hI.1
      have HI := Aside0.mk hI
      clear hI
      refine ⟨?_⟩
      go_simp
      exact ⟨KeepS.of_grown (grown_set w' gb 0 _) (fun q e => .inl (by injection e with e; exact e.symm)), ⟨_, blk_set HI.out.1 0 _, own_keep HI.out.2.1 fun q hq _ cs hcs => set_other w' gb 0 _ hcs (fun e => by subst e; rw [HI.out.1] at hcs; injection hcs with hcs; injection hcs with _ hcs; cases hcs)⟩, rfl⟩
    case hJ => exact fun a c h hh => hh.grows h
    simp only [Act.put, List.setIfInBounds_toArray, List.set_cons_zero, List.set_cons_succ]
    refine phase_nil (fun w5 hk5 hI _ => ?_)
    have HB5 := Aside0.mk hI
    have HK5 := Aside0.mk (KeepT.of_sb hk5)
    clear hI hk5
    have HR5 := Aside0.mk (HR1.out.keepT HK5.out HNE.out)
    have HKa := Aside0.mk (KeepT.trans HK1.out HK5.out)
    have HSa := Aside0.mk (Nat.le_trans HB.out HKa.out.size)
    have k1 := HR5.out.c2
    go_upto_region 3 with (go_at_call 43; refine (put_calls gb B id 6 _ _ HB5.out HSa.out (by decide) (by have := HYL.out; have := HKY.out; have := HZL0.out; first | omega | (simp only [List.length_append, beI_length]; omega))).mono ?_; rintro e w6 ⟨rfl, hb1, hk1⟩; have HB6 := Aside0.mk hb1; have HR6 := Aside0.mk (HR5.out.keepT hk1 HNE.out); have HKb := Aside0.mk (KeepT.trans HKa.out hk1); have HSw6 := Aside0.mk (Nat.le_trans HB.out HKb.out.size); clear hb1 hk1)
    clear k1
    have k1 := HR6.out.c4
    go_upto_region 4 with (go_at_call 43; refine (put_calls gb B size 3 _ _ HB6.out HSw6.out (by decide) (by have := HYL.out; have := HKY.out; have := HZL0.out; first | omega | (simp only [List.length_append, beI_length]; omega))).mono ?_; rintro e w7 ⟨rfl, hb1, hk1⟩; have HB7 := Aside0.mk hb1; have HR7 := Aside0.mk (HR6.out.keepT hk1 HNE.out); have HKc := Aside0.mk (KeepT.trans HKb.out hk1); have HSw7 := Aside0.mk (Nat.le_trans HB.out HKc.out.size); clear hb1 hk1)
    clear k1
    have k1 := HR7.out.c5
    go_upto_region 5 with (go_at_call 43; refine (put_calls gb B (ls.length : Int) 2 _ _ HB7.out HSw7.out (by decide) (by have := HYL.out; have := HKY.out; have := HZL0.out; first | omega | (simp only [List.length_append, beI_length]; omega))).mono ?_; rintro e w8 ⟨rfl, hb1, hk1⟩; have HB8 := Aside0.mk hb1; have HR8 := Aside0.mk (HR7.out.keepT hk1 HNE.out); have HKd := Aside0.mk (KeepT.trans HKc.out hk1); have HSw8 := Aside0.mk (Nat.le_trans HB.out HKd.out.size); clear hb1 hk1)
    clear k1
    have k1 := HR8.out.c5
    obtain ⟨us, hus⟩ : ∃ us, us = z0 ++ beI id 6 ++ beI size 3 ++ beI (ls.length : Int) 2 := ⟨_, rfl⟩
    have HUS := Aside0.mk hus
    have HUL := Aside0.mk (show us.length ≤ 20000 by have := HYL.out; have := HKY.out; have := HZL0.out; rw [hus]; simp only [List.length_append, beI_length]; omega)
    rw [← hus] at HB8
    clear hus
    go_wp2
    go_loopg [5, 47] ls.length (fun f v5 v47 wz => ∃ i : Nat, Aside0 (f + i = ls.length) ∧ i ≤ ls.length ∧ v47 = .int .i64 i ∧ Aside0 (BufAt wz gb B (us ++ locsB (ls.take i))) ∧ Aside0 (KeepT gb B w wz))
    case atStart => exact ⟨0, ⟨rfl⟩, Nat.zero_le _, rfl, ⟨by simpa [locsB] using HB8.out⟩, HKd⟩
    case round =>
      obtain ⟨i, HF, hi, rfl, HBi, HKi⟩ := hrel
      by_cases hlt : i < ls.length
      · have hlt2 : (i : Int) < (ls.length : Int) := by omega
        have h0i : (0 : Int) ≤ (i : Int) := by omega
        obtain ⟨ad, x, hA, hx, hx0, hx1, hx2⟩ := (HLO.out.keepT HKi.out HGB.out).at i hlt
        have HX1 := Aside0.mk hx
        subst hA
        have htn : ((i : Int)).toNat = i := Int.toNat_natCast i
        have hi9 : i ≤ 9223372036854775806 := by have := HM.out; omega
        obtain ⟨q1, q2, q3⟩ := x
        simp only at hx0 hx1 hx2
        clear hx
        go_upto_region 8 with fail
        have HLB := Aside0.mk (show wr.heap.size ≠ gb from fun e => by obtain ⟨v, hv⟩ := HBi.out; have := lt_heap hv.blk; omega)
        have hgr : Grows wr (wr.alloc (.cells #[.int .i64 q1, .int .i64 q2, .int .i64 q3] 39)) := (Below.refl _ _).alloc (Nat.le_refl _) _
        have HB9 := Aside0.mk (HBi.out.grows hgr)
        have HK9 := Aside0.mk (KeepT.trans HKi.out (KeepT.of_grows hgr))
        have HL9 := Aside0.mk (heap_alloc_new wr (.cells #[.int .i64 q1, .int .i64 q2, .int .i64 q3] 39))
        clear hgr hx0 hx1 hx2
        generalize wr.alloc (.cells #[.int .i64 q1, .int .i64 q2, .int .i64 q3] 39) = u4 at HB9 HK9 HL9 ⊢
        generalize wr.heap.size = lb at HL9 HLB ⊢
        have HTL := Aside0.mk (show (locsB (ls.take i)).length ≤ 100000 by have := HM.out; rw [locsB_length, List.length_take]; omega)
        have HS9 := Aside0.mk (Nat.le_trans HB.out HK9.out.size)
        have l0 := cell_of_row u4 lb 0 _ 39 (0, 0) HL9.out
        go_upto_region 9 with (go_at_call 43; refine (put_calls gb B q1 4 _ _ HB9.out HS9.out (by decide) (by have := HUL.out; have := HTL.out; simp only [List.length_append, beI_length]; omega)).mono ?_; rintro e u5 ⟨rfl, hb1, hk1⟩; have HB10 := Aside0.mk hb1; have HK10 := Aside0.mk (KeepT.trans HK9.out hk1); have HL10 := Aside0.mk (row_keepT HL9.out hk1 HLB.out (by decide)); have HS10 := Aside0.mk (Nat.le_trans HB.out HK10.out.size); clear hb1 hk1 l0)
        have l0 := cell_of_row u5 lb 1 _ 39 (0, 0) HL10.out
        go_upto_region 10 with (go_at_call 43; refine (put_calls gb B q2 4 _ _ HB10.out HS10.out (by decide) (by have := HUL.out; have := HTL.out; simp only [List.length_append, beI_length]; omega)).mono ?_; rintro e u6 ⟨rfl, hb1, hk1⟩; have HB11 := Aside0.mk hb1; have HK11 := Aside0.mk (KeepT.trans HK10.out hk1); have HL11 := Aside0.mk (row_keepT HL10.out hk1 HLB.out (by decide)); have HS11 := Aside0.mk (Nat.le_trans HB.out HK11.out.size); clear hb1 hk1 l0)
        have l0 := cell_of_row u6 lb 2 _ 39 (0, 0) HL11.out
        go_upto_region 11 with (go_at_call 43; refine (put_calls gb B q3 2 _ _ HB11.out HS11.out (by decide) (by have := HUL.out; have := HTL.out; simp only [List.length_append, beI_length]; omega)).mono ?_; rintro e u7 ⟨rfl, hb1, hk1⟩; have HB12 := Aside0.mk hb1; have HK12 := Aside0.mk (KeepT.trans HK11.out hk1); clear hb1 hk1 l0)
        go_wp2
        go_roundg (ls.length - (i + 1))
        case measure => have := HF.out; omega
        case rel => exact ⟨i + 1, ⟨by have := HF.out; omega⟩, by omega, by go_num, ⟨by rw [locsB_take ls i _ HX1.out]; simpa only [List.append_assoc] using HB12.out⟩, HK12⟩
      · obtain rfl : i = ls.length := by omega
        go_wp2
        go_end0
        refine ⟨rfl, ?_, HKi.out⟩
        have h := HBi.out
        rw [List.take_length, HUS.out, HZ0.out, HYS.out] at h
        exact h
  case ht => kernel_rfl
end Go.Proofs.Ytemnhgmgffdncaa
