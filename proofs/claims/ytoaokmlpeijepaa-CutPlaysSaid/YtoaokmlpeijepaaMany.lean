/-
  Layer 6: CutMany's function.
-/
import Derived.Test.YtoaokmlpeijepaaLive
import Derived.Laws.MakeOwn
import Derived.RegionTactic
import Derived.Deep.RegionWith
import Derived.Deep.RegionLaw
import Derived.Deep.QuietTactic
import Derived.BigQuiet
namespace Go.Proofs.Ytoaokmlpeijepaa
set_option linter.unusedVariables false
set_option linter.unusedSimpArgs false
open Go.RowKit Go.Proofs.YtoaokmlpeijepaaW.PrintWords

theorem quiet_below (W : World) (n : Nat) : Below W.heap.size W (W.drewN n) := ⟨rfl, rfl, rfl, Nat.le_refl _, fun _ _ => rfl⟩
theorem own_slice {W : World} {B t sz : Nat} {v : Value} {n : Nat} {xs : List Value} (h : W.ownsRow B t sz v n xs) : ∃ A c, v = .slice A n c := by
  rcases h.2 with ⟨e, h0⟩ | ⟨g, cap, cur, e, _⟩
  · exact ⟨none, 0, by rw [e, h0]⟩
  · exact ⟨_, cap, e⟩
theorem many_plain (T k each m r : Nat) (he : 1 ≤ each) (h1 : each * m ≤ T % each + k) (h2 : T % each + k < each * (m + 1)) : (T + k) / each = T / each + m ∧ (T + k) % each = T % each + k - each * m := by
  have hT := Nat.div_add_mod T each
  have e : T + k = (T % each + k - each * m) + each * (T / each + m) := by rw [Nat.mul_add]; omega
  have hlt : T % each + k - each * m < each := by rw [Nat.mul_succ] at h2; omega
  constructor
  · rw [e, Nat.add_mul_div_left _ _ (by omega), Nat.div_eq_of_lt hlt]; omega
  · conv => lhs; rw [e, Nat.add_mul_mod_self_left, Nat.mod_eq_of_lt hlt]
theorem rd_mem {l : List Int} {k : Nat} (h : k < l.length) : rd l k ∈ l := by
  have : rd l (k : Int) = l[k] := by simp [rd, List.getD_eq_getElem?_getD, List.getElem?_eq_getElem h]
  rw [this]; exact List.getElem_mem h
/-- make([]byte, k), where it lies in a list of operations. -/
theorem wpList_makeBytes {ops : Array Oper} {rest : List Oper} {o : Oper} {a : Act} {W : World} {Q : Exit → Act → World → Prop} (s : Operand) (hgd : o.guard = none)
    (ho : o.op = .makeSlice 29 s s) (k : Nat) (hs : a.eval s = .int .i64 k) (hl : k ≤ 140737488355328)
    (h : ∀ w1, Below W.heap.size W w1 → ReadsInt w1 .u8 (some ⟨W.heap.size, 0, none⟩) k (List.replicate k 0) → wpList Try.prog ops Q rest (a.put o.dst (.slice (some ⟨W.heap.size, 0, none⟩) k k)) w1) : wpList Try.prog ops Q (o :: rest) a W := by
  obtain ⟨i0, hi, hz0, hz1, hz2⟩ := parts3 info5'
  have hr := run_make (P := Try.prog) W 29 5 i0 (.int .u8 0) Try.underlying29 hi hz0 .i64 .i64 k k (by omega) (by omega) (by rw [hz2]; omega) (by omega)
  rw [hz1, Nat.mul_one, Int.toNat_natCast] at hr
  refine wpList_plain hgd fun K hK => ?_
  unfold Oper.wp execOp
  simp only [ho, hs, Sem.run_bind, Sem.run_pure, Result.andThen_ok, hr]
  refine hK _ _ (h _ (below_alloc (Below.refl _ _) _) ⟨by simp, by omega, fun _ => ⟨_, rfl, fun j hj => ?_⟩⟩)
  have hadd : (⟨W.heap.size, 0, none⟩ : Addr).add j = ⟨W.heap.size, 0 + j, none⟩ := by unfold Addr.add; split <;> simp_all
  rw [hadd, cell_of_row _ _ _ _ 5 (0, 0) (heap_alloc_new W _), Nat.zero_add]
  have e : (madeCells #[Value.int .u8 0] k).toList = List.replicate k (.int .u8 0) := toList_madeCells_one _ _
  show (madeCells #[Value.int .u8 0] k)[j]? = _
  rw [← Array.getElem?_toList, e, List.getElem?_replicate, if_pos hj, List.getD_eq_getElem?_getD, List.getElem?_replicate, if_pos hj]
  rfl
set_option maxRecDepth 100000 in
set_option maxHeartbeats 4000000 in
theorem many_calls (s : Int) (hs0 : 0 ≤ s) (hs1 : s < 65536) (A1 : Option Addr) (n1 c1 : Nat) (l : List Int) (w : World) (hr : ReadsInt w .u16 A1 n1 l) (hb : ∀ x ∈ l, 0 ≤ x ∧ x < 65536) :
    Calls Try.prog 7 #[.int .u16 s, .slice A1 n1 c1] w fun e w' => e = .returned (.bool true) ∧ Below w.heap.size w w' := by
  have HR := Aside0.mk hr
  have HBD := Aside0.mk hb
  have hm1 := hr.2.1
  have HLN := Aside0.mk hr.1
  clear hr hb
  go_enter Try.func7, Try.ntmps7
  go_upto_region 3 with (go_at_call 8; refine (head_calls _).mono ?_; rintro e w1 ⟨rfl, hb1⟩; have HB1 := Aside0.mk hb1; clear hb1)
  obtain ⟨each, heach⟩ : ∃ each : Nat, 1 + s % 4096 = (each : Int) := ⟨(1 + s % 4096).toNat, by omega⟩
  have hx1 : 1 ≤ each := by omega
  have hx2 : each ≤ 4096 := by omega
  rw [heach]
  generalize s % 4096 = s'
  go_upto_region 4 with (go_at_call 10; refine (new_calls each _ (by omega) (by omega)).mono ?_; rintro e w2 ⟨g, rfl, hg0, hc2, hb2⟩; have HG0 := Aside0.mk (show w.heap.size ≤ g from hg0 ▸ HB1.out.size); have HC2 := Aside0.mk hc2; have HB2 := Aside0.mk (below_then HB1.out HB1.out.size hb2); clear hg0 hc2 hb2)
  by_cases hn : n1 > 100
  · go_wp2
    go_ret
    exact ⟨rfl, HB2.out⟩
  have hn' : n1 ≤ 100 := by omega
  have hd : decide ((n1 : Int) > 100) = false := by simp; omega
  go_wp2
  go_loopg [8, 9, 10] n1 (fun f v8 v9 v10 wr => ∃ (k T : Nat) (q : Int), Aside0 (f + k = n1) ∧ k ≤ n1 ∧ v10 = .int .i64 k ∧ v8 = .int .i64 T ∧ v9 = .int .i64 q ∧ Aside0 (q = ((T / each : Nat) : Int)) ∧ T ≤ k * 3000 ∧ Aside0 (∃ A c L, CutAt wr g each T A c L ∧ L.length = T % each) ∧ Aside0 (Below w.heap.size w wr))
  case atStart => exact ⟨0, 0, 0, ⟨rfl⟩, by omega, rfl, rfl, rfl, ⟨by simp⟩, by omega, ⟨none, 0, [], HC2.out, by simp⟩, HB2⟩
  case round =>
    obtain ⟨k, T, q, HK, hk, rfl, rfl, rfl, HQ, hT, HS, HB⟩ := hrel
    by_cases hlt : k < n1
    · have HC := Aside0.mk (HR.out.below HB.out)
      obtain ⟨ad, hA, hcell⟩ := HC.out.at_ (k : Int) (by omega) (by omega)
      subst hA
      have hx := HBD.out _ (rd_mem (l := l) (k := k) (by have := HLN.out; omega))
      generalize rd l (k : Int) = x at hcell hx
      rw [Int.toNat_natCast] at hcell
      obtain ⟨hy0, hy1⟩ := hx
      obtain ⟨A, c, L, hcut, hLlen⟩ := HS.out
      have HCUT := Aside0.mk hcut
      have HLL := Aside0.mk hLlen
      have hLe : T % each < each := Nat.mod_lt _ (by omega)
      clear HS hcut hLlen
      obtain ⟨m, hm⟩ : ∃ m : Nat, x % 3000 = (m : Int) := ⟨(x % 3000).toNat, by omega⟩
      have hm3 : m < 3000 := by omega
      go_upto_region 12 with fail
      rw [hm]
      have hqb : 0 ≤ q ∧ q ≤ 300000 := by
        have := HQ.out
        have h2 : T / each ≤ T := Nat.div_le_self _ _
        generalize T / each = dd at this h2
        omega
      have hLb : L.length ≤ 4096 := by have := HLL.out; omega
      go_upto_region 14 with (first
        | (refine wpList_makeBytes (.tmp 45) rfl rfl m rfl (by omega) ?_
           intro w3 hb3 hr3
           have HB3 := Aside0.mk hb3
           have HR3 := Aside0.mk hr3
           clear hb3 hr3)
        | (go_at_call 14
           refine (write_calls g each T A c L _ m m _ w3 (HCUT.out.below HB3.out) HR3.out hx1 hx2 (by omega) (by omega) (by omega)).mono ?_
           rintro e w4 ⟨v, xs, rfl, hrow, hout, hlt4, hg4⟩
           have hle4 := hout.le
           obtain ⟨A4, c4, hcut4, -⟩ := hout.cut
           obtain ⟨Av, cv, rfl⟩ := own_slice hrow
           have HLE := Aside0.mk hle4
           have HLT := Aside0.mk hlt4
           have HC4 := Aside0.mk hcut4
           have HG4 := Aside0.mk hg4
           clear hrow hout hle4 hlt4 hcut4 hg4))
      have HB4 := Aside0.mk (show Below w.heap.size w w4 from by
        have h1 := HB.out
        have h3 := HB3.out
        have h4 := HG4.out
        have hg := HG0.out
        refine ⟨h4.os.trans (h3.os.trans h1.os), h4.tape.trans (h3.tape.trans h1.tape), h4.output.trans (h3.output.trans h1.output), Nat.le_trans h1.size (Nat.le_trans h3.size h4.size), fun i hi => ?_⟩
        have i1 : i < wr.heap.size := Nat.lt_of_lt_of_le hi h1.size
        rw [h4.block i (Nat.lt_of_lt_of_le i1 h3.size) (fun e => by injection e with e; omega), h3.block i i1, h1.block i hi])
      have hpl : wrap64 (q + (xs.length : Int)) = (((T + m) / each : Nat) : Int) ∧ ((L ++ List.replicate m 0).drop (each * xs.length)).length = (T + m) % each := by
        have h1 := HLE.out
        have h2 := HLT.out
        have h3 := HLL.out
        have h4 := HQ.out
        rw [List.length_append, List.length_replicate, h3] at h1 h2
        obtain ⟨e1, e2⟩ := many_plain T m each xs.length 0 hx1 h1 h2
        rw [e1, e2, List.length_drop, List.length_append, List.length_replicate, h3, h4]
        have h5 : each * xs.length ≤ 10000 := by omega
        have h6 : xs.length ≤ each * xs.length := Nat.le_mul_of_pos_left _ (by omega)
        have h7 : T / each ≤ T := Nat.div_le_self _ _
        generalize T / each = dd at h7 ⊢
        exact ⟨by rw [IntWalk.wrap64_in _ ⟨by omega, by omega⟩]; omega, rfl⟩
      obtain ⟨hp1, hp2⟩ := hpl
      generalize (L ++ List.replicate m 0).drop (each * xs.length) = L4 at HC4 hp2
      rw [hp1]
      obtain ⟨TT, hTT⟩ : ∃ TT : Nat, T + m = TT := ⟨_, rfl⟩
      rw [hTT] at hp2 ⊢
      have hTi : (T : Int) + (m : Int) = (TT : Int) := by omega
      rw [hTi] at HC4 ⊢
      have hd1 : (TT : Int) / (each : Int) = ((TT / each : Nat) : Int) := (Int.natCast_ediv _ _).symm
      have hd2 : (TT : Int) % (each : Int) = ((L4.length : Nat) : Int) := by rw [hp2]; exact (Int.natCast_emod _ _).symm
      have hd3 : Int.tdiv (TT : Int) (each : Int) = ((TT / each : Nat) : Int) := by rw [Int.tdiv_eq_ediv_of_nonneg (by omega), hd1]
      have hd4 : Int.tmod (TT : Int) (each : Int) = ((L4.length : Nat) : Int) := by rw [Int.tmod_eq_emod_of_nonneg (by omega), hd2]
      have hez : ¬ ((each : Int) = 0) := by omega
      have hez2 : ¬ (each = 0) := by omega
      have hTTb : TT ≤ 400000 := by omega
      have hqd : ((TT / each : Nat) : Int) ≤ 400000 := by
        have := Nat.div_le_self TT each
        generalize TT / each = dd at this ⊢
        omega
      have hqd0 : 0 ≤ ((TT / each : Nat) : Int) := Int.natCast_nonneg _
      have HP2 := Aside0.mk hp2
      have hLb4 : L4.length ≤ 4096 := by
        rw [hp2]
        exact Nat.le_trans (Nat.le_of_lt (Nat.mod_lt TT (show 0 < each by omega))) hx2
      have hwq : wrap64 ((TT / each : Nat) : Int) = ((TT / each : Nat) : Int) := IntWalk.wrap64_in _ ⟨by omega, by omega⟩
      have hwr : wrap64 (L4.length : Int) = (L4.length : Int) := IntWalk.wrap64_in _ ⟨by omega, by omega⟩
      have hQQ := Aside0.mk (show ((TT / each : Nat) : Int) = ((TT / each : Nat) : Int) from rfl)
      generalize hqq : ((TT / each : Nat) : Int) = QQ at hd1 hd3 hqd hqd0 hwq hQQ ⊢
      have HQQ := Aside0.mk hqq
      clear hqq hp2 hQQ
      have HTb := Aside0.mk (show TT ≤ (k + 1) * 3000 by omega)
      clear hp1 hTT hTi hm heach hqb hLb hLe hm3 hcell hy0 hy1
      go_quiet (first
        | (go_at_call 19; refine Calls.quiet_of_same (left_calls g each TT A4 c4 L4 _ (HC4.out.below (quiet_below _ _))))
        | (go_at_call 17; refine Calls.quiet_of_same (size_calls g each TT A4 c4 L4 _ (HC4.out.below (quiet_below _ _)))))
      go_wp2
      go_roundg (n1 - (k + 1))
      case measure => have := HK.out; omega
      case rel =>
        have hbd : Below w4.heap.size w4 (w4.drewN nq) := quiet_below _ _
        exact ⟨k + 1, TT, QQ, ⟨by omega⟩, by omega, by go_num, rfl, rfl, ⟨HQQ.out.symm⟩, HTb.out, ⟨A4, c4, L4, HC4.out.below hbd, HP2.out⟩, ⟨below_then HB4.out HB4.out.size hbd⟩⟩
    · go_wp2
      go_ret
      exact ⟨rfl, HB.out⟩
end Go.Proofs.Ytoaokmlpeijepaa
