/-
  The law SumTable: the Go function returns true at every input, and writes nothing that was there.
-/
import Derived.Test.YtnbjmhlijepkfaaRows
import Derived.WalkKit
import Derived.ProofKit
import Derived.OpenShut
import Derived.ShutString
import Derived.ChangeOld
import Derived.Below
import Derived.SizedLaws
import Derived.Test.YtnbjmhlijepkfaaHead
namespace Go.Proofs.Ytnbjmhlijepkfaa.sumTable
open Go.ChangeShapes Go.WideShapes Go.ChangeAt Go.RowKit
open Go.Proofs.Ytnbjmhlijepkfaa Crc
set_option linter.unusedVariables false
set_option linter.unusedSimpArgs false

theorem own : ownKnob Try.prog.godebug = none := by kernel_rfl
theorem laidOut : laidOutB Try.prog = true := by kernel_rfl

theorem tabcell {w : World} {B : Nat} (h : w.heap[B]? = some (.cells (cellsOf tab) 23 (0, 0))) {w' : World} (hb : Below w.heap.size w w') (k : Nat) (hk : k < 256) : w'.cell? ⟨B, k, none⟩ = some (.int .u32 ((tab k).toNat : Int)) := by
  rw [cell_of_row w' B k _ 23 _ ((hb.block B (Array.getElem?_eq_some_iff.1 h).1).trans h), cellsOf_get tab k hk]; rfl
attribute [local go_sem] growUpon
set_option maxRecDepth 100000 in
set_option maxHeartbeats 1000000 in
theorem walk (a0 : Int) (a1 : Int) (w : World) (w0 : (Lit.int .u8 a0).wf = true) (w1 : (Lit.int .u8 a1).wf = true) :
    Calls Try.prog 7 #[.int .u8 a0, .int .u8 a1] w fun e w' => e = .returned (.bool true) ∧ Below w.heap.size w w' := by
  have hx : 0 ≤ a0 ∧ a0 ≤ 255 := by simpa [Lit.wf, IntKind.min, IntKind.max, IntKind.signed, IntKind.bits] using w0
  have hy : 0 ≤ a1 ∧ a1 ≤ 255 := by simpa [Lit.wf, IntKind.min, IntKind.max, IntKind.signed, IntKind.bits] using w1
  clear w0 w1
  obtain ⟨x, rfl⟩ := Int.eq_ofNat_of_zero_le hx.1
  obtain ⟨y, rfl⟩ := Int.eq_ofNat_of_zero_le hy.1
  have hx1 : x < 256 := by omega
  have hy1 : y < 256 := by omega
  clear hx hy
  have HZ := Aside0.mk zero23
  have hxor := u8_xor_nat x y hx1 hy1
  have hz1 : x ^^^ y < 256 := Nat.xor_lt_two_pow (n := 8) hx1 hy1
  have hte : Go.bits .xor .u32 ((tab x).toNat : Int) ((tab y).toNat : Int) = ((tab (x ^^^ y)).toNat : Int) := by rw [bits_xor32, tab_xor]
  have hq : (((tab x).toNat : Int) == ((tab y).toNat : Int)) = ((x : Int) == (y : Int)) := by
    rw [Bool.eq_iff_iff, beq_iff_eq, beq_iff_eq]
    refine ⟨fun h => ?_, fun h => ?_⟩
    · have : tab x = tab y := BitVec.eq_of_toNat_eq (by omega)
      have := tab_inj hx1 hy1 this
      omega
    · have : x = y := by omega
      rw [this]
  generalize x ^^^ y = z at hxor hz1 hte
  have HXOR := Aside0.mk hxor
  have HTE := Aside0.mk hte
  have HQ := Aside0.mk hq
  clear hxor hte hq
  go_enter Try.func7, Try.ntmps7
  go_wp2_with (first | (go_at_call 9; refine (head_calls _).mono ?_; rintro e w1 ⟨rfl, hb1⟩; have HB1 := Aside0.mk hb1; clear hb1) | (go_at_call 10; refine (table_calls _).mono ?_; rintro e w2 ⟨rfl, hb2⟩; have hz := HZ.out) | (refine wpList_store_row rfl 23 _ _ rfl w2.heap.size (cellsOf tab) rfl rfl 23 zs0 (heap_alloc_new _ _) (by rw [info23, cellsOf_size]) (by rw [zs0, cellsOf_size, cellsOf_size]) (cellsOf_one tab) ?_))
  try simp only [Act.put]
  have hb3 : Below w.heap.size w ((w2.alloc (Obj.cells zs0 23)).setRow w2.heap.size (cellsOf tab)) := below_setRow ((below_tail HB1.out hb2).alloc (below_tail HB1.out hb2).size _) _ _ (below_tail HB1.out hb2).size
  have hrow : ((w2.alloc (Obj.cells zs0 23)).setRow w2.heap.size (cellsOf tab)).heap[w2.heap.size]? = some (.cells (cellsOf tab) 23 (0, 0)) := setRow_heap _ _ _ _ _ _ (heap_alloc_new _ _)
  have hsz : ((w2.alloc (Obj.cells zs0 23)).setRow w2.heap.size (cellsOf tab)).heap.size = w2.heap.size + 1 := by simp
  generalize (w2.alloc (Obj.cells zs0 23)).setRow w2.heap.size (cellsOf tab) = W at hb3 hrow hsz ⊢
  generalize w2.heap.size = B at hrow hsz ⊢
  have HH := Aside0.mk hrow
  have HB := Aside0.mk hb3
  have HS := Aside0.mk hsz
  clear hrow hsz hb2 hb3 HZ hz HB1
  have hx2 : (x : Int) < 256 := by omega
  have hy2 : (y : Int) < 256 := by omega
  have hz2 : (z : Int) < 256 := by omega
  apply wp_region_grow (hm := by kernel_rfl) (hB := by kernel_rfl)
  case h =>
    apply grow_fixed
    case hw => simp [Region.wanted, yielded]
    case ho =>
      intro w' hb hf
      clear hf
      refine ⟨?_⟩
      go_simp
      exact ⟨Ext.refl _ _, rfl⟩
    simp only [Act.put]
    apply grow_fixed
    case hw => simp [Region.wanted, yielded]
    case ho =>
      intro w' hb hf
      clear hf
      refine ⟨?_⟩
      go_simp
      exact ⟨Ext.refl _ _, rfl⟩
    simp only [Act.put]
    apply grow_fixed
    case hw => simp [Region.wanted, yielded]
    case ho =>
      intro w' hb hf
      clear hf
      refine ⟨?_⟩
      go_simp
      exact ⟨Ext.refl _ _, rfl⟩
    simp only [Act.put]
    apply grow_fixed
    case hw => simp [Region.wanted, yielded]
    case ho =>
      intro w' hb hf
      clear hf
      refine ⟨?_⟩
      go_simp
      exact ⟨Ext.refl _ _, rfl⟩
    simp only [Act.put]
    apply grow_fixed
    case hw => simp [Region.wanted, yielded]
    case ho =>
      intro w' hb hf
      clear hf
      have hcx := tabcell HH.out hb x hx1
      have hcy := tabcell HH.out hb y hy1
      have hcz := tabcell HH.out hb z hz1
      refine ⟨?_⟩
      go_simp
      exact ⟨Ext.refl _ _, rfl⟩
    simp only [Act.put]
    apply grow_fixed
    case hw => simp [Region.wanted, yielded]
    case ho =>
      intro w' hb hf
      clear hf
      refine ⟨?_⟩
      go_simp
      exact ⟨Ext.refl _ _, rfl⟩
    simp only [Act.put]
    apply grow_fixed
    case hw => simp [Region.wanted, yielded]
    case ho =>
      intro w' hb hf
      clear hf
      refine ⟨?_⟩
      go_simp
      exact ⟨Ext.refl _ _, rfl⟩
    simp only [Act.put]
    apply grow_fixed
    case hw => simp [Region.wanted, yielded]
    case ho =>
      intro w' hb hf
      clear hf
      have hcx := tabcell HH.out hb x hx1
      have hcy := tabcell HH.out hb y hy1
      have hcz := tabcell HH.out hb z hz1
      refine ⟨?_⟩
      go_simp
      exact ⟨Ext.refl _ _, rfl⟩
    simp only [Act.put]
    apply grow_fixed
    case hw => simp [Region.wanted, yielded]
    case ho =>
      intro w' hb hf
      clear hf
      have hq := HTE.out
      refine ⟨?_⟩
      go_simp
      exact ⟨Ext.refl _ _, rfl⟩
    simp only [Act.put]
    apply grow_fixed
    case hw => simp [Region.wanted, yielded]
    case ho =>
      intro w' hb hf
      clear hf
      refine ⟨?_⟩
      go_simp
      exact ⟨Ext.refl _ _, rfl⟩
    simp only [Act.put]
    apply grow_fixed
    case hw => simp [Region.wanted, yielded]
    case ho =>
      intro w' hb hf
      clear hf
      refine ⟨?_⟩
      go_simp
      exact ⟨Ext.refl _ _, rfl⟩
    simp only [Act.put]
    apply grow_fixed
    case hw => simp [Region.wanted, yielded]
    case ho =>
      intro w' hb hf
      clear hf
      have hq := HXOR.out
      refine ⟨?_⟩
      go_simp
      exact ⟨Ext.refl _ _, rfl⟩
    simp only [Act.put]
    apply grow_fixed
    case hw => simp [Region.wanted, yielded]
    case ho =>
      intro w' hb hf
      clear hf
      refine ⟨?_⟩
      go_simp
      exact ⟨Ext.refl _ _, rfl⟩
    simp only [Act.put]
    apply grow_fixed
    case hw => simp [Region.wanted, yielded]
    case ho =>
      intro w' hb hf
      clear hf
      have hcx := tabcell HH.out hb x hx1
      have hcy := tabcell HH.out hb y hy1
      have hcz := tabcell HH.out hb z hz1
      refine ⟨?_⟩
      go_simp
      exact ⟨Ext.refl _ _, rfl⟩
    simp only [Act.put]
    apply grow_fixed
    case hw => simp [Region.wanted, yielded]
    case ho =>
      intro w' hb hf
      clear hf
      refine ⟨?_⟩
      go_simp
      exact ⟨Ext.refl _ _, rfl⟩
    simp only [Act.put]
    apply grow_fixed
    case hw => simp [Region.wanted, yielded]
    case ho =>
      intro w' hb hf
      clear hf
      refine ⟨?_⟩
      go_simp
      exact ⟨Ext.refl _ _, rfl⟩
    simp only [Act.put]
    apply grow_fixed
    case hw => simp [Region.wanted, yielded]
    case ho =>
      intro w' hb hf
      clear hf
      refine ⟨?_⟩
      go_simp
      exact ⟨Ext.refl _ _, rfl⟩
    simp only [Act.put]
    apply grow_fixed
    case hw => simp [Region.wanted, yielded]
    case ho =>
      intro w' hb hf
      clear hf
      refine ⟨?_⟩
      go_simp
      exact ⟨Ext.refl _ _, rfl⟩
    simp only [Act.put]
    apply grow_fixed
    case hw => simp [Region.wanted, yielded]
    case ho =>
      intro w' hb hf
      clear hf
      refine ⟨?_⟩
      go_simp
      exact ⟨Ext.refl _ _, rfl⟩
    simp only [Act.put]
    apply grow_fixed
    case hw => simp [Region.wanted, yielded]
    case ho =>
      intro w' hb hf
      clear hf
      have hcx := tabcell HH.out hb x hx1
      have hcy := tabcell HH.out hb y hy1
      have hcz := tabcell HH.out hb z hz1
      refine ⟨?_⟩
      go_simp
      exact ⟨Ext.refl _ _, rfl⟩
    simp only [Act.put]
    apply grow_fixed
    case hw => simp [Region.wanted, yielded]
    case ho =>
      intro w' hb hf
      clear hf
      refine ⟨?_⟩
      go_simp
      exact ⟨Ext.refl _ _, rfl⟩
    simp only [Act.put]
    apply grow_fixed
    case hw => simp [Region.wanted, yielded]
    case ho =>
      intro w' hb hf
      clear hf
      refine ⟨?_⟩
      go_simp
      exact ⟨Ext.refl _ _, rfl⟩
    simp only [Act.put]
    apply grow_fixed
    case hw => simp [Region.wanted, yielded]
    case ho =>
      intro w' hb hf
      clear hf
      have hcx := tabcell HH.out hb x hx1
      have hcy := tabcell HH.out hb y hy1
      have hcz := tabcell HH.out hb z hz1
      refine ⟨?_⟩
      go_simp
      exact ⟨Ext.refl _ _, rfl⟩
    simp only [Act.put]
    apply grow_fixed
    case hw => simp [Region.wanted, yielded]
    case ho =>
      intro w' hb hf
      clear hf
      have hq := HQ.out
      refine ⟨?_⟩
      go_simp
      exact ⟨Ext.refl _ _, rfl⟩
    simp only [Act.put]
    apply grow_fixed
    case hw => simp [Region.wanted, yielded]
    case ho =>
      intro w' hb hf
      clear hf
      refine ⟨?_⟩
      go_simp
      exact ⟨Ext.refl _ _, rfl⟩
    simp only [Act.put]
    apply grow_fixed
    case hw => simp [Region.wanted, yielded]
    case ho =>
      intro w' hb hf
      clear hf
      refine ⟨?_⟩
      go_simp
      exact ⟨Ext.refl _ _, rfl⟩
    simp only [Act.put]
    apply grow_fixed
    case hw => simp [Region.wanted, yielded]
    case ho =>
      intro w' hb hf
      clear hf
      refine ⟨?_⟩
      go_simp
      exact ⟨Ext.refl _ _, rfl⟩
    simp only [Act.put]
    apply grow_fixed
    case hw => simp [Region.wanted, yielded]
    case ho =>
      intro w' hb hf
      clear hf
      refine ⟨?_⟩
      go_simp
      exact ⟨Ext.refl _ _, rfl⟩
    simp only [Act.put]
    apply grow_fixed
    case hw => simp [Region.wanted, yielded]
    case ho =>
      intro w' hb hf
      clear hf
      refine ⟨?_⟩
      go_simp
      exact ⟨Ext.refl _ _, rfl⟩
    simp only [Act.put]
    apply grow_fixed
    case hw => simp [Region.wanted, yielded]
    case ho =>
      intro w' hb hf
      clear hf
      refine ⟨?_⟩
      go_simp
      exact ⟨Ext.refl _ _, rfl⟩
    simp only [Act.put]
    refine grow_nil (fun w' hb hf => ?_)
    clear hf
    go_wp2
    go_ret
    refine ⟨?_, below_tail HB.out hb⟩
    simp
  case hsp => exact trivial

set_option maxRecDepth 100000 in
theorem lifted (os : Os) (started : os.Started) (H : Type) (enc : TypeId × Value → H) :
    ReturnsInHanded {} Try.checked os 7 .any (Rows.sumTableSpec.pre6 enc Try.prog Try.f7 Rows.sumTableRow.domain false) (Rows.sumTableSpec.post enc Try.prog Try.f7 false true false false) := by
  refine returnsInHanded_of_change_sized (C := Try.checked) own started (by kernel_rfl) Try.func7
    (ChangeSpec.witness6 (enc := enc) (C := Try.checked) false ⟨#[], #[.int .u8 0, .int .u8 0], []⟩ 8 (by kernel_rfl) (by kernel_rfl) (by kernel_rfl) (by kernel_rfl)) ?_
  intro W base args ds gs before hval0 hW hcnd hsz0 _
  have hval : ∀ (j : Nat) t v, Try.f7.params[j]? = some t → args[j]? = some v → Value.okWide Try.prog W .any base t v := hval0
  have hW' := hW
  obtain ⟨p, q, hA0, hV, rfl, hfz, hnd⟩ := hW
  have hA : DataW.TrodAll enc Try.prog W 0 (fun _ => true) true Try.f7.params.toList args.toList ds p := hA0
  have hsz : (DataW.weightsEach Try.prog (Try.f7.params.toList ++ Rows.sumTableSpec.plain.varTypes Try.prog) (ds ++ gs)).all (· ≤ reachBytes) = true := hsz0
  rw [Try.params7] at hA hval hsz
  obtain ⟨v0, vs0, d0, ds0, p0, q0, hargs, rfl, rfl, h0, r0⟩ := trodAll_cons hA
  obtain ⟨v1, vs1, d1, ds1, p1, q1, rfl, rfl, rfl, h1, r1⟩ := trodAll_cons r0
  obtain ⟨rfl, rfl, rfl⟩ := trodAll_nil r1
  obtain rfl : args = #[v0, v1] := by cases args; simp_all
  obtain ⟨rfl, rfl⟩ := trodVars_none hV
  have k0 := h0
  have lt0 : ∀ x ∈ p0, x.block < W.heap.size := by obtain ⟨m, hm⟩ := k0; exact DataW.trod_lt m _ _ _ hm
  obtain ⟨a0, rfl, hd0, hp0, w0⟩ := open_int Try.underlying5 (hval 0 5 v0 rfl rfl) h0
  have k1 := h1
  have lt1 : ∀ x ∈ p1, x.block < W.heap.size := by obtain ⟨m, hm⟩ := k1; exact DataW.trod_lt m _ _ _ hm
  obtain ⟨a1, rfl, hd1, hp1, w1⟩ := open_int Try.underlying5 (hval 1 5 v1 rfl rfl) h1
  clear hA0 hval0 hsz0
  refine (walk a0 a1 W w0 w1).mono fun e W' ⟨he, bel⟩ => ?_
  subst he
  exact ⟨_, rfl, _, _, _, [], _, [], hW', trodAll_mk1 (shut_bool Try.underlying4 _), (trodAll_cons_mk (Below.trod laidOut (by kernel_rfl) (of_decide_eq_true (by kernel_rfl)) k0 bel lt0) (trodAll_cons_mk (Below.trod laidOut (by kernel_rfl) (of_decide_eq_true (by kernel_rfl)) k1 bel lt1) trodAll_mk0)), rfl, bel.frame _, fun h => by cases h⟩

theorem over : Rows.sumTableRow.holds Try.pinned (OpenSpec.ofChange Rows.sumTableSpec) :=
  OpenClaim.holds_of_wide 7 Try.f7 rfl rfl rfl rfl rfl rfl rfl ⟨rfl, rfl, rfl, rfl, rfl⟩ rfl rfl rfl rfl rfl (by kernel_rfl) Try.func7 (by kernel_rfl)
    (of_decide_eq_true (by kernel_rfl)) (by unfold Func.isWrapper; first | (rw [if_pos (by decide +kernel)]; kernel_rfl) | (rw [if_neg (by decide +kernel)]; exact ⟨rfl, rfl⟩))
    (fun os started H enc _ => lifted os started H enc)

theorem proved : Rows.SumTableSaid := over
#print axioms proved
end Go.Proofs.Ytnbjmhlijepkfaa.sumTable
