/-
  Layer 13: the document's Del.
-/
import Derived.Test.YtomlnflblecpbaaRTell
namespace Go.Proofs.Ytomlnflblecpbaa
set_option linter.unusedVariables false
set_option linter.unusedSimpArgs false
open Go.RowKit Go.Proofs.YtomlnflblecpbaaW.PrintWords Go.Proofs.YtomlnflblecpbaaW.PrintMore
attribute [local go_sem] max2_int min2_int
def RPost (W : World) (O : Nat → Prop) (g : Nat) (m : List Pl) (r : Value) (e : Ending) (w' : World) : Prop :=
  e = .returned r ∧ ∃ O', RD w' O' g m ∧ KeepS (fun k => k = g) W w' ∧ ∀ k, O' k → O k ∨ W.heap.size ≤ k
theorem rd_post {W w4 : World} {O : Nat → Prop} {g : Nat} {m m' : List Pl} {v v' : Value} {q B : Nat} (r : Value) (vals : List Value) (h : RDB W O g m v) (hg : Grows W w4) (hB : W.heap.size ≤ B) (hrow : w4.ownsRow B 32 5 v' m'.length (flatP m')) (hq1 : W.heap.size ≤ q) (hq2 : q < B) :
    RPost W O g m' r (.returned r) (World.setCells (w4.setCell ⟨g, 0, none⟩ v') q 0 vals) := by
  have hgl := h.lt
  have hblk := (hg.block g hgl).trans h.blk
  have hb2 := heap_spl g [v'] 0 w4 _ hblk
  have hvb : ∀ k, v'.ownBlock = some k → B ≤ k := own_ge hrow
  refine ⟨rfl, fun k => k = g ∨ v'.ownBlock = some k, ⟨v', ⟨?_, ?_, fun k hk => .inr hk, .inl rfl⟩⟩, ?_, fun k hk => ?_⟩
  · exact (heap_spl_ne q vals 0 _ g (by omega)).trans hb2
  · refine own_move (own_mono hrow (Nat.zero_le _)) fun k hk => ?_
    have := hvb k hk
    exact (heap_spl_ne q vals 0 _ k (by omega)).trans (Below.heap_setCell _ ⟨g, 0, none⟩ _ k (by show k ≠ g; omega))
  · have h1 : KeepS (fun k => k = g ∨ W.heap.size ≤ k) W (World.setCells (w4.setCell ⟨g, 0, none⟩ v') q 0 vals) :=
      ((KeepS.of_grows hg).trans (KeepS.of_grown (grown_set _ g _ _) fun j e => by injection e with e; subst e; exact .inl rfl)).trans (KeepS.of_grown (grown_spl q _ 0 _) fun j e => by injection e with e; subst e; exact .inr hq1)
    exact h1.mono fun k hk h => h.elim id fun h => by omega
  · rcases hk with rfl | hk
    · exact .inl h.og
    · exact .inr (Nat.le_trans hB (hvb k hk))
set_option maxRecDepth 100000 in
set_option maxHeartbeats 4000000 in
theorem rdel_calls {W : World} {O : Nat → Prop} {g : Nat} {m : List Pl} (h : RD W O g m) (key : ByteArray) (hm : m.length ≤ 100000) :
    Calls Try.prog 14 #[.pointer (some ⟨g, 0, none⟩), .string key] W (RPost W O g (delM m key) (.tuple #[.agg ((getM m key).getD zeroPl).cells, .bool (getM m key).isSome])) := by
  obtain ⟨v, h⟩ := h
  have g0 : Grows W (W.alloc (.cells zeroPl.cells 32)) := (Below.refl W.heap.size W).alloc (Nat.le_refl _) _
  have HB := Aside0.mk h
  have HG := Aside0.mk g0
  have HQ := Aside0.mk (PBox.new W zeroPl)
  have HC := Aside0.mk (rget_calls (⟨v, h.grows g0⟩ : RD _ O g m) key (by omega))
  clear h g0
  go_enter Try.func14, Try.ntmps14
  go_upto_region 1 with fail
  change Code.wp _ _ _ _ (W.alloc (.cells zeroPl.cells 32))
  generalize W.alloc (.cells zeroPl.cells 32) = W1 at *
  have HQS := Aside0.mk (lt_heap HQ.out.blk)
  generalize hq : W.heap.size = q at HQ HQS ⊢
  have HE1 := Aside0.mk hq
  clear hq
  obtain ⟨b1, hb1⟩ : ∃ b1, (getM m key).isSome = b1 := ⟨_, rfl⟩
  obtain ⟨p1, hp1⟩ : ∃ p1, (getM m key).getD zeroPl = p1 := ⟨_, rfl⟩
  rw [hb1, hp1] at HC
  have H1 := Aside0.mk hb1
  have H2 := Aside0.mk hp1
  clear hb1 hp1
  obtain ⟨a1, a2, a3, a4, a5⟩ := p1
  dsimp only [Pl.cells] at HC
  go_upto_region 2 with (go_at_call 16; refine HC.out.mono ?_; clear HC; rintro e w2 ⟨rfl, hg⟩; have HG2 := Aside0.mk hg; clear hg)
  change Code.wp _ _ _ _ (w2.alloc (.cells (Pl.cells ⟨a1, a2, a3, a4, a5⟩) 32))
  have g3 : Grows w2 (w2.alloc (.cells (Pl.cells ⟨a1, a2, a3, a4, a5⟩) 32)) := (Below.refl w2.heap.size w2).alloc (Nat.le_refl _) _
  have HG3 := Aside0.mk (show Grows W (w2.alloc (.cells (Pl.cells ⟨a1, a2, a3, a4, a5⟩) 32)) from (HG.out.trans (HG2.out.mono HG.out.size)).trans (g3.mono (Nat.le_trans HG.out.size HG2.out.size)))
  have HQ3 := Aside0.mk ((HQ.out.grows HG2.out).grows g3)
  have HP3 := Aside0.mk (PBox.new w2 ⟨a1, a2, a3, a4, a5⟩)
  have HQ8 := Aside0.mk (show q < w2.heap.size from lt_heap (HQ.out.grows HG2.out).blk)
  clear g3 HQ HG HG2
  generalize w2.alloc (.cells (Pl.cells ⟨a1, a2, a3, a4, a5⟩) 32) = w3 at *
  generalize w2.heap.size = q8 at HP3 HQ8 ⊢
  have HB3 := Aside0.mk (HB.out.grows HG3.out)
  obtain ⟨A, c, ev, hc, hr⟩ := reads_of_own HB3.out.row
  subst ev
  have hcell := HB3.out.c0
  have HD := Aside0.mk (without_calls (c := c) hr key hm)
  have HQ83 := Aside0.mk (show q8 < w3.heap.size from lt_heap HP3.out.blk)
  clear hr
  go_upto_region 3 with (go_at_call 29; refine HD.out.mono ?_; clear HD; rintro e w4 ⟨v4, rfl, ho, hg⟩; obtain ⟨A4, c4, rfl, hc4⟩ := own_slice ho; have HO4 := Aside0.mk ho; have HG4 := Aside0.mk hg; have q1 := (HB3.out.grows hg).c0; have q2 := (HB3.out.grows hg).fr 0; clear ho hg)
  have HQ4 := Aside0.mk ((HQ3.out.grows HG4.out).keep (Below.heap_setCell w4 ⟨g, 0, none⟩ (.slice A4 (delM m key).length c4) q (fun e => by have := HB.out.lt; have := HE1.out; have e2 : q = g := e; omega)))
  have HP4 := Aside0.mk ((HP3.out.grows HG4.out).keep (Below.heap_setCell w4 ⟨g, 0, none⟩ (.slice A4 (delM m key).length c4) q8 (fun e => by have := HB.out.lt; have := HE1.out; have := HQ8.out; have e2 : q8 = g := e; omega)))
  have HFIN := Aside0.mk (rd_post (m' := delM m key) (q := q) (.tuple #[.agg ((getM m key).getD zeroPl).cells, .bool (getM m key).isSome]) (Pl.vals ⟨a1, a2, a3, a4, a5⟩) HB.out (HG3.out.trans (HG4.out.mono HG3.out.size)) HG3.out.size HO4.out (by rw [HE1.out]; exact Nat.le_refl _) (by have := HQ8.out; have := HQ83.out; omega))
  rw [H1.out, H2.out] at HFIN
  have e0 := HP4.out.c0; have e1 := HP4.out.c1; have e2 := HP4.out.c2; have e3 := HP4.out.c3; have e4 := HP4.out.c4
  dsimp only at e0 e1 e2 e3 e4
  have d0 := HQ4.out.c0; have d1 := HQ4.out.c1; have d2 := HQ4.out.c2; have d3 := HQ4.out.c3; have d4 := HQ4.out.c4
  have f0 := HQ4.out.fr 0; have f1' := HQ4.out.fr 1; have f2 := HQ4.out.fr 2; have f3 := HQ4.out.fr 3; have f4 := HQ4.out.fr 4
  clear q1 q2 hcell
  go_wp2
  exact bodyPost_ret (results_box_tmp (fn := Try.f14) (p := 4) (u := 5) rfl _ _ q (⟨a1, a2, a3, a4, a5⟩ : Pl) rfl (HQ4.out.set (⟨a1, a2, a3, a4, a5⟩ : Pl))) rfl (by rw [H1.out, H2.out]; exact HFIN.out)
end Go.Proofs.Ytomlnflblecpbaa
