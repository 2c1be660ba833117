/-
  The cutter's Write.
-/
import Derived.Test.YtoaokmlpeijepaaIter
import Derived.RangeFuncLeaves
import Derived.RangeFuncBox
import Derived.RangeFuncBound
import Derived.Shelf.Abstract
namespace Go.Proofs.Ytoaokmlpeijepaa
set_option linter.unusedVariables false
set_option linter.unusedSimpArgs false
open Go.RowKit Go.Shelf Go.Proofs.YtoaokmlpeijepaaW.PrintWords
attribute [local go_sem] Oper.semAt_some

theorem reads_set {W : World} {g i : Nat} {u x : Value} {A : Option Addr} {m : Nat} {b : List Int} (h : ReadsInt W .u8 A m b) (hx : W.cell? ⟨g, i, none⟩ = some x) (hne : ∀ z, x ≠ .int .u8 z) : ReadsInt (W.setCell ⟨g, i, none⟩ u) .u8 A m b := by
  refine ⟨h.1, h.2.1, fun hm => ?_⟩
  obtain ⟨ad, e, hc⟩ := h.2.2 hm
  refine ⟨ad, e, fun j hj => ?_⟩
  rw [World.cell?_setCell_other]
  · exact hc j hj
  · intro e2
    have := hc j hj
    rw [← e2, hx] at this
    exact hne _ (Option.some.inj this)
theorem grown_trans {A B C : World} {r : Option Nat} (h : A.grownBy B r) (k : B.grownBy C r) : A.grownBy C r :=
  ⟨k.os.trans h.os, k.tape.trans h.tape, k.output.trans h.output, Nat.le_trans h.size k.size, fun i hi hne => (k.block i (Nat.lt_of_lt_of_le hi h.size) hne).trans (h.block i hi hne)⟩
theorem frozen_far {W w5 : World} {B5 : Nat} {o : Obj} {cs : Array Value} {row : Option Nat} (hg : (W.alloc o).grownBy w5 row) (hne : some B5 ≠ row) (hx : W.heap[B5]? = some (.cells cs 33 (0, 0))) : w5.frozen? ⟨B5, 0, none⟩ = false := by
  have h := hg.block B5 (by rw [World.size_alloc]; have := lt_heap hx; omega) hne
  rw [Below.heap_alloc _ _ _ (lt_heap hx), hx] at h
  simp [World.frozen?, h]
theorem info29 : (Try.prog.info? 29).map (fun i => (i.zero, i.size, i.bytes)) = some (some (.slice none 0 0), 1, 24) := by kernel_rfl
def hdr (each : Nat) (x : Nat × Nat) : Value := .slice (some ⟨x.1, 0, none⟩) each x.2

theorem own_from {W : World} {B B0 e sz n c m : Nat} {A : Option Addr} {xs : List Value} (h : W.ownsRow B e sz (.slice A n c) m xs) (hB : B0 ≤ B) : From B0 A := by
  intro ad e1
  subst e1
  rcases h.2 with ⟨e, _⟩ | ⟨g, cap, cur, e, h1, _⟩
  · cases e
  · injection e with e
    injection e with e
    subst e
    exact Nat.le_trans hB h1
set_option maxRecDepth 100000 in
set_option maxHeartbeats 4000000 in
theorem write_calls (g each : Nat) (all : Int) (A : Option Addr) (c : Nat) (L : List Int) (Ab : Option Addr) (m cb : Nat) (b : List Int) (w : World) (hc : CutAt w g each all A c L) (hb : ReadsInt w .u8 Ab m b) (he : 1 ≤ each) (he2 : each ≤ 4096)
    (hl : (L.length + m) * 24 ≤ 140737488355328) (ha0 : 0 ≤ all) (ha1 : all ≤ 4611686018427387904) :
    Calls Try.prog 14 #[.pointer (some ⟨g, 0, none⟩), .slice Ab m cb] w fun e W' => ∃ v xs, e = .returned v ∧ W'.ownsRow w.heap.size 29 1 v xs.length (xs.map (hdr each)) ∧ Out W' g w.heap.size each (all + m) (L ++ b) xs ∧ (L ++ b).length < each * (xs.length + 1) ∧ w.grownBy W' (some g) := by
  refine (callsIn_wide (n := 5)).1 ?_
  have hgl := hc.lt
  have k1 := hc.c1
  have k2 := hc.c2
  have f1 := hc.fr 1
  have f2 := hc.fr 2
  have hwr : wrap64 (all + (m : Int)) = all + (m : Int) := IntWalk.wrap64_in _ ⟨by omega, by omega⟩
  have HGa := Aside0.mk (grown_set w g 1 (.int .i64 (all + (m : Int))))
  have HCa := Aside0.mk (hc.setAll (all + (m : Int)))
  have HBa := Aside0.mk (reads_set (u := .int .i64 (all + (m : Int))) hb hc.c1 (fun z h => by cases h))
  have HMB := Aside0.mk hb.1
  have HL := Aside0.mk hl
  have H21 := Aside0.mk (concat_calls w.heap.size A L.length c Ab m cb L b ((w.setCell ⟨g, 1, none⟩ (.int .i64 (all + (m : Int)))).alloc (.cells #[.slice A L.length c, .slice Ab m cb] 29))
    (by have := heap_alloc_new (w.setCell ⟨g, 1, none⟩ (.int .i64 (all + (m : Int)))) (.cells #[.slice A L.length c, .slice Ab m cb] 29); rw [World.size_setCell] at this; exact this)
    ((HCa.out.left.reads (by omega)).below (below_alloc (Below.refl _ _) _)) (HBa.out.below (below_alloc (Below.refl _ _) _)) (by omega))
  generalize hM : L ++ b = M at H21 ⊢
  have HML := Aside0.mk (show M.length = L.length + m by rw [← hM, List.length_append, HMB.out])
  have HM := Aside0.mk hM
  clear hM
  have HCl := Aside0.mk (HCa.out.below (below_alloc (Below.refl _ _) (.cells #[.slice A L.length c, .slice Ab m cb] 29)))
  clear hc hb
  have hro : Fence.wide.round = none := rfl
  refine callsIn_of_wp_marks Try.func14 rfl trivial ?_ hro
  simp only [Try.ntmps14, List.size_toArray, List.length_cons, List.length_nil, Nat.reduceAdd, Nat.reduceSub, Array.replicate_succ, Array.replicate_zero, List.push_toArray, List.append_toArray, List.nil_append, List.cons_append]
  gi_wp2_with (first
    | (refine ⟨trivial, ?_⟩; gi_at_call 21; refine (callsIn_wide.2 H21.out).mono ?_; rintro e w2 ⟨v, rfl, hown, hb2⟩
       obtain ⟨A2, c2, rfl, -⟩ := own_reads hown
       have HC2 := Aside0.mk (HCl.out.below hb2)
       have q2 := HC2.out.c2
       have r2 := HC2.out.fr 2
       have hle2 := own_le hown
       have HL2 := Aside0.mk (Left.of_own hown).2
       have HFA2 := Aside0.mk (own_from hown (show w.heap.size ≤ _ by rw [World.size_alloc, World.size_setCell]; omega))
       have HB2 := Aside0.mk hb2
       clear hown hb2)
    | (refine ⟨trivial, ?_⟩; gi_at_call 22; refine (full_in Fence.wide _ trivial rfl g _).mono ?_; rintro e w3 ⟨rfl, rfl⟩))
  clear H21 HCa HBa HCl k1 k2 f1 f2 q2 r2
  have hw2 : w.heap.size + 1 ≤ w2.heap.size := by
    have := HB2.out.size
    rw [World.size_alloc, World.size_setCell] at this
    exact this
  have HG2 := Aside0.mk (show w.grownBy w2 (some g) from grown_trans HGa.out (grown_trans (World.grownBy_alloc _ _ _) (grown_of_below HB2.out (some g))))
  have HC3 := Aside0.mk (HC2.out.setLeft HL2.out hle2)
  have HG3 := Aside0.mk (grown_trans HG2.out (grown_set w2 g 2 (.slice A2 M.length c2)))
  have hsz3 : (w2.setCell ⟨g, 2, none⟩ (.slice A2 M.length c2)).heap.size = w2.heap.size := World.size_setCell _ _ _
  clear HG2 HC2 HB2 HL2 HGa
  generalize w2.setCell ⟨g, 2, none⟩ (.slice A2 M.length c2) = w3 at HC3 HG3 hsz3 ⊢
  generalize w2.heap.size = B5 at hw2 hsz3 ⊢
  have hn4 : (w3.alloc (.cells #[.slice none 0 0] 33)).heap.size = B5 + 1 := by rw [World.size_alloc, hsz3]
  have hn5 : ((w3.alloc (.cells #[.slice none 0 0] 33)).alloc (.cells #[.pointer (some ⟨g, 0, none⟩)] 25)).heap.size = B5 + 2 := by rw [World.size_alloc, hn4]
  have HC5 := Aside0.mk ((HC3.out.below (below_alloc (Below.refl _ _) (.cells #[.slice none 0 0] 33))).below (below_alloc (Below.refl _ _) (.cells #[.pointer (some ⟨g, 0, none⟩)] 25)))
  have HG5 := Aside0.mk (grown_trans HG3.out (grown_trans (World.grownBy_alloc w3 (.cells #[.slice none 0 0] 33) (some g)) (World.grownBy_alloc _ (.cells #[.pointer (some ⟨g, 0, none⟩)] 25) (some g))))
  have HX5 := Aside0.mk (show ((w3.alloc (.cells #[.slice none 0 0] 33)).alloc (.cells #[.pointer (some ⟨g, 0, none⟩)] 25)).heap[B5]? = some (.cells #[.slice none 0 0] 33 (0, 0)) from by
    rw [Below.heap_alloc _ _ _ (by rw [hn4]; omega)]
    have := heap_alloc_new w3 (.cells #[.slice none 0 0] 33)
    rwa [hsz3] at this)
  have HY5 := Aside0.mk (show ((w3.alloc (.cells #[.slice none 0 0] 33)).alloc (.cells #[.pointer (some ⟨g, 0, none⟩)] 25)).heap[B5 + 1]? = some (.cells #[.pointer (some ⟨g, 0, none⟩)] 25 (0, 0)) from by
    have := heap_alloc_new (w3.alloc (.cells #[.slice none 0 0] 33)) (.cells #[.pointer (some ⟨g, 0, none⟩)] 25)
    rwa [hn4] at this)
  generalize (w3.alloc (.cells #[.slice none 0 0] 33)).alloc (.cells #[.pointer (some ⟨g, 0, none⟩)] 25) = W0 at HC5 HG5 HX5 HY5 hn5 ⊢
  clear HC3 HG3 hsz3 hn4
  have HPB := Aside0.mk (show M.length * 24 ≤ 140737488355328 by have := HML.out; have := HL.out; omega)
  have HMM := Aside0.mk (show M.length ≤ 140737488355328 by have := HML.out; have := HL.out; omega)
  obtain ⟨i0, hi0, hi1, hi2, hi3⟩ := parts3 info29
  have HI0 := Aside0.mk hi0
  have HI1 := Aside0.mk hi1
  have HI2 := Aside0.mk hi2
  have HI3 := Aside0.mk hi3
  clear hi0 hi1 hi2 hi3
  refine range_writes (α := Nat × Nat) hro (by omega) (gf := 24) (lb := #[.pointer (some ⟨B5 + 1, 0, none⟩)]) rfl trivial (enters_of Try.func24 (by kernel_rfl) rfl) (gc := g) (by omega) (encs := enc1 each) (fun _ => rfl) (Fx := fun _ _ => True) (Kp := TypeKept) (N := M.length)
    (S := fun xs W => Out W g w.heap.size each (all + (m : Int)) M xs ∧ M.length < each * (xs.length + 1))
    (fun l J W hW hJ hY hJ0 => full1_in 4 (by omega) l (B5 + 1) g w.heap.size each (all + (m : Int)) M he he2 HMM.out J hJ (fun pre x W1 h hN => hY pre x W1 h trivial hN) W ((hW.block (B5 + 1) (by omega)).trans HY5.out) A2 c2 (HC5.out.below hW) HFA2.out (by have := hW.size; omega) hJ0)
    TypeKept.trans TypeKept.put (fun _ _ _ _ _ _ _ _ => trivial) (fun xs W l o o' h hl ho => ⟨h.1.kept (TypeKept.put W l o o' hl ho), h.2⟩)
    (fun pre W => ∃ v, W.heap[B5]? = some (Obj.cells #[v] 33 (0, 0)) ∧ W.ownsRow (B5 + 2) 29 1 v pre.length (pre.map (hdr each)) ∧ w.grownBy W (some g) ∧ B5 + 2 ≤ W.heap.size)
    ?stable ⟨_, HX5.out, own_nil _ _ _ _, HG5.out, by omega⟩
    (fun x => { tmps := #[.pointer (some ⟨g, 0, none⟩), .slice Ab m cb, undef, undef, .slice none 0 0, .pointer (some ⟨B5, 0, none⟩), hdr each x, .pointer (some ⟨g, 0, none⟩), .pointer (some ⟨g, 0, none⟩), .pointer (some ⟨g, 1, none⟩), .int .i64 all, .slice Ab m cb, .int .i64 (m : Int), .int .i64 (all + (m : Int)), .pointer (some ⟨g, 0, none⟩), .pointer (some ⟨g, 1, none⟩), .pointer (some ⟨g, 0, none⟩), .pointer (some ⟨g, 0, none⟩), .pointer (some ⟨g, 0, none⟩), .pointer (some ⟨g, 2, none⟩), .slice A L.length c, .slice Ab m cb, .slice (some ⟨w.heap.size, 0, none⟩) 2 2, .slice A2 M.length c2, .pointer (some ⟨g, 0, none⟩), .pointer (some ⟨g, 2, none⟩), .pointer (some ⟨g, 0, none⟩), .func (.func 24) #[] #[.pointer (some ⟨B5 + 1, 0, none⟩)], hdr each x, undef, undef, undef, undef, undef], defers := [] })
    ?assign ?body ?done
  case stable =>
    rintro pre X Y row ⟨v, hx, ho, hg, hz⟩ hgr hrow
    have hB5 : row ≠ some B5 := fun e => by
      rcases hrow B5 e with h | ⟨_, o, h, hn⟩
      · omega
      · rw [hx] at h; cases h; cases hn
    refine ⟨v, (hgr.block B5 (lt_heap hx) (fun e => hB5 e.symm)).trans hx, ho.kept hgr ?_, ?_, Nat.le_trans hz hgr.size⟩
    · cases hv : v.ownBlock with
      | none => exact .inl rfl
      | some k =>
        right
        intro e
        obtain ⟨cs, hcs⟩ := own_typed ho k hv
        rcases hrow k e.symm with h | ⟨_, o, h, hn⟩
        · have := (ho.lt k hv).1; omega
        · rw [hcs] at h; cases h; cases hn
    · refine ⟨hgr.os.trans hg.os, hgr.tape.trans hg.tape, hgr.output.trans hg.output, Nat.le_trans hg.size hgr.size, fun k hk hne => (hgr.block k (Nat.lt_of_lt_of_le hk hg.size) (fun e => ?_)).trans (hg.block k hk hne)⟩
      rcases hrow k e.symm with h | ⟨h, _⟩
      · exact hne (by rw [h])
      · omega
  case assign =>
    intro l x W K hK
    unfold enc1
    gi_wp2
    exact hK
  case body =>
    rintro l pre x W ⟨v, hx, ho, hg, hz⟩ _ hN
    have x1 := cell_of_row W B5 0 _ 33 (0, 0) hx
    have x2 : W.frozen? ⟨B5, 0, none⟩ = false := by simp [World.frozen?, hx]
    have HX := Aside0.mk hx
    have HO := Aside0.mk ho
    have HG := Aside0.mk hg
    have hhd : ((.slice (some ⟨x.1, 0, none⟩) each x.2 : Value)).oneCell' = true := rfl
    have HNW := Aside0.mk (show ∀ j u, [(.slice (some ⟨x.1, 0, none⟩) each x.2 : Value)][j]? = some u → (W.alloc (.cells #[(.slice (some ⟨x.1, 0, none⟩) each x.2 : Value)] 29)).cell? ((⟨W.heap.size, 0, none⟩ : Addr).add j) = some u from World.news_of_block (cs := #[(.slice (some ⟨x.1, 0, none⟩) each x.2 : Value)]) (t := 29) (fr := (0, 0)) (heap_alloc_new W _))
    have HLB := Aside0.mk (show pre.length + 1 ≤ maxLen by have := HMM.out; simp only [maxLen]; omega)
    have HLB2 := Aside0.mk (show (pre.length + 1) * 24 ≤ 140737488355328 by have := HPB.out; omega)
    have HOA := Aside0.mk (ho.alloc (.cells #[(.slice (some ⟨x.1, 0, none⟩) each x.2 : Value)] 29))
    clear hx ho hg
    simp only [hdr]
    gi_wp2_with (gi_at_builtin; (refine wpListIn_append_own _ rfl _ _ 33 rfl (B5 + 2) 29 i0 (.slice none 0 0) 1 24 Try.underlying33 HI0.out HI1.out HI2.out HI3.out rfl (by decide) v _ _ rfl HOA.out ⟨W.heap.size, 0, none⟩ 1 1 [(.slice (some ⟨x.1, 0, none⟩) each x.2 : Value)] rfl rfl HNW.out (by intro u hu; rw [List.mem_singleton] at hu; rw [hu]; exact hhd) HLB.out HLB2.out (by rw [World.size_alloc]; omega) ?_; intro v' w5 hown' hgrow _; obtain ⟨g', cap', rfl⟩ := ownsRow_succ hown'; have HO5 := Aside0.mk hown'; have HG6 := Aside0.mk hgrow; have y1 := (hgrow.cell (a := ⟨B5, 0, none⟩) (by rw [World.cell?_alloc_lt _ _ _ (lt_heap HX.out)]; exact x1) (fun e => by have := (HO.out.lt B5 e.symm).1; omega)); have y2 := frozen_far HG6.out (show some B5 ≠ v.ownBlock from fun e => by have := (HO.out.lt B5 e.symm).1; omega) HX.out; clear hown' hgrow))
    have hBW : B5 < W.heap.size := lt_heap HX.out
    have hB5o : some B5 ≠ v.ownBlock := fun e => by have := (HO.out.lt B5 e.symm).1; omega
    have HX5' : w5.heap[B5]? = some (Obj.cells #[v] 33 (0, 0)) := by
      have h := HG6.out.block B5 (by rw [World.size_alloc]; omega) hB5o
      rw [Below.heap_alloc _ _ _ (lt_heap HX.out)] at h
      exact h.trans HX.out
    have hsame : ∀ (k : Nat) (o : Obj), W.heap[k]? = some o → some k ≠ v.ownBlock → k ≠ B5 → (w5.setCell ⟨B5, 0, none⟩ (.slice (some ⟨g', 0, none⟩) (pre.length + 1) cap')).heap[k]? = some o := fun k o hk h1 h2 => by
      rw [Below.heap_setCell _ _ _ _ h2, HG6.out.block k (by rw [World.size_alloc]; have := lt_heap hk; omega) h1, Below.heap_alloc _ _ _ (lt_heap hk)]
      exact hk
    have hown29 : ∀ k, v.ownBlock = some k → ∃ cs, W.heap[k]? = some (Obj.cells cs 29 (0, 0)) := fun k hk => own_typed HO.out k hk
    have hsz5 : W.heap.size ≤ (w5.setCell ⟨B5, 0, none⟩ (.slice (some ⟨g', 0, none⟩) (pre.length + 1) cap')).heap.size := by
      rw [World.size_setCell]
      have := HG6.out.size
      rw [World.size_alloc] at this
      omega
    refine ⟨⟨hsz5, fun k o hB hk ho => hsame k o hk (fun e => ?_) (by omega)⟩, ⟨hsz5, fun k cs t fr hk ht => hsame k _ hk (fun e => ?_) (fun e => ?_)⟩, _, blk_set HX5' 0 _, ?_, ⟨HG6.out.os.trans HG.out.os, HG6.out.tape.trans HG.out.tape, HG6.out.output.trans HG.out.output, Nat.le_trans HG.out.size hsz5, fun k hk hne => ?_⟩, by omega⟩
    · obtain ⟨cs, hcs⟩ := hown29 k e.symm
      rw [hcs] at hk; cases hk; cases ho
    · obtain ⟨cs2, hcs⟩ := hown29 k e.symm
      rw [hcs] at hk; cases hk
      rcases ht with h | h | h <;> cases h
    · subst e
      rw [HX.out] at hk; cases hk
      rcases ht with h | h | h <;> cases h
    · have hne : some B5 ≠ (Value.slice (some ⟨g', 0, none⟩) (pre.length + 1) cap').ownBlock := fun e => by
        have := (HO5.out.lt B5 e.symm).1
        omega
      have := own_setCell (p := ⟨B5, 0, none⟩) HO5.out hne (.slice (some ⟨g', 0, none⟩) (pre.length + 1) cap')
      rw [List.length_append, List.length_singleton, List.map_append]
      exact this
    · have hk2 : k < W.heap.size := Nat.lt_of_lt_of_le hk HG.out.size
      have h0 := HG.out.block k hk hne
      have h1 : W.heap[k]? = some W.heap[k] := Array.getElem?_eq_getElem hk2
      rw [hsame k _ h1 (fun e => by have := (HO.out.lt k e.symm).1; omega) (by omega), ← h1]
      exact h0
  case done =>
    rintro D xs W hD ⟨hout, hlt⟩ ⟨v, hx, ho, hg, hz⟩ hdef
    have x1 := cell_of_row W B5 0 _ 33 (0, 0) hx
    have HOUT := Aside0.mk hout
    have HLT := Aside0.mk hlt
    have HO := Aside0.mk ho
    have HG := Aside0.mk hg
    have HD := Aside0.mk hdef
    clear hout hlt ho hg hx
    gi_wp2
    refine ⟨by simp, .inl ⟨_, _, rfl, run_takeDeferred HD.out, ?_⟩⟩
    refine ⟨_, results_tmp rfl _ _ _, v, xs, rfl, ?_, HOUT.out.kept (TypeKept.put W D _ _ HD.out rfl), HLT.out, ?_⟩
    · have hk := HO.out.kept (grownBy_putObj' W D (.deferred none)) (by
        cases hv : v.ownBlock with
        | none => exact .inl rfl
        | some k =>
          right
          intro e
          obtain ⟨cs, hcs⟩ := own_typed HO.out k hv
          injection e with e
          subst e
          rw [HD.out] at hcs
          cases hcs)
      have := own_less hk (show w.heap.size ≤ B5 + 2 by omega)
      exact this
    · have hp := grownBy_putObj' W D (.deferred none)
      refine ⟨hp.os.trans HG.out.os, hp.tape.trans HG.out.tape, hp.output.trans HG.out.output, Nat.le_trans HG.out.size hp.size, fun k hk hne => (hp.block k (Nat.lt_of_lt_of_le hk HG.out.size) (fun e => ?_)).trans (HG.out.block k hk hne)⟩
      injection e with e
      omega
end Go.Proofs.Ytoaokmlpeijepaa
