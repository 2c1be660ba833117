-- Printed by wip/givenprint.py of this repository: the printer's run, with contracts of my own for some functions.
import Derived.Test.YtbadkblofihjhaaPSpanPartedx0
import Derived.Test.YtbadkblofihjhaaPSpanPartedx2
namespace Go.Proofs.Ytbadkblofihjhaa.PSpanParted
open Go.RowKit Go.Proofs.YtbadkblofihjhaaW.PrintWords Go.Proofs.YtbadkblofihjhaaW.PrintLast Go.Proofs.YtbadkblofihjhaaW.PrintMore
attribute [local go_sem] max2_int min2_int max_two min_two max_three min_three max_four min_four   -- for this text's walks alone
set_option linter.unusedVariables false
set_option linter.unusedSimpArgs false

open Go.Proofs.YtbadkblofihjhaaW.PrintWords.Kd
abbrev y_ : Bool := true
abbrev z_ : Bool := false
theorem q1_ {α : Type _} (l : List α) (i : Nat) (a : α) : l.toArray.setIfInBounds i a = (l.set i a).toArray := by simp
theorem q2_ {α : Type _} (a b : α) (l : List α) : (a :: l).set 0 b = b :: l := rfl
theorem q3_ {α : Type _} (a b : α) (l : List α) (n : Nat) : (a :: l).set (n + 1) b = a :: l.set n b := rfl
/-! ### souterrainlaw07_SpanParted: function 5 -/
def souterrainlaw07_SpanParted.l0 : Nat → List Int → Int → Int → Int → Bool → List Int → Int → Option (Bool)
 | 0,_,_,_,_,_,_,_=>none
 | k+1,x0,x1,x2,x3,x9,x10,x11=>if x11<(x0.length:Int) then (if 0≤x11 then (if x10.length<17592186044416 then (souterrainlaw07_SpanParted.l0 k x0 x1 x2 x3 x9 (x10 ++ [wrap64 (1+(wrap64 (rd x0 x11)))]) (wrap64 (x11+1))) else (none)) else (none)) else (if (wrap64 ((wrap64 (x2))+1))=0 then (none) else ((span_Size.f x10).bind fun t138=>(if (wrap64 ((wrap64 (x1))+(wrap64 (x2)))) > t138 then (some x9) else ((span_Parts.f x10 (wrap64 (x1)) (wrap64 (x2))).bind fun t139=>((span_Parts.f x10 (wrap64 (x1)) (Int.tmod (wrap64 (x3)) (wrap64 ((wrap64 (x2))+1)))).bind fun t142=>((span_Parts.f x10 (wrap64 ((wrap64 (x1))+(Int.tmod (wrap64 (x3)) (wrap64 ((wrap64 (x2))+1))))) (wrap64 ((wrap64 (x2)) - (Int.tmod (wrap64 (x3)) (wrap64 ((wrap64 (x2))+1)))))).bind fun t145=>((some (([]:List (S34)):List (S34))).bind fun y148=>(if y148.length+t142.length<5864062014805 then ((some (y148 ++ t142:List (S34))).bind fun y151=>(if y151.length+t145.length<5864062014805 then ((some (y151 ++ t145:List (S34))).bind fun y154=>(if (t142.length:Int) > 0 then (if (t145.length:Int) > 0 then (if 0≤(wrap64 ((t142.length:Int) - 1)) then (if (wrap64 ((t142.length:Int) - 1))<(t142.length:Int) then (if 0<(t145.length:Int) then (if ((rd_T34 t142 (wrap64 ((t142.length:Int) - 1))).f0)=((rd_T34 t145 0).f0) then ((some (([]:List (S34)):List (S34))).bind fun y159=>(if y159.length+t142.length<5864062014805 then ((some (y159 ++ t142:List (S34))).bind fun y162=>(if 1≤(t145.length:Int) then ((some (t145.drop 1:List (S34))).bind fun y165=>(if y162.length+y165.length<5864062014805 then ((some (y162 ++ y165:List (S34))).bind fun y169=>(if (wrap64 ((t142.length:Int) - 1))<(y169.length:Int) then (if x9=true then ((souterrainref07_Same.f k t139 (y169.set ((wrap64 ((t142.length:Int) - 1)):Int).toNat (⟨(rd_T34 y169 (wrap64 ((t142.length:Int) - 1))).f0,(rd_T34 y169 (wrap64 ((t142.length:Int) - 1))).f1,(rd_T34 t145 0).f2⟩:S34))).bind fun t174=>(some t174)) else (some false)) else (none))) else (none))) else (none))) else (none))) else (if x9=true then ((souterrainref07_Same.f k t139 y154).bind fun t175=>(some t175)) else (some false))) else (none)) else (none)) else (none)) else (if x9=true then ((souterrainref07_Same.f k t139 y154).bind fun t176=>(some t176)) else (some false))) else (if x9=true then ((souterrainref07_Same.f k t139 y154).bind fun t177=>(some t177)) else (some false)))) else (none))) else (none)))))))))
def souterrainlaw07_SpanParted.f (k : Nat) (l0 : List Int) (a1 : Int) (a2 : Int) (a3 : Int) : Option (Bool) := (souterrainlaw07_head.f k).bind fun t133 => (if (l0.length : Int) > 200 then (some t133) else (souterrainlaw07_SpanParted.l0 k l0 a1 a2 a3 t133 ([] : List Int) 0))
theorem souterrainlaw07_SpanParted.mono_l : ∀ k, (∀ y0 y1 y2 y3 y4 y5 y6, LeO (souterrainlaw07_SpanParted.l0 k y0 y1 y2 y3 y4 y5 y6) (souterrainlaw07_SpanParted.l0 (k + 1) y0 y1 y2 y3 y4 y5 y6))
 | 0=>fun _ _ _ _ _ _ _ r h=>by simp [souterrainlaw07_SpanParted.l0] at h
 | k+1=>by
  have ih0:=souterrainlaw07_SpanParted.mono_l k
  ·intro y0 y1 y2 y3 y4 y5 y6
   unfold souterrainlaw07_SpanParted.l0
   repeat' first
   | (with_reducible exact ih0 _ _ _ _ _ _ _)
   | (with_reducible exact souterrainlaw07_head.mono _)
   | (with_reducible exact souterrainref07_Same.mono _ _ _)
   | (with_reducible exact LeO.refl _)
   | (with_reducible exact LeO.none _)
   | (with_reducible refine LeO.ite ?_ ?_)
   | (with_reducible refine LeO.bind ?_ (fun _=>?_))
   | exact ih0 _ _ _ _ _ _ _
   | exact souterrainlaw07_head.mono _
   | exact souterrainref07_Same.mono _ _ _
   | exact LeO.none _
   | refine LeO.ite ?_ ?_
   | refine LeO.bind ?_ (fun _=>?_)
theorem souterrainlaw07_SpanParted.mono : ∀ a0 a1 a2 a3 k, LeO (souterrainlaw07_SpanParted.f k a0 a1 a2 a3) (souterrainlaw07_SpanParted.f (k + 1) a0 a1 a2 a3) := by
 intro a0 a1 a2 a3 k
 have ih0:=souterrainlaw07_SpanParted.mono_l k
 unfold souterrainlaw07_SpanParted.f
 repeat' first
   | (with_reducible exact ih0 _ _ _ _ _ _ _)
   | (with_reducible exact souterrainlaw07_head.mono _)
   | (with_reducible exact souterrainref07_Same.mono _ _ _)
   | (with_reducible exact LeO.refl _)
   | (with_reducible exact LeO.none _)
   | (with_reducible refine LeO.ite ?_ ?_)
   | (with_reducible refine LeO.bind ?_ (fun _=>?_))
   | exact ih0 _ _ _ _ _ _ _
   | exact souterrainlaw07_head.mono _
   | exact souterrainref07_Same.mono _ _ _
   | exact LeO.none _
   | refine LeO.ite ?_ ?_
   | refine LeO.bind ?_ (fun _=>?_)
def souterrainlaw07_SpanParted.T18 : Bool × List (List Nat × List Nat) := (true, [([], []), ([0], [0]), ([1], [1]), ([2], [2]), ([3], [3]), ([4, 3], [3, 4]), ([5, 3], [3, 5]), ([3, 6], [3, 6]), ([7, 3], [7]), ([8], [8]), ([8], [8]), ([10, 8], [8, 10]), ([11, 8], [8, 11]), ([9, 12, 8], [8, 9, 12]), ([13, 8], [8, 13]), ([14, 8], [8, 14]), ([8], [8]), ([16, 8], [8, 16]), ([17, 8], [8, 17]), ([18, 8], [8, 18]), ([15, 19, 8], [8, 15, 19]), ([8, 20], [8, 20])])
def souterrainlaw07_SpanParted.B18 : List Nat := [0, 1, 3, 7, 15, 31, 63, 127, 255, 511, 511, 1535, 3583, 8191, 16383, 32767, 511, 66047, 197119, 459263, 1048575, 2097151]
theorem souterrainlaw07_SpanParted.tab18 : rtab .any (opsOf Try.f5 18) = souterrainlaw07_SpanParted.T18 := by kernel_rfl
theorem souterrainlaw07_SpanParted.bits18 : waitsOk souterrainlaw07_SpanParted.T18.2 souterrainlaw07_SpanParted.B18 = true := by kernel_rfl
set_option maxHeartbeats 8000000 in
set_option maxRecDepth 100000 in
theorem souterrainlaw07_SpanParted.calls (k : Nat) (A0 : Option Addr) (c0 : Nat) (l0 : List Int) (a1 : Int) (a2 : Int) (a3 : Int) (r : Bool) (w : World) (hr0 : Kd.C (Kd.int .u8) w A0 l0.length l0) (hc0 : l0.length ≤ c0) (h : souterrainlaw07_SpanParted.f k l0 a1 a2 a3 = some r) :
  Calls Try.prog 5 #[.slice A0 l0.length c0,.int .u16 a1,.int .u16 a2,.int .u16 a3] w fun e w'=>e=.returned (.bool r)∧Below w.heap.size w w':=by
 have HR0:=Aside0.mk hr0
 have HC0:=Aside0.mk hc0
 clear hr0 hc0
 have HB:=Aside0.mk (Below.refl w.heap.size w)
 have H:((souterrainlaw07_head.f k).bind fun t133=>(if (l0.length:Int) > 200 then (some t133) else (souterrainlaw07_SpanParted.l0 k l0 a1 a2 a3 t133 ([]:List Int) 0)))=some r:=h
 clear h
 replace H:=Option.bind_eq_some_iff.mp H
 obtain ⟨t133,A50,H⟩:=H
 replace H:(if (l0.length:Int) > 200 then (some t133) else (souterrainlaw07_SpanParted.l0 k l0 a1 a2 a3 t133 ([]:List Int) 0))=some r:=H
 have A5:=Aside0.mk A50
 clear A50
 by_cases c6:(l0.length:Int) > 200
 ·rw [if_pos c6] at H
  have c6b0:decide (200<(l0.length:Int))=true:=decide_eq_true c6
  have c6b1:decide (200<l0.length)=true:=decide_eq_true (by omega)
  clear c6
  obtain rfl:=Option.some.inj H
  go_enter Try.func5,Try.ntmps5
  go_wp2_with (first|((with_reducible refine gate_callee (f:=8) rfl ?_);refine goesL_ (some 19) rfl rfl Try.func8 (by kernel_rfl) rfl #[] rfl (by (try simp only [List.map_toArray,List.map_cons,List.map_nil]);first|done|rfl|(simp only [List.length_drop,List.length_take];rfl)) ?_;(with_reducible refine (souterrainlaw07_head.calls k  t133 _ A5.out).mono ?_);rintro e w7 ⟨rfl,hb⟩;refine ⟨_,rfl,?_⟩;have n0_:=Aside0.mk (below_step (by repeat (first|(with_reducible first|exact HB.out|apply below_alloc|apply pw_below_drewN|apply below_drew1)|exact HB.out)) hb);clear HB;have HB:=n0_;clear n0_;(try clear hb);(try clear hb2);(try clear hk);(try clear hi)))
  go_ret
  exact ⟨by first|rfl|(simp [errW_none,errW_some] <;> rfl)|(simp [*,errW_none,errW_some] <;> rfl),by repeat (first|(with_reducible first|exact HB.out|apply below_alloc|apply pw_below_drewN|apply below_drew1)|exact HB.out)⟩
 ·rw [if_neg c6] at H
  have c6b0:decide (200<(l0.length:Int))=false:=decide_eq_false c6
  have c6b1:decide (200<l0.length)=false:=decide_eq_false (by omega)
  clear c6
  have H':=Aside0.mk H
  clear H
  go_enter Try.func5,Try.ntmps5
  go_wp2_with (first|((with_reducible refine gate_callee (f:=8) rfl ?_);refine goesL_ (some 19) rfl rfl Try.func8 (by kernel_rfl) rfl #[] rfl (by (try simp only [List.map_toArray,List.map_cons,List.map_nil]);first|done|rfl|(simp only [List.length_drop,List.length_take];rfl)) ?_;(with_reducible refine (souterrainlaw07_head.calls k  t133 _ A5.out).mono ?_);rintro e w8 ⟨rfl,hb⟩;refine ⟨_,rfl,?_⟩;have n0_:=Aside0.mk (below_step (by repeat (first|(with_reducible first|exact HB.out|apply below_alloc|apply pw_below_drewN|apply below_drew1)|exact HB.out)) hb);clear HB;have HB:=n0_;clear n0_;(try clear hb);(try clear hb2);(try clear hk);(try clear hi)))
  go_loopg [10,11] k (fun kq v10 v11 w'=>∃ (x10_1:List Int) (x11_1:Int),v11=.int .i64 x11_1∧Aside0 (souterrainlaw07_SpanParted.l0 kq l0 a1 a2 a3 t133 x10_1 x11_1=some r)∧Aside0 (kq≤k)∧Aside0 (Kd.R (Kd.int .i64) 3 w' w.heap.size (fun _=>True) v10 x10_1)∧Aside0 (Below w.heap.size w w'))
  case atStart=>exact ⟨(([]:List Int)),(0),(by first|rfl|(simp;done)|(simp [*];done)),H',⟨Nat.le_refl _⟩,⟨by first|exact Kd.R_nil _ _ _ _ _|exact Kd.N_nil _ _ _ _ _|exact Kd.V_nil _ _ _ _ _|exact Kd.Q_nil _ _ _ _ _|exact Kd.S_nil _ _ _ _ _⟩,⟨by repeat (first|(with_reducible first|exact HB.out|apply below_alloc|apply pw_below_drewN|apply below_drew1)|exact HB.out)⟩⟩
  case round =>
   clear H'
   try clear p2
   try clear c5
   try clear c6
   try clear c6b0
   try clear c6b1
   try clear c8
   obtain ⟨x10_1,x11_1,rfl,HA,HK1,HO_10,HB⟩:=hrel
   cases gk with
   | zero=>exact absurd HA.out (by simp [souterrainlaw07_SpanParted.l0])
   | succ k1 =>
    have H:=HA.out
    clear HA
    simp only [souterrainlaw07_SpanParted.l0] at H
    by_cases c9:x11_1<(l0.length:Int)
    ·rw [if_pos c9] at H
     have c9b0:decide (x11_1<(l0.length:Int))=true:=decide_eq_true c9
     clear c9
     by_cases c10:0≤x11_1
     ·rw [if_pos c10] at H
      have c10b0:decide (0≤x11_1)=true:=decide_eq_true c10
      clear c10
      by_cases c11:x10_1.length<17592186044416
      ·rw [if_pos c11] at H
       have LMc11:=Aside0.mk c11
       clear c11
       obtain ⟨y135,hy135⟩:∃ y_:List Int,y_=(x10_1 ++ [wrap64 (1+(wrap64 (rd l0 x11_1)))]):=⟨_,rfl⟩
       replace H:(souterrainlaw07_SpanParted.l0 k1 l0 a1 a2 a3 t133 y135 (wrap64 (x11_1+1)))=some r:=by first|(rw [hy135];with_reducible exact H)|(have H2_:=(Option.bind_some _ _).symm.trans H;rw [hy135];with_reducible exact H2_)|(have H2_:=(Option.bind_some _ _).symm.trans H;with_reducible exact H2_)|with_reducible exact H|(rw [hy135];exact H)|exact H
       have Ny135:=Aside0.mk hy135
       clear hy135
       have H':=Aside0.mk H
       clear H
       have p134:0≤(x11_1:Int):=of_decide_eq_true (by first|(with_reducible assumption)|assumption)
       have q134:x11_1<(l0.length:Int):=of_decide_eq_true (by first|(with_reducible assumption)|assumption)
       obtain ⟨ad134,e134,hx134_0⟩:=Kd.at_int HR0.out x11_1 p134 q134
       cases e134
       replace hx134_0:=(HB.out.cell (World.block_lt_of_cell? w _ hx134_0)).trans hx134_0
       replace p134:=eq_true p134
       replace q134:=eq_true q134
       go_wp2_with (first|((with_reducible refine gate_builtin (b:=.append) (xs:=#[.tmp 30,.tmp 37]) rfl ?_);(try (refine gate_guard (by rfl) ?_;dsimp only));at_builtin;refine Kd.R_append (Kd.int .i64) (w0:=w) w.heap.size rfl (.tmp 30) (.tmp 37) 22 3 (.int .i64 0) 8 rfl Try.underlying22 info3 rfl (by decide) (by omega) u10 x10_1 (wrap64 (1+(wrap64 (rd l0 x11_1)))) [.int .i64 (wrap64 (1+(wrap64 (rd l0 x11_1))))] (fun _=>True) (fun _=>False) rfl rfl ?aP (fun _ hk=>hk.elim) ?aF ?aO ?aB ?aS ?aL ?_;(case aP=>exact rfl);(case aB=>exact (by repeat (first|(with_reducible first|exact HB.out|apply below_alloc|apply pw_below_drewN|apply below_drew1)|exact HB.out)));(case aF=>exact (fun _ _=>trivial));(case aO=>exact (by (with_reducible repeat (first|apply R_alloc|apply R_drewN|apply R_drew));exact HO_10.out));(case aS=>exact (below_size (by repeat (first|(with_reducible first|exact HB.out|apply below_alloc|apply pw_below_drewN|apply below_drew1)|exact HB.out))));(case aL=>have:=LMc11.out;omega);intro v136 w12 ho hb hg hat;rw [← Ny135.out] at ho;have n0_:=Aside0.mk (hb);have n1_:=Aside0.mk (ho);clear HB;clear HO_10;have HB:=n0_;have HO137:=n1_;clear n0_ n1_;clear ho hb hg hat))
       go_roundg k1
       case measure=>have:=HK1.out;omega
       case rel=>exact ⟨(y135),(wrap64 (x11_1+1)),(by first|rfl|(simp;done)|(simp [*];done)),H',⟨by have:=HK1.out;omega⟩,⟨by (with_reducible repeat (first|apply R_alloc|apply R_drewN|apply R_drew));exact HO137.out⟩,⟨by repeat (first|(with_reducible first|exact HB.out|apply below_alloc|apply pw_below_drewN|apply below_drew1)|exact HB.out)⟩⟩
      ·rw [if_neg c11] at H
       exact absurd H (by simp)
     ·rw [if_neg c10] at H
      exact absurd H (by simp)
    ·rw [if_neg c9] at H
     have c9b0:decide (x11_1<(l0.length:Int))=false:=decide_eq_false c9
     clear c9
     by_cases c13:(wrap64 ((wrap64 (a2))+1))=0
     ·rw [if_pos c13] at H
      exact absurd H (by simp)
     ·rw [if_neg c13] at H
      have c13b0:((wrap64 ((wrap64 (a2))+1)) == 0)=false:=beq_eq_false_iff_ne.mpr c13
      have c13b1:((wrap64 ((wrap64 (a2))+1)) != 0)=true:=bne_iff_ne.mpr c13
      replace H:=Option.bind_eq_some_iff.mp H
      obtain ⟨t138,A140,H⟩:=H
      replace H:(if (wrap64 ((wrap64 (a1))+(wrap64 (a2)))) > t138 then (some t133) else ((span_Parts.f x10_1 (wrap64 (a1)) (wrap64 (a2))).bind fun t139=>((span_Parts.f x10_1 (wrap64 (a1)) (Int.tmod (wrap64 (a3)) (wrap64 ((wrap64 (a2))+1)))).bind fun t142=>((span_Parts.f x10_1 (wrap64 ((wrap64 (a1))+(Int.tmod (wrap64 (a3)) (wrap64 ((wrap64 (a2))+1))))) (wrap64 ((wrap64 (a2)) - (Int.tmod (wrap64 (a3)) (wrap64 ((wrap64 (a2))+1)))))).bind fun t145=>((some (([]:List (S34)):List (S34))).bind fun y148=>(if y148.length+t142.length<5864062014805 then ((some (y148 ++ t142:List (S34))).bind fun y151=>(if y151.length+t145.length<5864062014805 then ((some (y151 ++ t145:List (S34))).bind fun y154=>(if (t142.length:Int) > 0 then (if (t145.length:Int) > 0 then (if 0≤(wrap64 ((t142.length:Int) - 1)) then (if (wrap64 ((t142.length:Int) - 1))<(t142.length:Int) then (if 0<(t145.length:Int) then (if ((rd_T34 t142 (wrap64 ((t142.length:Int) - 1))).f0)=((rd_T34 t145 0).f0) then ((some (([]:List (S34)):List (S34))).bind fun y159=>(if y159.length+t142.length<5864062014805 then ((some (y159 ++ t142:List (S34))).bind fun y162=>(if 1≤(t145.length:Int) then ((some (t145.drop 1:List (S34))).bind fun y165=>(if y162.length+y165.length<5864062014805 then ((some (y162 ++ y165:List (S34))).bind fun y169=>(if (wrap64 ((t142.length:Int) - 1))<(y169.length:Int) then (if t133=true then ((souterrainref07_Same.f k1 t139 (y169.set ((wrap64 ((t142.length:Int) - 1)):Int).toNat (⟨(rd_T34 y169 (wrap64 ((t142.length:Int) - 1))).f0,(rd_T34 y169 (wrap64 ((t142.length:Int) - 1))).f1,(rd_T34 t145 0).f2⟩:S34))).bind fun t174=>(some t174)) else (some false)) else (none))) else (none))) else (none))) else (none))) else (if t133=true then ((souterrainref07_Same.f k1 t139 y154).bind fun t175=>(some t175)) else (some false))) else (none)) else (none)) else (none)) else (if t133=true then ((souterrainref07_Same.f k1 t139 y154).bind fun t176=>(some t176)) else (some false))) else (if t133=true then ((souterrainref07_Same.f k1 t139 y154).bind fun t177=>(some t177)) else (some false)))) else (none))) else (none)))))))=some r:=H
      have A14:=Aside0.mk A140
      clear A140
      by_cases c15:(wrap64 ((wrap64 (a1))+(wrap64 (a2)))) > t138
      ·rw [if_pos c15] at H
       have c15b0:decide (t138<(wrap64 ((wrap64 (a1))+(wrap64 (a2)))))=true:=decide_eq_true c15
       clear c15
       obtain rfl:=Option.some.inj H
       obtain ⟨Ao16,co16,eo16⟩:=Kd.R_slice HO_10.out
       subst eo16
       go_wp2_with (first|((with_reducible refine gate_callee (f:=14) rfl ?_);refine goesL_ (some 52) rfl rfl Try.func14 (by kernel_rfl) rfl #[.slice Ao16 x10_1.length co16] rfl (by (try simp only [List.map_toArray,List.map_cons,List.map_nil]);first|done|rfl|(simp only [List.length_drop,List.length_take];rfl)) ?_;(with_reducible refine (span_Size.calls _ _ x10_1 t138 _ ?side1 ?side2 A14.out).mono ?_);(case side1=>repeat (first|exact (Kd.R_reads' HO_10.out).2.2|(with_reducible refine Kd.C_alloc ?_ _)|(with_reducible refine Kd.C_drewN ?_ _)|(with_reducible refine Kd.C_drew ?_)));(case side2=>exact (Kd.R_reads' HO_10.out).2.1);rintro e w17 ⟨rfl,hb⟩;refine ⟨_,rfl,?_⟩;have n0_:=Aside0.mk (Kd.R_below (by (with_reducible repeat (first|apply R_alloc|apply R_drewN|apply R_drew));exact HO_10.out) hb);have n1_:=Aside0.mk (below_step (by repeat (first|(with_reducible first|exact HB.out|apply below_alloc|apply pw_below_drewN|apply below_drew1)|exact HB.out)) hb);clear HO_10;clear HB;have HO_10:=n0_;have HB:=n1_;clear n0_ n1_;(try clear hb);(try clear hb2);(try clear hk);(try clear hi)))
       go_ret
       exact ⟨by first|rfl|(simp [errW_none,errW_some] <;> rfl)|(simp [*,errW_none,errW_some] <;> rfl),by repeat (first|(with_reducible first|exact HB.out|apply below_alloc|apply pw_below_drewN|apply below_drew1)|exact HB.out)⟩
      ·rw [if_neg c15] at H
       have c15b0:decide (t138<(wrap64 ((wrap64 (a1))+(wrap64 (a2)))))=false:=decide_eq_false c15
       clear c15
       replace H:=Option.bind_eq_some_iff.mp H
       obtain ⟨t139,A180,H⟩:=H
       replace H:((span_Parts.f x10_1 (wrap64 (a1)) (Int.tmod (wrap64 (a3)) (wrap64 ((wrap64 (a2))+1)))).bind fun t142=>((span_Parts.f x10_1 (wrap64 ((wrap64 (a1))+(Int.tmod (wrap64 (a3)) (wrap64 ((wrap64 (a2))+1))))) (wrap64 ((wrap64 (a2)) - (Int.tmod (wrap64 (a3)) (wrap64 ((wrap64 (a2))+1)))))).bind fun t145=>((some (([]:List (S34)):List (S34))).bind fun y148=>(if y148.length+t142.length<5864062014805 then ((some (y148 ++ t142:List (S34))).bind fun y151=>(if y151.length+t145.length<5864062014805 then ((some (y151 ++ t145:List (S34))).bind fun y154=>(if (t142.length:Int) > 0 then (if (t145.length:Int) > 0 then (if 0≤(wrap64 ((t142.length:Int) - 1)) then (if (wrap64 ((t142.length:Int) - 1))<(t142.length:Int) then (if 0<(t145.length:Int) then (if ((rd_T34 t142 (wrap64 ((t142.length:Int) - 1))).f0)=((rd_T34 t145 0).f0) then ((some (([]:List (S34)):List (S34))).bind fun y159=>(if y159.length+t142.length<5864062014805 then ((some (y159 ++ t142:List (S34))).bind fun y162=>(if 1≤(t145.length:Int) then ((some (t145.drop 1:List (S34))).bind fun y165=>(if y162.length+y165.length<5864062014805 then ((some (y162 ++ y165:List (S34))).bind fun y169=>(if (wrap64 ((t142.length:Int) - 1))<(y169.length:Int) then (if t133=true then ((souterrainref07_Same.f k1 t139 (y169.set ((wrap64 ((t142.length:Int) - 1)):Int).toNat (⟨(rd_T34 y169 (wrap64 ((t142.length:Int) - 1))).f0,(rd_T34 y169 (wrap64 ((t142.length:Int) - 1))).f1,(rd_T34 t145 0).f2⟩:S34))).bind fun t174=>(some t174)) else (some false)) else (none))) else (none))) else (none))) else (none))) else (if t133=true then ((souterrainref07_Same.f k1 t139 y154).bind fun t175=>(some t175)) else (some false))) else (none)) else (none)) else (none)) else (if t133=true then ((souterrainref07_Same.f k1 t139 y154).bind fun t176=>(some t176)) else (some false))) else (if t133=true then ((souterrainref07_Same.f k1 t139 y154).bind fun t177=>(some t177)) else (some false)))) else (none))) else (none)))))=some r:=H
       have A18:=Aside0.mk A180
       clear A180
       replace H:=Option.bind_eq_some_iff.mp H
       obtain ⟨t142,A190,H⟩:=H
       replace H:((span_Parts.f x10_1 (wrap64 ((wrap64 (a1))+(Int.tmod (wrap64 (a3)) (wrap64 ((wrap64 (a2))+1))))) (wrap64 ((wrap64 (a2)) - (Int.tmod (wrap64 (a3)) (wrap64 ((wrap64 (a2))+1)))))).bind fun t145=>((some (([]:List (S34)):List (S34))).bind fun y148=>(if y148.length+t142.length<5864062014805 then ((some (y148 ++ t142:List (S34))).bind fun y151=>(if y151.length+t145.length<5864062014805 then ((some (y151 ++ t145:List (S34))).bind fun y154=>(if (t142.length:Int) > 0 then (if (t145.length:Int) > 0 then (if 0≤(wrap64 ((t142.length:Int) - 1)) then (if (wrap64 ((t142.length:Int) - 1))<(t142.length:Int) then (if 0<(t145.length:Int) then (if ((rd_T34 t142 (wrap64 ((t142.length:Int) - 1))).f0)=((rd_T34 t145 0).f0) then ((some (([]:List (S34)):List (S34))).bind fun y159=>(if y159.length+t142.length<5864062014805 then ((some (y159 ++ t142:List (S34))).bind fun y162=>(if 1≤(t145.length:Int) then ((some (t145.drop 1:List (S34))).bind fun y165=>(if y162.length+y165.length<5864062014805 then ((some (y162 ++ y165:List (S34))).bind fun y169=>(if (wrap64 ((t142.length:Int) - 1))<(y169.length:Int) then (if t133=true then ((souterrainref07_Same.f k1 t139 (y169.set ((wrap64 ((t142.length:Int) - 1)):Int).toNat (⟨(rd_T34 y169 (wrap64 ((t142.length:Int) - 1))).f0,(rd_T34 y169 (wrap64 ((t142.length:Int) - 1))).f1,(rd_T34 t145 0).f2⟩:S34))).bind fun t174=>(some t174)) else (some false)) else (none))) else (none))) else (none))) else (none))) else (if t133=true then ((souterrainref07_Same.f k1 t139 y154).bind fun t175=>(some t175)) else (some false))) else (none)) else (none)) else (none)) else (if t133=true then ((souterrainref07_Same.f k1 t139 y154).bind fun t176=>(some t176)) else (some false))) else (if t133=true then ((souterrainref07_Same.f k1 t139 y154).bind fun t177=>(some t177)) else (some false)))) else (none))) else (none))))=some r:=H
       have A19:=Aside0.mk A190
       clear A190
       replace H:=Option.bind_eq_some_iff.mp H
       obtain ⟨t145,A200,H⟩:=H
       replace H:((some (([]:List (S34)):List (S34))).bind fun y148=>(if y148.length+t142.length<5864062014805 then ((some (y148 ++ t142:List (S34))).bind fun y151=>(if y151.length+t145.length<5864062014805 then ((some (y151 ++ t145:List (S34))).bind fun y154=>(if (t142.length:Int) > 0 then (if (t145.length:Int) > 0 then (if 0≤(wrap64 ((t142.length:Int) - 1)) then (if (wrap64 ((t142.length:Int) - 1))<(t142.length:Int) then (if 0<(t145.length:Int) then (if ((rd_T34 t142 (wrap64 ((t142.length:Int) - 1))).f0)=((rd_T34 t145 0).f0) then ((some (([]:List (S34)):List (S34))).bind fun y159=>(if y159.length+t142.length<5864062014805 then ((some (y159 ++ t142:List (S34))).bind fun y162=>(if 1≤(t145.length:Int) then ((some (t145.drop 1:List (S34))).bind fun y165=>(if y162.length+y165.length<5864062014805 then ((some (y162 ++ y165:List (S34))).bind fun y169=>(if (wrap64 ((t142.length:Int) - 1))<(y169.length:Int) then (if t133=true then ((souterrainref07_Same.f k1 t139 (y169.set ((wrap64 ((t142.length:Int) - 1)):Int).toNat (⟨(rd_T34 y169 (wrap64 ((t142.length:Int) - 1))).f0,(rd_T34 y169 (wrap64 ((t142.length:Int) - 1))).f1,(rd_T34 t145 0).f2⟩:S34))).bind fun t174=>(some t174)) else (some false)) else (none))) else (none))) else (none))) else (none))) else (if t133=true then ((souterrainref07_Same.f k1 t139 y154).bind fun t175=>(some t175)) else (some false))) else (none)) else (none)) else (none)) else (if t133=true then ((souterrainref07_Same.f k1 t139 y154).bind fun t176=>(some t176)) else (some false))) else (if t133=true then ((souterrainref07_Same.f k1 t139 y154).bind fun t177=>(some t177)) else (some false)))) else (none))) else (none)))=some r:=H
       have A20:=Aside0.mk A200
       clear A200
       obtain ⟨y148,hy148⟩:∃ y_:List (S34),y_=(([]:List (S34))):=⟨_,rfl⟩
       replace H:(if y148.length+t142.length<5864062014805 then ((some (y148 ++ t142:List (S34))).bind fun y151=>(if y151.length+t145.length<5864062014805 then ((some (y151 ++ t145:List (S34))).bind fun y154=>(if (t142.length:Int) > 0 then (if (t145.length:Int) > 0 then (if 0≤(wrap64 ((t142.length:Int) - 1)) then (if (wrap64 ((t142.length:Int) - 1))<(t142.length:Int) then (if 0<(t145.length:Int) then (if ((rd_T34 t142 (wrap64 ((t142.length:Int) - 1))).f0)=((rd_T34 t145 0).f0) then ((some (([]:List (S34)):List (S34))).bind fun y159=>(if y159.length+t142.length<5864062014805 then ((some (y159 ++ t142:List (S34))).bind fun y162=>(if 1≤(t145.length:Int) then ((some (t145.drop 1:List (S34))).bind fun y165=>(if y162.length+y165.length<5864062014805 then ((some (y162 ++ y165:List (S34))).bind fun y169=>(if (wrap64 ((t142.length:Int) - 1))<(y169.length:Int) then (if t133=true then ((souterrainref07_Same.f k1 t139 (y169.set ((wrap64 ((t142.length:Int) - 1)):Int).toNat (⟨(rd_T34 y169 (wrap64 ((t142.length:Int) - 1))).f0,(rd_T34 y169 (wrap64 ((t142.length:Int) - 1))).f1,(rd_T34 t145 0).f2⟩:S34))).bind fun t174=>(some t174)) else (some false)) else (none))) else (none))) else (none))) else (none))) else (if t133=true then ((souterrainref07_Same.f k1 t139 y154).bind fun t175=>(some t175)) else (some false))) else (none)) else (none)) else (none)) else (if t133=true then ((souterrainref07_Same.f k1 t139 y154).bind fun t176=>(some t176)) else (some false))) else (if t133=true then ((souterrainref07_Same.f k1 t139 y154).bind fun t177=>(some t177)) else (some false)))) else (none))) else (none))=some r:=by first|(rw [hy148];with_reducible exact H)|(have H2_:=(Option.bind_some _ _).symm.trans H;rw [hy148];with_reducible exact H2_)|(have H2_:=(Option.bind_some _ _).symm.trans H;with_reducible exact H2_)|with_reducible exact H|(rw [hy148];exact H)|exact H
       have Ny148:=Aside0.mk hy148
       clear hy148
       by_cases c21:y148.length+t142.length<5864062014805
       ·rw [if_pos c21] at H
        have LMc21:=Aside0.mk c21
        clear c21
        obtain ⟨y151,hy151⟩:∃ y_:List (S34),y_=(y148 ++ t142):=⟨_,rfl⟩
        replace H:(if y151.length+t145.length<5864062014805 then ((some (y151 ++ t145:List (S34))).bind fun y154=>(if (t142.length:Int) > 0 then (if (t145.length:Int) > 0 then (if 0≤(wrap64 ((t142.length:Int) - 1)) then (if (wrap64 ((t142.length:Int) - 1))<(t142.length:Int) then (if 0<(t145.length:Int) then (if ((rd_T34 t142 (wrap64 ((t142.length:Int) - 1))).f0)=((rd_T34 t145 0).f0) then ((some (([]:List (S34)):List (S34))).bind fun y159=>(if y159.length+t142.length<5864062014805 then ((some (y159 ++ t142:List (S34))).bind fun y162=>(if 1≤(t145.length:Int) then ((some (t145.drop 1:List (S34))).bind fun y165=>(if y162.length+y165.length<5864062014805 then ((some (y162 ++ y165:List (S34))).bind fun y169=>(if (wrap64 ((t142.length:Int) - 1))<(y169.length:Int) then (if t133=true then ((souterrainref07_Same.f k1 t139 (y169.set ((wrap64 ((t142.length:Int) - 1)):Int).toNat (⟨(rd_T34 y169 (wrap64 ((t142.length:Int) - 1))).f0,(rd_T34 y169 (wrap64 ((t142.length:Int) - 1))).f1,(rd_T34 t145 0).f2⟩:S34))).bind fun t174=>(some t174)) else (some false)) else (none))) else (none))) else (none))) else (none))) else (if t133=true then ((souterrainref07_Same.f k1 t139 y154).bind fun t175=>(some t175)) else (some false))) else (none)) else (none)) else (none)) else (if t133=true then ((souterrainref07_Same.f k1 t139 y154).bind fun t176=>(some t176)) else (some false))) else (if t133=true then ((souterrainref07_Same.f k1 t139 y154).bind fun t177=>(some t177)) else (some false)))) else (none))=some r:=by first|(rw [hy151];with_reducible exact H)|(have H2_:=(Option.bind_some _ _).symm.trans H;rw [hy151];with_reducible exact H2_)|(have H2_:=(Option.bind_some _ _).symm.trans H;with_reducible exact H2_)|with_reducible exact H|(rw [hy151];exact H)|exact H
        have Ny151:=Aside0.mk hy151
        clear hy151
        by_cases c22:y151.length+t145.length<5864062014805
        ·rw [if_pos c22] at H
         have LMc22:=Aside0.mk c22
         clear c22
         obtain ⟨y154,hy154⟩:∃ y_:List (S34),y_=(y151 ++ t145):=⟨_,rfl⟩
         replace H:(if (t142.length:Int) > 0 then (if (t145.length:Int) > 0 then (if 0≤(wrap64 ((t142.length:Int) - 1)) then (if (wrap64 ((t142.length:Int) - 1))<(t142.length:Int) then (if 0<(t145.length:Int) then (if ((rd_T34 t142 (wrap64 ((t142.length:Int) - 1))).f0)=((rd_T34 t145 0).f0) then ((some (([]:List (S34)):List (S34))).bind fun y159=>(if y159.length+t142.length<5864062014805 then ((some (y159 ++ t142:List (S34))).bind fun y162=>(if 1≤(t145.length:Int) then ((some (t145.drop 1:List (S34))).bind fun y165=>(if y162.length+y165.length<5864062014805 then ((some (y162 ++ y165:List (S34))).bind fun y169=>(if (wrap64 ((t142.length:Int) - 1))<(y169.length:Int) then (if t133=true then ((souterrainref07_Same.f k1 t139 (y169.set ((wrap64 ((t142.length:Int) - 1)):Int).toNat (⟨(rd_T34 y169 (wrap64 ((t142.length:Int) - 1))).f0,(rd_T34 y169 (wrap64 ((t142.length:Int) - 1))).f1,(rd_T34 t145 0).f2⟩:S34))).bind fun t174=>(some t174)) else (some false)) else (none))) else (none))) else (none))) else (none))) else (if t133=true then ((souterrainref07_Same.f k1 t139 y154).bind fun t175=>(some t175)) else (some false))) else (none)) else (none)) else (none)) else (if t133=true then ((souterrainref07_Same.f k1 t139 y154).bind fun t176=>(some t176)) else (some false))) else (if t133=true then ((souterrainref07_Same.f k1 t139 y154).bind fun t177=>(some t177)) else (some false)))=some r:=by first|(rw [hy154];with_reducible exact H)|(have H2_:=(Option.bind_some _ _).symm.trans H;rw [hy154];with_reducible exact H2_)|(have H2_:=(Option.bind_some _ _).symm.trans H;with_reducible exact H2_)|with_reducible exact H|(rw [hy154];exact H)|exact H
         have Ny154:=Aside0.mk hy154
         clear hy154
         by_cases c23:(t142.length:Int) > 0
         ·rw [if_pos c23] at H
          have c23b0:decide (0<(t142.length:Int))=true:=decide_eq_true c23
          have c23b1:decide (0<t142.length)=true:=decide_eq_true (by omega)
          clear c23
          by_cases c24:(t145.length:Int) > 0
          ·rw [if_pos c24] at H
           have c24b0:decide (0<(t145.length:Int))=true:=decide_eq_true c24
           have c24b1:decide (0<t145.length)=true:=decide_eq_true (by omega)
           clear c24
           obtain ⟨ji25,hji25⟩:∃ j_:Int,(wrap64 ((t142.length:Int) - 1))=j_:=⟨_,rfl⟩
           replace H:(if 0≤(ji25) then (if (ji25)<(t142.length:Int) then (if 0<(t145.length:Int) then (if ((rd_T34 t142 (ji25)).f0)=((rd_T34 t145 0).f0) then ((some (([]:List (S34)):List (S34))).bind fun y159=>(if y159.length+t142.length<5864062014805 then ((some (y159 ++ t142:List (S34))).bind fun y162=>(if 1≤(t145.length:Int) then ((some (t145.drop 1:List (S34))).bind fun y165=>(if y162.length+y165.length<5864062014805 then ((some (y162 ++ y165:List (S34))).bind fun y169=>(if (ji25)<(y169.length:Int) then (if t133=true then ((souterrainref07_Same.f k1 t139 (y169.set ((ji25):Int).toNat (⟨(rd_T34 y169 (ji25)).f0,(rd_T34 y169 (ji25)).f1,(rd_T34 t145 0).f2⟩:S34))).bind fun t174=>(some t174)) else (some false)) else (none))) else (none))) else (none))) else (none))) else (if t133=true then ((souterrainref07_Same.f k1 t139 y154).bind fun t175=>(some t175)) else (some false))) else (none)) else (none)) else (none))=some r:=by first|(rw [hji25] at H;exact H)|(simp only [hji25] at H ⊢;exact H)
           (try rw [hji25] at A14)
           (try rw [hji25] at A18)
           (try rw [hji25] at A19)
           (try rw [hji25] at A20)
           have hji25w:(IntKind.i64.wrap ((t142.length:Int) - 1))=ji25:=(i64_w _).trans hji25
           by_cases c26:0≤(ji25)
           ·rw [if_pos c26] at H
            have c26b0:decide (0≤(ji25))=true:=decide_eq_true c26
            clear c26
            by_cases c27:(ji25)<(t142.length:Int)
            ·rw [if_pos c27] at H
             have c27b0:decide ((ji25)<(t142.length:Int))=true:=decide_eq_true c27
             clear c27
             by_cases c28:0<(t145.length:Int)
             ·rw [if_pos c28] at H
              have c28b0:decide (0<(t145.length:Int))=true:=decide_eq_true c28
              have c28b1:decide (0<t145.length)=true:=decide_eq_true (by omega)
              clear c28
              by_cases c29:((rd_T34 t142 (ji25)).f0)=((rd_T34 t145 0).f0)
              ·rw [if_pos c29] at H
               have c29b0:(((rd_T34 t142 (ji25)).f0) == ((rd_T34 t145 0).f0))=true:=beq_iff_eq.mpr c29
               have c29b1:(((rd_T34 t142 (ji25)).f0) != ((rd_T34 t145 0).f0))=false:=bne_eq_false_iff_eq.mpr c29
               clear c29
               obtain ⟨y159,hy159⟩:∃ y_:List (S34),y_=(([]:List (S34))):=⟨_,rfl⟩
               replace H:(if y159.length+t142.length<5864062014805 then ((some (y159 ++ t142:List (S34))).bind fun y162=>(if 1≤(t145.length:Int) then ((some (t145.drop 1:List (S34))).bind fun y165=>(if y162.length+y165.length<5864062014805 then ((some (y162 ++ y165:List (S34))).bind fun y169=>(if (ji25)<(y169.length:Int) then (if t133=true then ((souterrainref07_Same.f k1 t139 (y169.set ((ji25):Int).toNat (⟨(rd_T34 y169 (ji25)).f0,(rd_T34 y169 (ji25)).f1,(rd_T34 t145 0).f2⟩:S34))).bind fun t174=>(some t174)) else (some false)) else (none))) else (none))) else (none))) else (none))=some r:=by first|(rw [hy159];with_reducible exact H)|(have H2_:=(Option.bind_some _ _).symm.trans H;rw [hy159];with_reducible exact H2_)|(have H2_:=(Option.bind_some _ _).symm.trans H;with_reducible exact H2_)|with_reducible exact H|(rw [hy159];exact H)|exact H
               have Ny159:=Aside0.mk hy159
               clear hy159
               by_cases c30:y159.length+t142.length<5864062014805
               ·rw [if_pos c30] at H
                have LMc30:=Aside0.mk c30
                clear c30
                obtain ⟨y162,hy162⟩:∃ y_:List (S34),y_=(y159 ++ t142):=⟨_,rfl⟩
                replace H:(if 1≤(t145.length:Int) then ((some (t145.drop 1:List (S34))).bind fun y165=>(if y162.length+y165.length<5864062014805 then ((some (y162 ++ y165:List (S34))).bind fun y169=>(if (ji25)<(y169.length:Int) then (if t133=true then ((souterrainref07_Same.f k1 t139 (y169.set ((ji25):Int).toNat (⟨(rd_T34 y169 (ji25)).f0,(rd_T34 y169 (ji25)).f1,(rd_T34 t145 0).f2⟩:S34))).bind fun t174=>(some t174)) else (some false)) else (none))) else (none))) else (none))=some r:=by first|(rw [hy162];with_reducible exact H)|(have H2_:=(Option.bind_some _ _).symm.trans H;rw [hy162];with_reducible exact H2_)|(have H2_:=(Option.bind_some _ _).symm.trans H;with_reducible exact H2_)|with_reducible exact H|(rw [hy162];exact H)|exact H
                have Ny162:=Aside0.mk hy162
                clear hy162
                by_cases c31:1≤(t145.length:Int)
                ·rw [if_pos c31] at H
                 have c31b0:=eq_true c31
                 have c31b1:decide (1≤(t145.length:Int))=true:=decide_eq_true c31
                 clear c31
                 obtain ⟨y165,hy165⟩:∃ y_:List (S34),y_=(t145.drop 1):=⟨_,rfl⟩
                 replace H:(if y162.length+y165.length<5864062014805 then ((some (y162 ++ y165:List (S34))).bind fun y169=>(if (ji25)<(y169.length:Int) then (if t133=true then ((souterrainref07_Same.f k1 t139 (y169.set ((ji25):Int).toNat (⟨(rd_T34 y169 (ji25)).f0,(rd_T34 y169 (ji25)).f1,(rd_T34 t145 0).f2⟩:S34))).bind fun t174=>(some t174)) else (some false)) else (none))) else (none))=some r:=by first|(rw [hy165];with_reducible exact H)|(have H2_:=(Option.bind_some _ _).symm.trans H;rw [hy165];with_reducible exact H2_)|(have H2_:=(Option.bind_some _ _).symm.trans H;with_reducible exact H2_)|with_reducible exact H|(rw [hy165];exact H)|exact H
                 have Ny165:=Aside0.mk hy165
                 clear hy165
                 by_cases c32:y162.length+y165.length<5864062014805
                 ·rw [if_pos c32] at H
                  have LMc32:=Aside0.mk c32
                  clear c32
                  obtain ⟨y169,hy169⟩:∃ y_:List (S34),y_=(y162 ++ y165):=⟨_,rfl⟩
                  replace H:(if (ji25)<(y169.length:Int) then (if t133=true then ((souterrainref07_Same.f k1 t139 (y169.set ((ji25):Int).toNat (⟨(rd_T34 y169 (ji25)).f0,(rd_T34 y169 (ji25)).f1,(rd_T34 t145 0).f2⟩:S34))).bind fun t174=>(some t174)) else (some false)) else (none))=some r:=by first|(rw [hy169];with_reducible exact H)|(have H2_:=(Option.bind_some _ _).symm.trans H;rw [hy169];with_reducible exact H2_)|(have H2_:=(Option.bind_some _ _).symm.trans H;with_reducible exact H2_)|with_reducible exact H|(rw [hy169];exact H)|exact H
                  have Ny169:=Aside0.mk hy169
                  clear hy169
                  by_cases c33:(ji25)<(y169.length:Int)
                  ·rw [if_pos c33] at H
                   have c33b0:decide ((ji25)<(y169.length:Int))=true:=decide_eq_true c33
                   clear c33
                   obtain ⟨y173,hy173⟩:∃ y_:List (S34),y_=(y169.set ((ji25):Int).toNat (⟨(rd_T34 y169 (ji25)).f0,(rd_T34 y169 (ji25)).f1,(rd_T34 t145 0).f2⟩:S34)):=⟨_,rfl⟩
                   replace H:(if t133=true then ((souterrainref07_Same.f k1 t139 y173).bind fun t174=>(some t174)) else (some false))=some r:=by first|(rw [hy173];with_reducible exact H)|(have H2_:=(Option.bind_some _ _).symm.trans H;rw [hy173];with_reducible exact H2_)|(have H2_:=(Option.bind_some _ _).symm.trans H;with_reducible exact H2_)|with_reducible exact H|(rw [hy173];exact H)|exact H
                   have Ny173:=Aside0.mk hy173
                   clear hy173
                   by_cases c35:t133=true
                   ·subst c35
                    have H1:((souterrainref07_Same.f k1 t139 y173).bind fun t174=>(some t174))=some r:=by rw [if_pos rfl] at H;exact H
                    clear H
                    have H:=H1
                    clear H1
                    replace H:=Option.bind_eq_some_iff.mp H
                    obtain ⟨t174,A360,H⟩:=H
                    replace H:(some t174)=some r:=H
                    have A36:=Aside0.mk A360
                    clear A360
                    obtain rfl:=Option.some.inj H
                    obtain ⟨Ao37,co37,eo37⟩:=Kd.R_slice HO_10.out
                    subst eo37
                    try go_wp2_with (first|((with_reducible refine gate_callee (f:=14) rfl ?_);refine goesL_ (some 52) rfl rfl Try.func14 (by kernel_rfl) rfl #[.slice Ao37 x10_1.length co37] rfl (by (try simp only [List.map_toArray,List.map_cons,List.map_nil]);first|done|rfl|(simp only [List.length_drop,List.length_take];rfl)) ?_;(with_reducible refine (span_Size.calls _ _ x10_1 t138 _ ?side1 ?side2 A14.out).mono ?_);(case side1=>repeat (first|exact (Kd.R_reads' HO_10.out).2.2|(with_reducible refine Kd.C_alloc ?_ _)|(with_reducible refine Kd.C_drewN ?_ _)|(with_reducible refine Kd.C_drew ?_)));(case side2=>exact (Kd.R_reads' HO_10.out).2.1);rintro e w38 ⟨rfl,hb⟩;refine ⟨_,rfl,?_⟩;have n0_:=Aside0.mk (Kd.R_below (by (with_reducible repeat (first|apply R_alloc|apply R_drewN|apply R_drew));exact HO_10.out) hb);have n1_:=Aside0.mk (below_step (by repeat (first|(with_reducible first|exact HB.out|apply below_alloc|apply pw_below_drewN|apply below_drew1)|exact HB.out)) hb);clear HO_10;clear HB;have HO_10:=n0_;have HB:=n1_;clear n0_ n1_;(try clear hb);(try clear hb2);(try clear hk);(try clear hi))|((with_reducible refine gate_callee (f:=12) rfl ?_);refine goesL_ (some 58) rfl rfl Try.func12 (by kernel_rfl) rfl #[.slice Ao37 x10_1.length co37,.int .i64 (wrap64 (a1)),.int .i64 (wrap64 (a2))] rfl (by (try simp only [List.map_toArray,List.map_cons,List.map_nil]);first|done|rfl|(simp only [List.length_drop,List.length_take];rfl)) ?_;(with_reducible refine (span_Parts.calls _ _ x10_1 (wrap64 (a1)) (wrap64 (a2)) t139 _ ?side1 ?side2 A18.out).mono ?_);(case side1=>repeat (first|exact (Kd.R_reads' HO_10.out).2.2|(with_reducible refine Kd.C_alloc ?_ _)|(with_reducible refine Kd.C_drewN ?_ _)|(with_reducible refine Kd.C_drew ?_)));(case side2=>exact (Kd.R_reads' HO_10.out).2.1);rintro e w39 ⟨v140,rfl,ho0,hb⟩;refine ⟨_,rfl,?_⟩;have n0_:=Aside0.mk (Kd.R_below (by (with_reducible repeat (first|apply R_alloc|apply R_drewN|apply R_drew));exact HO_10.out) hb);have n1_:=Aside0.mk (Kd.R_lower ho0 (below_size (by repeat (first|(with_reducible first|exact HB.out|apply below_alloc|apply pw_below_drewN|apply below_drew1)|exact HB.out))));have n2_:=Aside0.mk (below_step (by repeat (first|(with_reducible first|exact HB.out|apply below_alloc|apply pw_below_drewN|apply below_drew1)|exact HB.out)) hb);clear HO_10;clear HB;have HO_10:=n0_;have HO141:=n1_;have HB:=n2_;clear n0_ n1_ n2_;(try clear hb);(try clear hb2);(try clear hk);(try clear hi);(try clear ho0))|((with_reducible refine gate_callee (f:=12) rfl ?_);refine goesL_ (some 62) rfl rfl Try.func12 (by kernel_rfl) rfl #[.slice Ao37 x10_1.length co37,.int .i64 (wrap64 (a1)),.int .i64 (Int.tmod (wrap64 (a3)) (wrap64 ((wrap64 (a2))+1)))] rfl (by (try simp only [List.map_toArray,List.map_cons,List.map_nil]);first|done|rfl|(simp only [List.length_drop,List.length_take];rfl)) ?_;(with_reducible refine (span_Parts.calls _ _ x10_1 (wrap64 (a1)) (Int.tmod (wrap64 (a3)) (wrap64 ((wrap64 (a2))+1))) t142 _ ?side1 ?side2 A19.out).mono ?_);(case side1=>repeat (first|exact (Kd.R_reads' HO_10.out).2.2|(with_reducible refine Kd.C_alloc ?_ _)|(with_reducible refine Kd.C_drewN ?_ _)|(with_reducible refine Kd.C_drew ?_)));(case side2=>exact (Kd.R_reads' HO_10.out).2.1);rintro e w40 ⟨v143,rfl,ho0,hb⟩;refine ⟨_,rfl,?_⟩;have n0_:=Aside0.mk (Kd.R_below (by (with_reducible repeat (first|apply R_alloc|apply R_drewN|apply R_drew));exact HO_10.out) hb);have n1_:=Aside0.mk (Kd.R_elder' (by (with_reducible repeat (first|apply R_alloc|apply R_drewN|apply R_drew));exact HO141.out) (Kd.R_base ho0) hb);have n2_:=Aside0.mk (Kd.R_lower (Kd.R_new' ho0 (Kd.R_lt (by (with_reducible repeat (first|apply R_alloc|apply R_drewN|apply R_drew));exact HO141.out))) (below_size (by repeat (first|(with_reducible first|exact HB.out|apply below_alloc|apply pw_below_drewN|apply below_drew1)|exact HB.out))));have n3_:=Aside0.mk (below_step (by repeat (first|(with_reducible first|exact HB.out|apply below_alloc|apply pw_below_drewN|apply below_drew1)|exact HB.out)) hb);clear HO_10;clear HO141;clear HB;have HO_10:=n0_;have HO141:=n1_;have HO144:=n2_;have HB:=n3_;clear n0_ n1_ n2_ n3_;(try clear hb);(try clear hb2);(try clear hk);(try clear hi);(try clear ho0))|((with_reducible refine gate_callee (f:=12) rfl ?_);refine goesL_ (some 70) rfl rfl Try.func12 (by kernel_rfl) rfl #[.slice Ao37 x10_1.length co37,.int .i64 (wrap64 ((wrap64 (a1))+(Int.tmod (wrap64 (a3)) (wrap64 ((wrap64 (a2))+1))))),.int .i64 (wrap64 ((wrap64 (a2)) - (Int.tmod (wrap64 (a3)) (wrap64 ((wrap64 (a2))+1)))))] rfl (by (try simp only [List.map_toArray,List.map_cons,List.map_nil]);first|done|rfl|(simp only [List.length_drop,List.length_take];rfl)) ?_;(with_reducible refine (span_Parts.calls _ _ x10_1 (wrap64 ((wrap64 (a1))+(Int.tmod (wrap64 (a3)) (wrap64 ((wrap64 (a2))+1))))) (wrap64 ((wrap64 (a2)) - (Int.tmod (wrap64 (a3)) (wrap64 ((wrap64 (a2))+1))))) t145 _ ?side1 ?side2 A20.out).mono ?_);(case side1=>repeat (first|exact (Kd.R_reads' HO_10.out).2.2|(with_reducible refine Kd.C_alloc ?_ _)|(with_reducible refine Kd.C_drewN ?_ _)|(with_reducible refine Kd.C_drew ?_)));(case side2=>exact (Kd.R_reads' HO_10.out).2.1);rintro e w41 ⟨v146,rfl,ho0,hb⟩;refine ⟨_,rfl,?_⟩;have n0_:=Aside0.mk (Kd.R_below (by (with_reducible repeat (first|apply R_alloc|apply R_drewN|apply R_drew));exact HO_10.out) hb);have n1_:=Aside0.mk (Kd.R_elder' (by (with_reducible repeat (first|apply R_alloc|apply R_drewN|apply R_drew));exact HO141.out) (Kd.R_base ho0) hb);have n2_:=Aside0.mk (Kd.R_elder' (by (with_reducible repeat (first|apply R_alloc|apply R_drewN|apply R_drew));exact HO144.out) (Kd.R_base ho0) hb);have n3_:=Aside0.mk (Kd.R_lower (Kd.R_new' (Kd.R_new' ho0 (Kd.R_lt (by (with_reducible repeat (first|apply R_alloc|apply R_drewN|apply R_drew));exact HO141.out))) (Kd.R_lt (by (with_reducible repeat (first|apply R_alloc|apply R_drewN|apply R_drew));exact HO144.out))) (below_size (by repeat (first|(with_reducible first|exact HB.out|apply below_alloc|apply pw_below_drewN|apply below_drew1)|exact HB.out))));have n4_:=Aside0.mk (below_step (by repeat (first|(with_reducible first|exact HB.out|apply below_alloc|apply pw_below_drewN|apply below_drew1)|exact HB.out)) hb);clear HO_10;clear HO141;clear HO144;clear HB;have HO_10:=n0_;have HO141:=n1_;have HO144:=n2_;have HO147:=n3_;have HB:=n4_;clear n0_ n1_ n2_ n3_ n4_;(try clear hb);(try clear hb2);(try clear hk);(try clear hi);(try clear ho0))|((with_reducible refine gate_dst (N:=71) rfl ?_);(try (refine gate_guard (by rfl) ?_;dsimp only));refine Kd.R_lit k34 _ 34 ?hg (N:=71) ?hd (xs:=([]:List (S34))) (inner:=[]) (ok:=fun _=>True) (okp:=fun _=>True) ?hr ?hp (fun _ hk=>hk) trivial (Below.refl _ _) (Nat.le_refl _) (by simp) ?_;(case hd=>rfl);(case hg=>rfl);(case hr=>first|(go_simp;done)|(go_simp;rfl));(case hp=>exact (Reps.none _ _));intro v149 w42 ho43 hb hg_ hnew_;clear hg_ hnew_;(first|rw [← Ny148.out] at ho43|(simp only [Int.reduceToNat] at ho43;rw [← Ny148.out] at ho43));have n0_:=Aside0.mk (Kd.R_below (by (with_reducible repeat (first|apply R_alloc|apply R_drewN|apply R_drew));exact HO_10.out) hb);have n1_:=Aside0.mk (Kd.R_elder' (by (with_reducible repeat (first|apply R_alloc|apply R_drewN|apply R_drew));exact HO141.out) (Kd.R_base ho43) hb);have n2_:=Aside0.mk (Kd.R_elder' (by (with_reducible repeat (first|apply R_alloc|apply R_drewN|apply R_drew));exact HO144.out) (Kd.R_base ho43) hb);have n3_:=Aside0.mk (Kd.R_elder' (by (with_reducible repeat (first|apply R_alloc|apply R_drewN|apply R_drew));exact HO147.out) (Kd.R_base ho43) hb);have n4_:=Aside0.mk (Kd.R_lower (Kd.R_new' (Kd.R_new' (Kd.R_new' ho43 (Kd.R_lt (by (with_reducible repeat (first|apply R_alloc|apply R_drewN|apply R_drew));exact HO141.out))) (Kd.R_lt (by (with_reducible repeat (first|apply R_alloc|apply R_drewN|apply R_drew));exact HO144.out))) (Kd.R_lt (by (with_reducible repeat (first|apply R_alloc|apply R_drewN|apply R_drew));exact HO147.out))) (below_size (by repeat (first|(with_reducible first|exact HB.out|apply below_alloc|apply pw_below_drewN|apply below_drew1)|exact HB.out))));have n5_:=Aside0.mk (below_step (by repeat (first|(with_reducible first|exact HB.out|apply below_alloc|apply pw_below_drewN|apply below_drew1)|exact HB.out)) hb);clear HO_10;clear HO141;clear HO144;clear HO147;clear HB;have HO_10:=n0_;have HO141:=n1_;have HO144:=n2_;have HO147:=n3_;have HO150:=n4_;have HB:=n5_;clear n0_ n1_ n2_ n3_ n4_ n5_;clear hb ho43;obtain ⟨Ao45,co45,eo45⟩:=Kd.R_slice HO144.out;subst eo45)|((with_reducible refine gate_builtin (b:=.append) (xs:=#[.tmp 71,.tmp 72]) rfl ?_);(try (refine gate_guard (by rfl) ?_;dsimp only));at_builtin;refine Kd.R_append_rows k34 (w0:=w) w.heap.size rfl (.tmp 71) (.tmp 72) 27 34 (.agg #[(.int .i64 0),(.int .i64 0),(.int .i64 0)]) 24 rfl Try.underlying27 info34 rfl (by decide) (by omega) v149 y148 t142 _ _ _ (fun k_=>some k_ ≠ (v140:Value).ownBlock∧some k_ ≠ (.slice Ao45 t142.length co45:Value).ownBlock∧some k_ ≠ (v146:Value).ownBlock) (fun _=>False) rfl rfl ?aO ?aR (fun _ _ h=>h) (fun _ h=>h.elim) ?aF ?aB ?aS ?aL ?_;(case aR=>repeat (first|exact (Kd.R_reads' HO144.out).2.2|(with_reducible refine Kd.C_alloc ?_ _)|(with_reducible refine Kd.C_drewN ?_ _)|(with_reducible refine Kd.C_drew ?_)));(case aB=>exact (by repeat (first|(with_reducible first|exact HB.out|apply below_alloc|apply pw_below_drewN|apply below_drew1)|exact HB.out)));(case aF=>exact (fun k_ hk=>⟨Kd.fresh' (Kd.R_lt (by (with_reducible repeat (first|apply R_alloc|apply R_drewN|apply R_drew));exact HO141.out)) k_ hk,Kd.fresh' (Kd.R_lt (by (with_reducible repeat (first|apply R_alloc|apply R_drewN|apply R_drew));exact HO144.out)) k_ hk,Kd.fresh' (Kd.R_lt (by (with_reducible repeat (first|apply R_alloc|apply R_drewN|apply R_drew));exact HO147.out)) k_ hk⟩));(case aO=>exact (by (with_reducible repeat (first|apply R_alloc|apply R_drewN|apply R_drew));exact Kd.R_mono HO150.out (fun _ hk=>⟨hk.1.1.2,⟨hk.1.2,hk.2⟩⟩)));(case aS=>exact (below_size (by repeat (first|(with_reducible first|exact HB.out|apply below_alloc|apply pw_below_drewN|apply below_drew1)|exact HB.out))));(case aL=>have:=LMc21.out;omega);intro v152 w44 ho hb hg hat;rw [← Ny151.out] at ho;have n0_:=Aside0.mk (Kd.R_over' (by (with_reducible repeat (first|apply R_alloc|apply R_drewN|apply R_drew));exact HO_10.out) (Kd.R_typed (by (with_reducible repeat (first|apply R_alloc|apply R_drewN|apply R_drew));exact HO150.out)) (by decide) hg);have n1_:=Aside0.mk (Kd.R_after (ok:=(fun k_=>some k_ ≠ (.slice Ao45 t142.length co45:Value).ownBlock∧some k_ ≠ (v146:Value).ownBlock)) (by (with_reducible repeat (first|apply R_alloc|apply R_drewN|apply R_drew));exact Kd.R_mono HO141.out (fun _ hk=>⟨⟨hk.1.1.2,hk.1.2⟩,hk.2⟩)) hg hat);have n2_:=Aside0.mk (Kd.R_after (ok:=(fun k_=>some k_ ≠ (v140:Value).ownBlock∧some k_ ≠ (v146:Value).ownBlock)) (by (with_reducible repeat (first|apply R_alloc|apply R_drewN|apply R_drew));exact Kd.R_mono HO144.out (fun _ hk=>⟨⟨hk.1.1.2,hk.1.2⟩,hk.2⟩)) hg hat);have n3_:=Aside0.mk (Kd.R_after (ok:=(fun k_=>some k_ ≠ (v140:Value).ownBlock∧some k_ ≠ (.slice Ao45 t142.length co45:Value).ownBlock)) (by (with_reducible repeat (first|apply R_alloc|apply R_drewN|apply R_drew));exact Kd.R_mono HO147.out (fun _ hk=>⟨⟨hk.1.1.2,hk.1.2⟩,hk.2⟩)) hg hat);have n4_:=Aside0.mk (hb);have n5_:=Aside0.mk (ho);clear HO_10;clear HO141;clear HO144;clear HO147;clear HB;clear HO150;have HO_10:=n0_;have HO141:=n1_;have HO144:=n2_;have HO147:=n3_;have HB:=n4_;have HO153:=n5_;clear n0_ n1_ n2_ n3_ n4_ n5_;clear ho hb hg hat;obtain ⟨Ao47,co47,eo47⟩:=Kd.R_slice HO147.out;subst eo47)|((with_reducible refine gate_builtin (b:=.append) (xs:=#[.tmp 73,.tmp 74]) rfl ?_);(try (refine gate_guard (by rfl) ?_;dsimp only));at_builtin;refine Kd.R_append_rows k34 (w0:=w) w.heap.size rfl (.tmp 73) (.tmp 74) 27 34 (.agg #[(.int .i64 0),(.int .i64 0),(.int .i64 0)]) 24 rfl Try.underlying27 info34 rfl (by decide) (by omega) v152 y151 t145 _ _ _ (fun k_=>some k_ ≠ (v140:Value).ownBlock∧some k_ ≠ (.slice Ao45 t142.length co45:Value).ownBlock∧some k_ ≠ (.slice Ao47 t145.length co47:Value).ownBlock) (fun _=>False) rfl rfl ?aO ?aR (fun _ _ h=>h) (fun _ h=>h.elim) ?aF ?aB ?aS ?aL ?_;(case aR=>repeat (first|exact (Kd.R_reads' HO147.out).2.2|(with_reducible refine Kd.C_alloc ?_ _)|(with_reducible refine Kd.C_drewN ?_ _)|(with_reducible refine Kd.C_drew ?_)));(case aB=>exact (by repeat (first|(with_reducible first|exact HB.out|apply below_alloc|apply pw_below_drewN|apply below_drew1)|exact HB.out)));(case aF=>exact (fun k_ hk=>⟨Kd.fresh' (Kd.R_lt (by (with_reducible repeat (first|apply R_alloc|apply R_drewN|apply R_drew));exact HO141.out)) k_ hk,Kd.fresh' (Kd.R_lt (by (with_reducible repeat (first|apply R_alloc|apply R_drewN|apply R_drew));exact HO144.out)) k_ hk,Kd.fresh' (Kd.R_lt (by (with_reducible repeat (first|apply R_alloc|apply R_drewN|apply R_drew));exact HO147.out)) k_ hk⟩));(case aO=>exact (by (with_reducible repeat (first|apply R_alloc|apply R_drewN|apply R_drew));exact HO153.out));(case aS=>exact (below_size (by repeat (first|(with_reducible first|exact HB.out|apply below_alloc|apply pw_below_drewN|apply below_drew1)|exact HB.out))));(case aL=>have:=LMc22.out;omega);intro v155 w46 ho hb hg hat;rw [← Ny154.out] at ho;have n0_:=Aside0.mk (Kd.R_over' (by (with_reducible repeat (first|apply R_alloc|apply R_drewN|apply R_drew));exact HO_10.out) (Kd.R_typed (by (with_reducible repeat (first|apply R_alloc|apply R_drewN|apply R_drew));exact HO153.out)) (by decide) hg);have n1_:=Aside0.mk (Kd.R_after (ok:=(fun k_=>some k_ ≠ (.slice Ao45 t142.length co45:Value).ownBlock∧some k_ ≠ (.slice Ao47 t145.length co47:Value).ownBlock)) (by (with_reducible repeat (first|apply R_alloc|apply R_drewN|apply R_drew));exact HO141.out) hg hat);have n2_:=Aside0.mk (Kd.R_after (ok:=(fun k_=>some k_ ≠ (v140:Value).ownBlock∧some k_ ≠ (.slice Ao47 t145.length co47:Value).ownBlock)) (by (with_reducible repeat (first|apply R_alloc|apply R_drewN|apply R_drew));exact HO144.out) hg hat);have n3_:=Aside0.mk (Kd.R_after (ok:=(fun k_=>some k_ ≠ (v140:Value).ownBlock∧some k_ ≠ (.slice Ao45 t142.length co45:Value).ownBlock)) (by (with_reducible repeat (first|apply R_alloc|apply R_drewN|apply R_drew));exact HO147.out) hg hat);have n4_:=Aside0.mk (hb);have n5_:=Aside0.mk (ho);clear HO_10;clear HO141;clear HO144;clear HO147;clear HB;clear HO153;have HO_10:=n0_;have HO141:=n1_;have HO144:=n2_;have HO147:=n3_;have HB:=n4_;have HO156:=n5_;clear n0_ n1_ n2_ n3_ n4_ n5_;clear ho hb hg hat))
                    have n0_:=Aside0.mk (Kd.R_drew HO_10.out)
                    have n1_:=Aside0.mk (Kd.R_drew HO141.out)
                    have n2_:=Aside0.mk (Kd.R_drew HO144.out)
                    have n3_:=Aside0.mk (Kd.R_drew HO147.out)
                    have n4_:=Aside0.mk (Kd.R_drew HO156.out)
                    have n5_:=Aside0.mk (below_drew1 HB.out)
                    clear HO_10
                    clear HO141
                    clear HO144
                    clear HO147
                    clear HO156
                    clear HB
                    have HO_10:=n0_
                    have HO141:=n1_
                    have HO144:=n2_
                    have HO147:=n3_
                    have HO156:=n4_
                    have HB:=n5_
                    clear n0_ n1_ n2_ n3_ n4_ n5_
                    have p157:0≤((ji25):Int):=of_decide_eq_true (by first|(with_reducible assumption)|assumption)
                    have q157:(ji25)<(t142.length:Int):=of_decide_eq_true (by first|(with_reducible assumption)|assumption)
                    obtain ⟨ad157,e157,hx157_0,hx157_1,hx157_2⟩:=at_T34 (Kd.R_reads' HO144.out).2.2 (ji25) p157 q157
                    cases e157
                    replace p157:=eq_true p157
                    replace q157:=eq_true q157
                    have p158:0≤(0:Int):=(by omega)
                    have q158:0<(t145.length:Int):=of_decide_eq_true (by first|(with_reducible assumption)|assumption)
                    obtain ⟨ad158,e158,hx158_0,hx158_1,hx158_2⟩:=at_T34 (Kd.R_reads' HO147.out).2.2 0 p158 q158
                    cases e158
                    have qi158:(0<t145.length)=True:=eq_true (by omega)
                    (try rw [show ((0:Int)).toNat=0 from rfl] at hx158_0)
                    (try rw [show 0 * 3=0 from rfl] at hx158_0)
                    (try rw [Addr.add_zero'] at hx158_0)
                    (try rw [show ((0:Int)).toNat=0 from rfl] at hx158_1)
                    (try rw [show 0 * 3=0 from rfl] at hx158_1)
                    (try rw [Addr.add_zero'] at hx158_1)
                    (try rw [show ((0:Int)).toNat=0 from rfl] at hx158_2)
                    (try rw [show 0 * 3=0 from rfl] at hx158_2)
                    (try rw [Addr.add_zero'] at hx158_2)
                    replace p158:=eq_true p158
                    replace q158:=eq_true q158
                    refine start_ (n:=22) (S:=fun w'=>w'.cell? (ad157.add (((ji25)).toNat * 3))=some (.int .i64 ((rd_T34 t142 (ji25)).f0))∧w'.cell? ⟨(ad157.add (((ji25)).toNat * 3)).block,(ad157.add (((ji25)).toNat * 3)).off+1,none⟩=some (.int .i64 ((rd_T34 t142 (ji25)).f1))∧w'.cell? ⟨(ad157.add (((ji25)).toNat * 3)).block,(ad157.add (((ji25)).toNat * 3)).off+2,none⟩=some (.int .i64 ((rd_T34 t142 (ji25)).f2))∧w'.cell? ad158=some (.int .i64 ((rd_T34 t145 0).f0))∧w'.cell? ⟨ad158.block,ad158.off+1,none⟩=some (.int .i64 ((rd_T34 t145 0).f1))∧w'.cell? ⟨ad158.block,ad158.off+2,none⟩=some (.int .i64 ((rd_T34 t145 0).f2))) (ds:=[]) #[z_,z_,z_,z_,z_,z_,z_,z_,z_,z_,z_,z_,z_,z_,z_,z_,z_,z_,z_,z_,z_,z_] (by kernel_rfl) rfl rfl ⟨hx157_0,hx157_1,hx157_2,hx158_0,hx158_1,hx158_2⟩ (fun hHeld=>?_);refine with_tabW souterrainlaw07_SpanParted.tab18 souterrainlaw07_SpanParted.bits18 (fun HT_ HW_=>?_)
                    generalize w46.drew=w48 at HO_10 HO141 HO144 HO147 HO156 HB hx157_0 hx157_1 hx157_2 hx158_0 hx158_1 hx158_2 hHeld ⊢
                    refine pure_ (i:=0) (N:=some 76) (v:=?_) (a':=?_) #[y_,z_,z_,z_,z_,z_,z_,z_,z_,z_,z_,z_,z_,z_,z_,z_,z_,z_,z_,z_,z_,z_] rfl rfl (any_of HT_.out (by kernel_rfl)) (fun _ _ _ h=>h) (Or.inl ⟨by rfl,?_⟩) ?_ ?_
                    rotate_left;(intro w';go_simp;with_reducible rfl);rotate_left;(simp only [Act.put,q1_,q2_,q3_,i64_w,i32_w];rfl)
                    refine pure_ (i:=1) (N:=some 77) (v:=?_) (a':=?_) #[y_,y_,z_,z_,z_,z_,z_,z_,z_,z_,z_,z_,z_,z_,z_,z_,z_,z_,z_,z_,z_,z_] rfl rfl (any_of HT_.out (by kernel_rfl)) (fun _ _ _ h=>h) (Or.inl ⟨by rfl,?_⟩) ?_ ?_
                    rotate_left;(intro w';go_simp;with_reducible rfl);rotate_left;(simp only [Act.put,q1_,q2_,q3_,i64_w,i32_w];rfl)
                    refine pure_ (i:=2) (N:=some 78) (v:=?_) (a':=?_) #[y_,y_,y_,z_,z_,z_,z_,z_,z_,z_,z_,z_,z_,z_,z_,z_,z_,z_,z_,z_,z_,z_] rfl rfl (any_of HT_.out (by kernel_rfl)) (fun _ _ _ h=>h) (Or.inl ⟨by rfl,?_⟩) ?_ ?_
                    rotate_left;(intro w';go_simp;with_reducible rfl);rotate_left;(simp only [Act.put,q1_,q2_,q3_,i64_w,i32_w];rfl)
                    refine pure_ (i:=3) (N:=some 79) (v:=?_) (a':=?_) #[y_,y_,y_,y_,z_,z_,z_,z_,z_,z_,z_,z_,z_,z_,z_,z_,z_,z_,z_,z_,z_,z_] rfl rfl (any_of HT_.out (by kernel_rfl)) (fun _ _ _ h=>h) (Or.inl ⟨by rfl,?_⟩) ?_ ?_
                    rotate_left;(intro w';go_simp;with_reducible rfl);rotate_left;(simp only [Act.put,q1_,q2_,q3_,i64_w,i32_w];rfl)
                    refine pure_ (i:=4) (N:=some 80) (v:=?_) (a':=?_) #[y_,y_,y_,y_,y_,z_,z_,z_,z_,z_,z_,z_,z_,z_,z_,z_,z_,z_,z_,z_,z_,z_] rfl rfl (any_of HT_.out (by kernel_rfl)) (fun _ _ _ h=>h) (Or.inl ⟨by rfl,?_⟩) ?_ ?_
                    rotate_left;(intro w';go_simp;with_reducible rfl);rotate_left;(simp only [Act.put,q1_,q2_,q3_,i64_w,i32_w];rfl)
                    refine pure_ (i:=5) (N:=some 81) (v:=?_) (a':=?_) #[y_,y_,y_,y_,y_,y_,z_,z_,z_,z_,z_,z_,z_,z_,z_,z_,z_,z_,z_,z_,z_,z_] rfl rfl (any_of HT_.out (by kernel_rfl)) (fun _ _ _ h=>h) (Or.inl ⟨by rfl,?_⟩) ?_ ?_
                    rotate_left;(intro w';go_simp;with_reducible rfl);rotate_left;(simp only [Act.put,q1_,q2_,q3_,i64_w,i32_w];rfl)
                    refine pure_ (i:=6) (N:=some 82) (v:=?_) (a':=?_) #[y_,y_,y_,y_,y_,y_,y_,z_,z_,z_,z_,z_,z_,z_,z_,z_,z_,z_,z_,z_,z_,z_] rfl rfl (any_of HT_.out (by kernel_rfl)) (fun _ _ _ h=>h) (Or.inl ⟨by rfl,?_⟩) ?_ ?_
                    rotate_left;(intro w';go_simp;with_reducible rfl);rotate_left;(simp only [Act.put,q1_,q2_,q3_,i64_w,i32_w];rfl)
                    refine pure_ (i:=7) (N:=some 83) (v:=?_) (a':=?_) #[y_,y_,y_,y_,y_,y_,y_,y_,z_,z_,z_,z_,z_,z_,z_,z_,z_,z_,z_,z_,z_,z_] rfl rfl (any_of HT_.out (by kernel_rfl)) (fun _ _ _ h=>h) (Or.inl ⟨by rfl,?_⟩) ?_ ?_
                    rotate_left;(intro w';go_simp;with_reducible rfl);rotate_left;(simp only [Act.put,q1_,q2_,q3_,i64_w,i32_w];rfl)
                    refine pure_ (i:=8) (N:=some 84) (v:=?_) (a':=?_) #[y_,y_,y_,y_,y_,y_,y_,y_,y_,z_,z_,z_,z_,z_,z_,z_,z_,z_,z_,z_,z_,z_] rfl rfl (any_of HT_.out (by kernel_rfl)) (fun _ _ _ h=>h) (Or.inl ⟨by rfl,?_⟩) ?_ ?_
                    rotate_left;(intro w';go_simp;with_reducible rfl);rotate_left;(simp only [Act.put,q1_,q2_,q3_,i64_w,i32_w];rfl)
                    refine pure_ (i:=9) (N:=some 85) (v:=?_) (a':=?_) #[y_,y_,y_,y_,y_,y_,y_,y_,y_,y_,z_,z_,z_,z_,z_,z_,z_,z_,z_,z_,z_,z_] rfl rfl (any_of HT_.out (by kernel_rfl)) (fun _ _ _ h=>h) (Or.inl ⟨by rfl,?_⟩) ?_ ?_
                    rotate_left;(intro w';go_simp;with_reducible rfl);rotate_left;(simp only [Act.put,q1_,q2_,q3_,i64_w,i32_w];rfl)
                    refine pure_ (i:=10) (N:=some 86) (v:=?_) (a':=?_) #[y_,y_,y_,y_,y_,y_,y_,y_,y_,y_,y_,z_,z_,z_,z_,z_,z_,z_,z_,z_,z_,z_] rfl rfl (any_of HT_.out (by kernel_rfl)) (fun _ _ _ h=>h) (Or.inl ⟨by rfl,?_⟩) ?_ ?_
                    rotate_left;(intro w';go_simp;with_reducible rfl);rotate_left;(simp only [Act.put,q1_,q2_,q3_,i64_w,i32_w];rfl)
                    refine pure_ (i:=11) (N:=some 87) (v:=?_) (a':=?_) #[y_,y_,y_,y_,y_,y_,y_,y_,y_,y_,y_,y_,z_,z_,z_,z_,z_,z_,z_,z_,z_,z_] rfl rfl (any_of HT_.out (by kernel_rfl)) (fun _ _ _ h=>h) (Or.inl ⟨by rfl,?_⟩) ?_ ?_
                    rotate_left;(intro w';go_simp;with_reducible rfl);rotate_left;(simp only [Act.put,q1_,q2_,q3_,i64_w,i32_w];rfl)
                    refine pure_ (i:=12) (N:=some 88) (v:=?_) (a':=?_) #[y_,y_,y_,y_,y_,y_,y_,y_,y_,y_,y_,y_,y_,z_,z_,z_,z_,z_,z_,z_,z_,z_] rfl rfl (any_of HT_.out (by kernel_rfl)) (fun _ _ _ h=>h) (Or.inl ⟨by rfl,?_⟩) ?_ ?_
                    rotate_left;(intro w';go_simp;with_reducible rfl);rotate_left;(simp only [Act.put,q1_,q2_,q3_,i64_w,i32_w];rfl)
                    refine pure_ (i:=13) (N:=some 89) (v:=?_) (a':=?_) #[y_,y_,y_,y_,y_,y_,y_,y_,y_,y_,y_,y_,y_,y_,z_,z_,z_,z_,z_,z_,z_,z_] rfl rfl (any_of HT_.out (by kernel_rfl)) (fun _ _ _ h=>h) (Or.inl ⟨by rfl,?_⟩) ?_ ?_
                    rotate_left;(intro w';go_simp;with_reducible rfl);rotate_left;(simp only [Act.put,q1_,q2_,q3_,i64_w,i32_w];rfl)
                    refine pure_ (i:=14) (N:=some 90) (v:=?_) (a':=?_) #[y_,y_,y_,y_,y_,y_,y_,y_,y_,y_,y_,y_,y_,y_,y_,z_,z_,z_,z_,z_,z_,z_] rfl rfl (any_of HT_.out (by kernel_rfl)) (fun _ _ _ h=>h) (Or.inl ⟨by rfl,?_⟩) ?_ ?_
                    rotate_left;(intro w';go_simp;with_reducible rfl);rotate_left;(simp only [Act.put,q1_,q2_,q3_,i64_w,i32_w];rfl)
                    refine pure_ (i:=16) (N:=some 92) (v:=?_) (a':=?_) #[y_,y_,y_,y_,y_,y_,y_,y_,y_,y_,y_,y_,y_,y_,y_,z_,y_,z_,z_,z_,z_,z_] rfl rfl (any_of HT_.out (by kernel_rfl)) (fun _ _ _ h=>h) (Or.inl ⟨by rfl,?_⟩) ?_ ?_
                    rotate_left;(intro w';go_simp;with_reducible rfl);rotate_left;(simp only [Act.put,q1_,q2_,q3_,i64_w,i32_w];rfl)
                    refine pure_ (i:=17) (N:=some 93) (v:=?_) (a':=?_) #[y_,y_,y_,y_,y_,y_,y_,y_,y_,y_,y_,y_,y_,y_,y_,z_,y_,y_,z_,z_,z_,z_] rfl rfl (any_of HT_.out (by kernel_rfl)) (fun _ _ _ h=>h) (Or.inl ⟨by rfl,?_⟩) ?_ ?_
                    rotate_left;(intro w';go_simp;with_reducible rfl);rotate_left;(simp only [Act.put,q1_,q2_,q3_,i64_w,i32_w];rfl)
                    refine pure_ (i:=18) (N:=some 94) (v:=?_) (a':=?_) #[y_,y_,y_,y_,y_,y_,y_,y_,y_,y_,y_,y_,y_,y_,y_,z_,y_,y_,y_,z_,z_,z_] rfl rfl (any_of HT_.out (by kernel_rfl)) (fun _ _ _ h=>h) (Or.inl ⟨by rfl,?_⟩) ?_ ?_
                    rotate_left;(intro w';go_simp;with_reducible rfl);rotate_left;(simp only [Act.put,q1_,q2_,q3_,i64_w,i32_w];rfl)
                    refine take_ (i:=15) (N:=some 91) (v:=?_) (a':=?_) #[y_,y_,y_,y_,y_,y_,y_,y_,y_,y_,y_,y_,y_,y_,y_,y_,y_,y_,y_,z_,z_,z_] rfl rfl (take_ofW HT_.out HW_.out (by kernel_rfl)) (fun _ _ _ h=>h) (Or.inl ⟨by rfl,?_⟩) hHeld ?_ ?_
                    rotate_left;(rintro w' ⟨s0,s1,s2,s3,s4,s5⟩;go_simp;with_reducible rfl);rotate_left;(simp only [Act.put,q1_,q2_,q3_,i64_w,i32_w];rfl)
                    refine take_ (i:=19) (N:=some 95) (v:=?_) (a':=?_) #[y_,y_,y_,y_,y_,y_,y_,y_,y_,y_,y_,y_,y_,y_,y_,y_,y_,y_,y_,y_,z_,z_] rfl rfl (take_ofW HT_.out HW_.out (by kernel_rfl)) (fun _ _ _ h=>h) (Or.inl ⟨by rfl,?_⟩) hHeld ?_ ?_
                    rotate_left;(rintro w' ⟨s0,s1,s2,s3,s4,s5⟩;go_simp;with_reducible rfl);rotate_left;(simp only [Act.put,q1_,q2_,q3_,i64_w,i32_w];rfl)
                    refine pure_ (i:=20) (N:=some 96) (v:=?_) (a':=?_) #[y_,y_,y_,y_,y_,y_,y_,y_,y_,y_,y_,y_,y_,y_,y_,y_,y_,y_,y_,y_,y_,z_] rfl rfl (any_of HT_.out (by kernel_rfl)) (fun _ _ _ h=>h) (Or.inl ⟨by rfl,?_⟩) ?_ ?_
                    rotate_left;(intro w';go_simp;with_reducible rfl);rotate_left;(simp only [Act.put,q1_,q2_,q3_,i64_w,i32_w];rfl)
                    refine pure_ (i:=21) (N:=some 97) (v:=?_) (a':=?_) #[y_,y_,y_,y_,y_,y_,y_,y_,y_,y_,y_,y_,y_,y_,y_,y_,y_,y_,y_,y_,y_,y_] rfl rfl (any_of HT_.out (by kernel_rfl)) (fun _ _ _ h=>h) (Or.inl ⟨by rfl,?_⟩) ?_ ?_
                    rotate_left;(intro w';go_simp;with_reducible rfl);rotate_left;(simp only [Act.put,q1_,q2_,q3_,i64_w,i32_w];rfl)
                    refine done_ (done_of HT_.out (by kernel_rfl)) ?_
                    try go_wp2
                    have n0_:=Aside0.mk (Kd.R_drew HO_10.out)
                    have n1_:=Aside0.mk (Kd.R_drew HO141.out)
                    have n2_:=Aside0.mk (Kd.R_drew HO144.out)
                    have n3_:=Aside0.mk (Kd.R_drew HO147.out)
                    have n4_:=Aside0.mk (Kd.R_drew HO156.out)
                    have n5_:=Aside0.mk (below_drew1 HB.out)
                    clear HO_10
                    clear HO141
                    clear HO144
                    clear HO147
                    clear HO156
                    clear HB
                    have HO_10:=n0_
                    have HO141:=n1_
                    have HO144:=n2_
                    have HO147:=n3_
                    have HO156:=n4_
                    have HB:=n5_
                    clear n0_ n1_ n2_ n3_ n4_ n5_
                    have q50:(1:Int)≤((t145.length:Int):Int):=of_decide_eq_true (by first|(with_reducible assumption)|assumption)
                    obtain ⟨i050,hi050,_,hsz50,_⟩:=info_parts info34
                    have hroom50:t145.length≤co47:=(Kd.R_reads' HO147.out).2.1
                    have hC50:Kd.C k34 _ (some ad158) t145.length t145:=(Kd.R_reads' HO147.out).2.2
                    have hcut50:=cut_from (P:=Try.prog) 27 34 .i64 Try.underlying27 hi050 3 hsz50 (some ad158) t145.length co47 1 (by omega) q50
                    have hr50:=Kd.C_drop (m:=(1:Int).toNat) (c:=co47) hC50 (by omega) hroom50
                    obtain ⟨A50,hA50⟩:∃ A1,A1=(if co47=(1:Int).toNat then (some ad158) else ((some ad158):Option Addr).map (·.add ((1:Int).toNat * 3))):=⟨_,rfl⟩
                    obtain ⟨c50,hc50⟩:∃ c1,c1=co47 - (1:Int).toNat:=⟨_,rfl⟩
                    have hy50:y165.length=t145.length - (1:Int).toNat:=(by rw [Ny165.out,List.length_drop] <;> omega)
                    rw [show (t145).drop (1:Int).toNat=y165 from Ny165.out.symm] at hr50
                    replace hr50:Kd.C k34 _ A50 y165.length y165:=(by rw [hA50];exact hr50)
                    rw [← hy50,← hA50,← hc50] at hcut50
                    have HR168:=Aside0.mk hr50
                    have HC168:=Aside0.mk (show y165.length≤c50 from by rw [hy50,hc50];exact Nat.sub_le_sub_right hroom50 _)
                    clear hr50 hC50 hroom50 hi050 hsz50 hc50
                    have KY50:=Aside0.mk hy50
                    have KA50:=Aside0.mk hA50
                    clear hy50 hA50
                    have KL50:=Aside0.mk (show 1≤t145.length from by omega)
                    replace q50:=eq_true q50
                    refine start_ (n:=7) (S:=fun w'=>True) (ds:=[]) #[false,false,false,false,false,false,false] (by kernel_rfl) rfl rfl trivial (fun hHeld=>?_)
                    generalize w48.drew=w49 at HO_10 HO141 HO144 HO147 HO156 HB HR168 hHeld ⊢
                    refine pure_ (i:=1) (N:=some 99) (v:=?_) (a':=?_) #[false,true,false,false,false,false,false] rfl rfl (by kernel_rfl) (fun _ _ _ h=>h) (Or.inl ⟨by rfl,?_⟩) ?_ ?_
                    rotate_left;(intro w';go_simp;with_reducible rfl);rotate_left;(simp only [Act.put,q1_,q2_,q3_,i64_w,i32_w];rfl)
                    refine pure_ (i:=3) (N:=some 101) (v:=?_) (a':=?_) #[false,true,false,true,false,false,false] rfl rfl (by kernel_rfl) (fun _ _ _ h=>h) (Or.inl ⟨by rfl,?_⟩) ?_ ?_
                    rotate_left;(intro w';go_simp;with_reducible rfl);rotate_left;(simp only [Act.put,q1_,q2_,q3_,i64_w,i32_w];rfl)
                    refine pure_ (i:=4) (N:=some 102) (v:=?_) (a':=?_) #[false,true,false,true,true,false,false] rfl rfl (by kernel_rfl) (fun _ _ _ h=>h) (Or.inl ⟨by rfl,?_⟩) ?_ ?_
                    rotate_left;(intro w';go_simp;with_reducible rfl);rotate_left;(simp only [Act.put,q1_,q2_,q3_,i64_w,i32_w];rfl)
                    refine one_ (i:=0) (N:=some 98) #[true,true,false,true,true,false,false] rfl rfl (by kernel_rfl) (by decide) (fun K hK=>?_)
                    refine Kd.R_lit_step k34 _ 34 ?hg (N:=98) ?hd (xs:=([]:List (S34))) (inner:=[]) (ok:=fun _=>True) (okp:=fun _=>True) ?hr ?hp (fun _ hk=>hk) trivial (Below.refl _ _) (Nat.le_refl _) (by simp) ?_;(case hd=>rfl);(case hg=>rfl);(case hr=>first|(go_simp;done)|(go_simp;rfl));(case hp=>exact (Reps.none _ _))
                    intro v160 w51 ho52 hb hg_ hnew_
                    clear hg_ hnew_
                    (first|rw [← Ny159.out] at ho52|(simp only [Int.reduceToNat] at ho52;rw [← Ny159.out] at ho52))
                    have n0_:=Aside0.mk (Kd.R_below (by (with_reducible repeat (first|apply R_alloc|apply R_drewN|apply R_drew));exact HO_10.out) hb)
                    have n1_:=Aside0.mk (Kd.R_elder' (by (with_reducible repeat (first|apply R_alloc|apply R_drewN|apply R_drew));exact HO141.out) (Kd.R_base ho52) hb)
                    have n2_:=Aside0.mk (Kd.R_elder' (by (with_reducible repeat (first|apply R_alloc|apply R_drewN|apply R_drew));exact HO144.out) (Kd.R_base ho52) hb)
                    have n3_:=Aside0.mk (Kd.R_elder' (by (with_reducible repeat (first|apply R_alloc|apply R_drewN|apply R_drew));exact HO147.out) (Kd.R_base ho52) hb)
                    have n4_:=Aside0.mk (Kd.R_elder' (by (with_reducible repeat (first|apply R_alloc|apply R_drewN|apply R_drew));exact HO156.out) (Kd.R_base ho52) hb)
                    have n5_:=Aside0.mk (Kd.R_lower (Kd.R_new' (Kd.R_new' (Kd.R_new' (Kd.R_new' ho52 (Kd.R_lt (by (with_reducible repeat (first|apply R_alloc|apply R_drewN|apply R_drew));exact HO141.out))) (Kd.R_lt (by (with_reducible repeat (first|apply R_alloc|apply R_drewN|apply R_drew));exact HO144.out))) (Kd.R_lt (by (with_reducible repeat (first|apply R_alloc|apply R_drewN|apply R_drew));exact HO147.out))) (Kd.R_lt (by (with_reducible repeat (first|apply R_alloc|apply R_drewN|apply R_drew));exact HO156.out))) (below_size (by repeat (first|(with_reducible first|exact HB.out|apply below_alloc|apply pw_below_drewN|apply below_drew1)|exact HB.out))))
                    have n6_:=Aside0.mk (Kd.C_below (by repeat (first|(with_reducible exact HR168.out)|(with_reducible refine Kd.C_alloc ?_ _)|(with_reducible refine Kd.C_drewN ?_ _)|(with_reducible refine Kd.C_drew ?_)|exact HR168.out)) hb)
                    have n7_:=Aside0.mk (below_step (by repeat (first|(with_reducible first|exact HB.out|apply below_alloc|apply pw_below_drewN|apply below_drew1)|exact HB.out)) hb)
                    clear HO_10
                    clear HO141
                    clear HO144
                    clear HO147
                    clear HO156
                    clear HR168
                    clear HB
                    have HO_10:=n0_
                    have HO141:=n1_
                    have HO144:=n2_
                    have HO147:=n3_
                    have HO156:=n4_
                    have HO161:=n5_
                    have HR168:=n6_
                    have HB:=n7_
                    clear n0_ n1_ n2_ n3_ n4_ n5_ n6_ n7_
                    clear hb ho52
                    refine hK.out _ _ trivial (fun hHeld=>?_)
                    clear hK K
                    refine norm_ (a':=?_) ?_ ?_
                    rotate_left;(show Act.put _ (some 98) _=_;simp only [Act.put,q1_,q2_,q3_,i64_w,i32_w];rfl)
                    refine one_ (i:=2) (N:=some 100) #[true,true,true,true,true,false,false] rfl rfl (by kernel_rfl) (by decide) (fun K hK=>?_)
                    refine Kd.R_append_rows_step k34 (w0:=w) w.heap.size (by rfl) (.tmp 98) (.tmp 99) 27 34 (.agg #[(.int .i64 0),(.int .i64 0),(.int .i64 0)]) 24 rfl Try.underlying27 info34 rfl (by decide) (by omega) v160 y159 t142 _ _ _ (fun k_=>some k_ ≠ (v140:Value).ownBlock∧some k_ ≠ (.slice (some ad157) t142.length co45:Value).ownBlock∧some k_ ≠ (.slice (some ad158) t145.length co47:Value).ownBlock∧some k_ ≠ (v155:Value).ownBlock) (fun _=>False) rfl rfl ?aO ?aR (fun _ _ h=>h) (fun _ h=>h.elim) ?aF ?aB ?aS ?aL ?_
                    (case aR=>repeat (first|exact (Kd.R_reads' HO144.out).2.2|(with_reducible refine Kd.C_alloc ?_ _)|(with_reducible refine Kd.C_drewN ?_ _)|(with_reducible refine Kd.C_drew ?_)))
                    (case aB=>exact (by repeat (first|(with_reducible first|exact HB.out|apply below_alloc|apply pw_below_drewN|apply below_drew1)|exact HB.out)))
                    (case aF=>exact (fun k_ hk=>⟨Kd.fresh' (Kd.R_lt (by (with_reducible repeat (first|apply R_alloc|apply R_drewN|apply R_drew));exact HO141.out)) k_ hk,Kd.fresh' (Kd.R_lt (by (with_reducible repeat (first|apply R_alloc|apply R_drewN|apply R_drew));exact HO144.out)) k_ hk,Kd.fresh' (Kd.R_lt (by (with_reducible repeat (first|apply R_alloc|apply R_drewN|apply R_drew));exact HO147.out)) k_ hk,Kd.fresh' (Kd.R_lt (by (with_reducible repeat (first|apply R_alloc|apply R_drewN|apply R_drew));exact HO156.out)) k_ hk⟩))
                    (case aO=>exact (by (with_reducible repeat (first|apply R_alloc|apply R_drewN|apply R_drew));exact Kd.R_mono HO161.out (fun _ hk=>⟨hk.1.1.1.2,⟨hk.1.1.2,⟨hk.1.2,hk.2⟩⟩⟩)))
                    (case aS=>exact (below_size (by repeat (first|(with_reducible first|exact HB.out|apply below_alloc|apply pw_below_drewN|apply below_drew1)|exact HB.out))))
                    (case aL=>have:=LMc30.out;omega)
                    intro v163 w53 ho hb hg hat
                    rw [← Ny162.out] at ho
                    have n0_:=Aside0.mk (Kd.R_over' (by (with_reducible repeat (first|apply R_alloc|apply R_drewN|apply R_drew));exact HO_10.out) (Kd.R_typed (by (with_reducible repeat (first|apply R_alloc|apply R_drewN|apply R_drew));exact HO161.out)) (by decide) hg)
                    have n1_:=Aside0.mk (Kd.R_after (ok:=(fun k_=>some k_ ≠ (.slice (some ad157) t142.length co45:Value).ownBlock∧some k_ ≠ (.slice (some ad158) t145.length co47:Value).ownBlock∧some k_ ≠ (v155:Value).ownBlock)) (by (with_reducible repeat (first|apply R_alloc|apply R_drewN|apply R_drew));exact Kd.R_mono HO141.out (fun _ hk=>⟨⟨hk.1.1.1,⟨hk.1.1.2,hk.1.2⟩⟩,hk.2⟩)) hg hat)
                    have n2_:=Aside0.mk (Kd.R_after (ok:=(fun k_=>some k_ ≠ (v140:Value).ownBlock∧some k_ ≠ (.slice (some ad158) t145.length co47:Value).ownBlock∧some k_ ≠ (v155:Value).ownBlock)) (by (with_reducible repeat (first|apply R_alloc|apply R_drewN|apply R_drew));exact Kd.R_mono HO144.out (fun _ hk=>⟨⟨hk.1.1.1,⟨hk.1.1.2,hk.1.2⟩⟩,hk.2⟩)) hg hat)
                    have n3_:=Aside0.mk (Kd.R_after (ok:=(fun k_=>some k_ ≠ (v140:Value).ownBlock∧some k_ ≠ (.slice (some ad157) t142.length co45:Value).ownBlock∧some k_ ≠ (v155:Value).ownBlock)) (by (with_reducible repeat (first|apply R_alloc|apply R_drewN|apply R_drew));exact Kd.R_mono HO147.out (fun _ hk=>⟨⟨hk.1.1.1,⟨hk.1.1.2,hk.1.2⟩⟩,hk.2⟩)) hg hat)
                    have n4_:=Aside0.mk (Kd.R_after (ok:=(fun k_=>some k_ ≠ (v140:Value).ownBlock∧some k_ ≠ (.slice (some ad157) t142.length co45:Value).ownBlock∧some k_ ≠ (.slice (some ad158) t145.length co47:Value).ownBlock)) (by (with_reducible repeat (first|apply R_alloc|apply R_drewN|apply R_drew));exact HO156.out) hg hat)
                    have n5_:=Aside0.mk (hb)
                    have n6_:=Aside0.mk ((show Kd.C k34 w53 A50 y165.length y165 from by rw [Ny165.out,KA50.out];exact Kd.C_drop (m:=1) (c:=co47) ((Kd.R_reads' (Kd.R_after (ok:=(fun k_=>some k_ ≠ (v140:Value).ownBlock∧some k_ ≠ (.slice (some ad157) t142.length co45:Value).ownBlock∧some k_ ≠ (v155:Value).ownBlock)) (by (with_reducible repeat (first|apply R_alloc|apply R_drewN|apply R_drew));exact Kd.R_mono HO147.out (fun _ hk=>⟨⟨hk.1.1.1,⟨hk.1.1.2,hk.1.2⟩⟩,hk.2⟩)) hg hat)).2.2) KL50.out ((Kd.R_reads' (Kd.R_after (ok:=(fun k_=>some k_ ≠ (v140:Value).ownBlock∧some k_ ≠ (.slice (some ad157) t142.length co45:Value).ownBlock∧some k_ ≠ (v155:Value).ownBlock)) (by (with_reducible repeat (first|apply R_alloc|apply R_drewN|apply R_drew));exact Kd.R_mono HO147.out (fun _ hk=>⟨⟨hk.1.1.1,⟨hk.1.1.2,hk.1.2⟩⟩,hk.2⟩)) hg hat)).2.1)))
                    have n7_:=Aside0.mk (ho)
                    clear HO_10
                    clear HO141
                    clear HO144
                    clear HO147
                    clear HO156
                    clear HB
                    clear HR168
                    clear HO161
                    have HO_10:=n0_
                    have HO141:=n1_
                    have HO144:=n2_
                    have HO147:=n3_
                    have HO156:=n4_
                    have HB:=n5_
                    have HR168:=n6_
                    have HO164:=n7_
                    clear n0_ n1_ n2_ n3_ n4_ n5_ n6_ n7_
                    clear ho hb hg hat
                    refine hK.out _ _ trivial (fun hHeld=>?_)
                    clear hK K
                    refine norm_ (a':=?_) ?_ ?_
                    rotate_left;(show Act.put _ (some 100) _=_;simp only [Act.put,q1_,q2_,q3_,i64_w,i32_w];rfl)
                    refine one_ (i:=5) (N:=some 103) #[true,true,true,true,true,true,false] rfl rfl (by kernel_rfl) (by decide) (fun K hK=>?_)
                    refine Kd.R_append_rows_step k34 (w0:=w) w.heap.size (by rfl) (.tmp 100) (.tmp 102) 27 34 (.agg #[(.int .i64 0),(.int .i64 0),(.int .i64 0)]) 24 rfl Try.underlying27 info34 rfl (by decide) (by omega) v163 y162 y165 _ _ _ (fun k_=>some k_ ≠ (v140:Value).ownBlock∧some k_ ≠ (.slice (some ad157) t142.length co45:Value).ownBlock∧some k_ ≠ (.slice (some ad158) t145.length co47:Value).ownBlock∧some k_ ≠ (v155:Value).ownBlock) (fun _=>False) rfl rfl ?aO ?aR (fun _ _ h=>h) (fun _ h=>h.elim) ?aF ?aB ?aS ?aL ?_
                    (case aR=>repeat (first|exact (by repeat (first|(with_reducible exact HR168.out)|(with_reducible refine Kd.C_alloc ?_ _)|(with_reducible refine Kd.C_drewN ?_ _)|(with_reducible refine Kd.C_drew ?_)|exact HR168.out))|(with_reducible refine Kd.C_alloc ?_ _)|(with_reducible refine Kd.C_drewN ?_ _)|(with_reducible refine Kd.C_drew ?_)))
                    (case aB=>exact (by repeat (first|(with_reducible first|exact HB.out|apply below_alloc|apply pw_below_drewN|apply below_drew1)|exact HB.out)))
                    (case aF=>exact (fun k_ hk=>⟨Kd.fresh' (Kd.R_lt (by (with_reducible repeat (first|apply R_alloc|apply R_drewN|apply R_drew));exact HO141.out)) k_ hk,Kd.fresh' (Kd.R_lt (by (with_reducible repeat (first|apply R_alloc|apply R_drewN|apply R_drew));exact HO144.out)) k_ hk,Kd.fresh' (Kd.R_lt (by (with_reducible repeat (first|apply R_alloc|apply R_drewN|apply R_drew));exact HO147.out)) k_ hk,Kd.fresh' (Kd.R_lt (by (with_reducible repeat (first|apply R_alloc|apply R_drewN|apply R_drew));exact HO156.out)) k_ hk⟩))
                    (case aO=>exact (by (with_reducible repeat (first|apply R_alloc|apply R_drewN|apply R_drew));exact HO164.out))
                    (case aS=>exact (below_size (by repeat (first|(with_reducible first|exact HB.out|apply below_alloc|apply pw_below_drewN|apply below_drew1)|exact HB.out))))
                    (case aL=>have:=LMc32.out;omega)
                    intro v170 w54 ho hb hg hat
                    rw [← Ny169.out] at ho
                    have n0_:=Aside0.mk (Kd.R_over' (by (with_reducible repeat (first|apply R_alloc|apply R_drewN|apply R_drew));exact HO_10.out) (Kd.R_typed (by (with_reducible repeat (first|apply R_alloc|apply R_drewN|apply R_drew));exact HO164.out)) (by decide) hg)
                    have n1_:=Aside0.mk (Kd.R_after (ok:=(fun k_=>some k_ ≠ (.slice (some ad157) t142.length co45:Value).ownBlock∧some k_ ≠ (.slice (some ad158) t145.length co47:Value).ownBlock∧some k_ ≠ (v155:Value).ownBlock)) (by (with_reducible repeat (first|apply R_alloc|apply R_drewN|apply R_drew));exact HO141.out) hg hat)
                    have n2_:=Aside0.mk (Kd.R_after (ok:=(fun k_=>some k_ ≠ (v140:Value).ownBlock∧some k_ ≠ (.slice (some ad158) t145.length co47:Value).ownBlock∧some k_ ≠ (v155:Value).ownBlock)) (by (with_reducible repeat (first|apply R_alloc|apply R_drewN|apply R_drew));exact HO144.out) hg hat)
                    have n3_:=Aside0.mk (Kd.R_after (ok:=(fun k_=>some k_ ≠ (v140:Value).ownBlock∧some k_ ≠ (.slice (some ad157) t142.length co45:Value).ownBlock∧some k_ ≠ (v155:Value).ownBlock)) (by (with_reducible repeat (first|apply R_alloc|apply R_drewN|apply R_drew));exact HO147.out) hg hat)
                    have n4_:=Aside0.mk (Kd.R_after (ok:=(fun k_=>some k_ ≠ (v140:Value).ownBlock∧some k_ ≠ (.slice (some ad157) t142.length co45:Value).ownBlock∧some k_ ≠ (.slice (some ad158) t145.length co47:Value).ownBlock)) (by (with_reducible repeat (first|apply R_alloc|apply R_drewN|apply R_drew));exact HO156.out) hg hat)
                    have n5_:=Aside0.mk (hb)
                    have n6_:=Aside0.mk ((show Kd.C k34 w54 A50 y165.length y165 from by rw [Ny165.out,KA50.out];exact Kd.C_drop (m:=1) (c:=co47) ((Kd.R_reads' (Kd.R_after (ok:=(fun k_=>some k_ ≠ (v140:Value).ownBlock∧some k_ ≠ (.slice (some ad157) t142.length co45:Value).ownBlock∧some k_ ≠ (v155:Value).ownBlock)) (by (with_reducible repeat (first|apply R_alloc|apply R_drewN|apply R_drew));exact HO147.out) hg hat)).2.2) KL50.out ((Kd.R_reads' (Kd.R_after (ok:=(fun k_=>some k_ ≠ (v140:Value).ownBlock∧some k_ ≠ (.slice (some ad157) t142.length co45:Value).ownBlock∧some k_ ≠ (v155:Value).ownBlock)) (by (with_reducible repeat (first|apply R_alloc|apply R_drewN|apply R_drew));exact HO147.out) hg hat)).2.1)))
                    have n7_:=Aside0.mk (ho)
                    clear HO_10
                    clear HO141
                    clear HO144
                    clear HO147
                    clear HO156
                    clear HB
                    clear HR168
                    clear HO164
                    have HO_10:=n0_
                    have HO141:=n1_
                    have HO144:=n2_
                    have HO147:=n3_
                    have HO156:=n4_
                    have HB:=n5_
                    have HR168:=n6_
                    have HO171:=n7_
                    clear n0_ n1_ n2_ n3_ n4_ n5_ n6_ n7_
                    clear ho hb hg hat
                    refine hK.out _ _ trivial (fun hHeld=>?_)
                    clear hK K
                    refine norm_ (a':=?_) ?_ ?_
                    rotate_left;(show Act.put _ (some 103) _=_;simp only [Act.put,q1_,q2_,q3_,i64_w,i32_w];rfl)
                    refine pure_ (i:=6) (N:=some 18) (v:=?_) (a':=?_) #[true,true,true,true,true,true,true] rfl rfl (by kernel_rfl) (fun _ _ _ h=>h) (Or.inl ⟨by rfl,?_⟩) ?_ ?_
                    rotate_left;(intro w';go_simp;with_reducible rfl);rotate_left;(simp only [Act.put,q1_,q2_,q3_,i64_w,i32_w];rfl)
                    refine done_ (by kernel_rfl) ?_
                    have p172:0≤(0:Int):=(by omega)
                    have q172:0<(t145.length:Int):=of_decide_eq_true (by first|(with_reducible assumption)|assumption)
                    obtain ⟨ad172,e172,hx172_0,hx172_1,hx172_2⟩:=at_T34 (Kd.R_reads' HO147.out).2.2 0 p172 q172
                    obtain rfl:ad158=ad172:=(by injection e172)
                    have qi172:(0<t145.length)=True:=eq_true (by omega)
                    (try rw [show ((0:Int)).toNat=0 from rfl] at hx172_0)
                    (try rw [show 0 * 3=0 from rfl] at hx172_0)
                    (try rw [Addr.add_zero'] at hx172_0)
                    (try rw [show ((0:Int)).toNat=0 from rfl] at hx172_1)
                    (try rw [show 0 * 3=0 from rfl] at hx172_1)
                    (try rw [Addr.add_zero'] at hx172_1)
                    (try rw [show ((0:Int)).toNat=0 from rfl] at hx172_2)
                    (try rw [show 0 * 3=0 from rfl] at hx172_2)
                    (try rw [Addr.add_zero'] at hx172_2)
                    replace p172:=eq_true p172
                    replace q172:=eq_true q172
                    have p34:0≤((ji25):Int):=of_decide_eq_true (by first|(with_reducible assumption)|assumption)
                    have q34:((ji25):Int)<((y169.length:Int):Int):=of_decide_eq_true (by first|(with_reducible assumption)|assumption)
                    obtain ⟨go34,co34,eo34,gb34,gl34,cl34,HG34⟩:=Kd.R_form HO171.out (by omega)
                    (first|cases eo34|(injection eo34 with ea_ en_ ec_;(first|subst ea_|(injection ea_ with ea_;subst ea_));subst ec_;clear en_))
                    have GB34:=Aside0.mk gb34
                    have GG34:=Aside0.mk HG34
                    clear gb34 gl34 HG34
                    obtain ⟨ce34,hcl34,hM34,hcc34,hfr34⟩:=Kd.R_elem HO171.out z34 ((ji25):Int) p34 q34
                    obtain rfl:=k34_openM hM34
                    have hx34_0:w54.cell? ⟨go34,((ji25):Int).toNat * 3,none⟩=some (.int .i64 ((rd_T34 y169 (ji25)).f0)):=hcc34 0 _ rfl
                    have hx34_1:w54.cell? ⟨go34,((ji25):Int).toNat * 3+1,none⟩=some (.int .i64 ((rd_T34 y169 (ji25)).f1)):=hcc34 1 _ rfl
                    have hx34_2:w54.cell? ⟨go34,((ji25):Int).toNat * 3+2,none⟩=some (.int .i64 ((rd_T34 y169 (ji25)).f2)):=hcc34 2 _ rfl
                    have hf34_0:w54.frozen? ⟨go34,((ji25):Int).toNat * 3,none⟩=false:=hfr34 0
                    have hf34_1:w54.frozen? ⟨go34,((ji25):Int).toNat * 3+1,none⟩=false:=hfr34 1
                    have hf34_2:w54.frozen? ⟨go34,((ji25):Int).toNat * 3+2,none⟩=false:=hfr34 2
                    clear hcl34 hcc34 hfr34 hM34
                    replace p34:=eq_true p34
                    replace q34:=eq_true q34
                    have HX55:=Aside0.mk (show Kd.R k34 34 w54 w.heap.size (fun k_=>some k_ ≠ (v140:Value).ownBlock∧some k_ ≠ (.slice (some ad157) t142.length co45:Value).ownBlock∧some k_ ≠ (.slice (some ad158) t145.length co47:Value).ownBlock∧some k_ ≠ (v155:Value).ownBlock) (.slice (some ⟨go34,0,none⟩) y169.length co34) y169 from (by (with_reducible repeat (first|apply R_alloc|apply R_drewN|apply R_drew));exact HO171.out))
                    obtain ⟨ce55,hcl55,hM55,hcc55,hfr55⟩:=Kd.R_elem HX55.out z34 ((ji25):Int) (of_decide_eq_true (by first|(with_reducible assumption)|assumption)) (by have h_:((ji25):Int)<((y169.length:Int):Int):=of_decide_eq_true (by first|(with_reducible assumption)|assumption);first|exact h_|(have e_:=(Kd.R_reads' HO171.out).1;omega)|simpa using h_)
                    obtain rfl:=k34_openM hM55
                    have HP55:=Kd.R_seg HX55.out ((ji25):Int) (of_decide_eq_true (by first|(with_reducible assumption)|assumption)) (by have h_:((ji25):Int)<((y169.length:Int):Int):=of_decide_eq_true (by first|(with_reducible assumption)|assumption);first|exact h_|(have e_:=(Kd.R_reads' HO171.out).1;omega)|simpa using h_) (seg:=[.int .i64 ((rd_T34 t145 0).f2)]) (j:=2) hcl55 hcc55 (show 3≤3 from by decide) (x':=(⟨(rd_T34 y169 (ji25)).f0,(rd_T34 y169 (ji25)).f1,(rd_T34 t145 0).f2⟩:S34)) (k34_mkM _ _ _ (⟨(rd_T34 y169 (ji25)).f0,(rd_T34 y169 (ji25)).f1,(rd_T34 t145 0).f2⟩:S34) ) (fun _ hk=>hk)
                    have hx55_2:=hcc55 2 _ rfl
                    (try simp only [show (k34).sz=3 from rfl,Nat.mul_one,Nat.add_zero] at hx55_2)
                    have hf55_2:=hfr55 2
                    (try simp only [show (k34).sz=3 from rfl,Nat.mul_one,Nat.add_zero] at hf55_2)
                    clear hcl55 hcc55 hfr55 hM55
                    try go_wp2_with (first|((with_reducible refine gate_store (t:=3) (p:=113) rfl ?_);refine store_event (t:=3) (p:=113) (v:=?vo_w56) (w1:=(w54.setCell ⟨go34,((ji25):Int).toNat * 3+2,none⟩ (.int .i64 ((rd_T34 t145 0).f2)))) ?hg ?ho ?hn ?hr ?_;(case ho=>rfl);(case hg=>rfl);(case hn=>rfl);(case hr=>first|(go_simp;done)|(go_simp;rfl));intro w56 hw;have hg:w54.grownBy w56 (some go34):=(by rw [hw];exact HP55.2);have hp_:Kd.R k34 34 w56 w.heap.size (fun k_=>some k_ ≠ (v140:Value).ownBlock∧some k_ ≠ (.slice (some ad157) t142.length co45:Value).ownBlock∧some k_ ≠ (.slice (some ad158) t145.length co47:Value).ownBlock∧some k_ ≠ (v155:Value).ownBlock) (.slice (some ⟨go34,0,none⟩) y169.length co34) y173:=(by rw [hw,Ny173.out];exact HP55.1);clear HP55;have n0_:=Aside0.mk (Kd.R_over' (v:=(.slice (some ⟨go34,0,none⟩) y169.length co34)) (by (with_reducible repeat (first|apply R_alloc|apply R_drewN|apply R_drew));exact HO_10.out) (Kd.R_typed HO171.out) (by decide) hg);have n1_:=Aside0.mk (Kd.R_after (v:=(.slice (some ⟨go34,0,none⟩) y169.length co34)) (v1:=(.slice (some ⟨go34,0,none⟩) y169.length co34)) (ok:=(fun k_=>some k_ ≠ (.slice (some ad157) t142.length co45:Value).ownBlock∧some k_ ≠ (.slice (some ad158) t145.length co47:Value).ownBlock∧some k_ ≠ (v155:Value).ownBlock)) (by (with_reducible repeat (first|apply R_alloc|apply R_drewN|apply R_drew));exact HO141.out) hg (.inl rfl));have n2_:=Aside0.mk (Kd.R_after (v:=(.slice (some ⟨go34,0,none⟩) y169.length co34)) (v1:=(.slice (some ⟨go34,0,none⟩) y169.length co34)) (ok:=(fun k_=>some k_ ≠ (v140:Value).ownBlock∧some k_ ≠ (.slice (some ad158) t145.length co47:Value).ownBlock∧some k_ ≠ (v155:Value).ownBlock)) (by (with_reducible repeat (first|apply R_alloc|apply R_drewN|apply R_drew));exact HO144.out) hg (.inl rfl));have n3_:=Aside0.mk (Kd.R_after (v:=(.slice (some ⟨go34,0,none⟩) y169.length co34)) (v1:=(.slice (some ⟨go34,0,none⟩) y169.length co34)) (ok:=(fun k_=>some k_ ≠ (v140:Value).ownBlock∧some k_ ≠ (.slice (some ad157) t142.length co45:Value).ownBlock∧some k_ ≠ (v155:Value).ownBlock)) (by (with_reducible repeat (first|apply R_alloc|apply R_drewN|apply R_drew));exact HO147.out) hg (.inl rfl));have n4_:=Aside0.mk (Kd.R_after (v:=(.slice (some ⟨go34,0,none⟩) y169.length co34)) (v1:=(.slice (some ⟨go34,0,none⟩) y169.length co34)) (ok:=(fun k_=>some k_ ≠ (v140:Value).ownBlock∧some k_ ≠ (.slice (some ad157) t142.length co45:Value).ownBlock∧some k_ ≠ (.slice (some ad158) t145.length co47:Value).ownBlock)) (by (with_reducible repeat (first|apply R_alloc|apply R_drewN|apply R_drew));exact HO156.out) hg (.inl rfl));have n5_:=Aside0.mk (hp_);have n6_:=Aside0.mk ((by rw [hw];exact below_set (HB.out) GB34.out:Below w.heap.size w w56));have n7_:=Aside0.mk ((show Kd.C k34 w56 A50 y165.length y165 from by rw [Ny165.out,KA50.out];exact Kd.C_drop (m:=1) (c:=co47) ((Kd.R_reads' (Kd.R_after (v:=(.slice (some ⟨go34,0,none⟩) y169.length co34)) (v1:=(.slice (some ⟨go34,0,none⟩) y169.length co34)) (ok:=(fun k_=>some k_ ≠ (v140:Value).ownBlock∧some k_ ≠ (.slice (some ad157) t142.length co45:Value).ownBlock∧some k_ ≠ (v155:Value).ownBlock)) (by (with_reducible repeat (first|apply R_alloc|apply R_drewN|apply R_drew));exact HO147.out) hg (.inl rfl))).2.2) KL50.out ((Kd.R_reads' (Kd.R_after (v:=(.slice (some ⟨go34,0,none⟩) y169.length co34)) (v1:=(.slice (some ⟨go34,0,none⟩) y169.length co34)) (ok:=(fun k_=>some k_ ≠ (v140:Value).ownBlock∧some k_ ≠ (.slice (some ad157) t142.length co45:Value).ownBlock∧some k_ ≠ (v155:Value).ownBlock)) (by (with_reducible repeat (first|apply R_alloc|apply R_drewN|apply R_drew));exact HO147.out) hg (.inl rfl))).2.1)));clear HO_10;clear HO141;clear HO144;clear HO147;clear HO156;clear HO171;clear HB;clear HR168;have HO_10:=n0_;have HO141:=n1_;have HO144:=n2_;have HO147:=n3_;have HO156:=n4_;have HO171:=n5_;have HB:=n6_;have HR168:=n7_;clear n0_ n1_ n2_ n3_ n4_ n5_ n6_ n7_;clear hg hw hp_;obtain ⟨Ao57,co57,eo57⟩:=Kd.R_slice HO141.out;subst eo57)|(go_at_call 11;refine calls_of_args (args':=#[.slice Ao57 t139.length co57,.slice (some ⟨go34,0,none⟩) y173.length co34]) (by first|(rw [show y173.length=y169.length from (Kd.R_reads' HO171.out).1.symm] <;> rfl)|rfl) ?_;(with_reducible refine (souterrainref07_Same.calls k1 _ _ t139 _ _ y173 t174 _ ?side1 ?side2 ?side3 ?side4 A36.out).mono ?_);(case side1=>repeat (first|exact (Kd.R_reads' HO141.out).2.2|(with_reducible refine Kd.C_alloc ?_ _)|(with_reducible refine Kd.C_drewN ?_ _)|(with_reducible refine Kd.C_drew ?_)));(case side2=>exact (Kd.R_reads' HO141.out).2.1);(case side3=>repeat (first|exact (Kd.R_reads' HO171.out).2.2|(with_reducible refine Kd.C_alloc ?_ _)|(with_reducible refine Kd.C_drewN ?_ _)|(with_reducible refine Kd.C_drew ?_)));(case side4=>rw [show y173.length=y169.length from (Kd.R_reads' HO171.out).1.symm];exact (Kd.R_reads' HO171.out).2.1);rintro e w' ⟨rfl,⟨nd,rfl⟩⟩))
                    go_ret
                    exact ⟨by first|rfl|(simp [errW_none,errW_some] <;> rfl)|(simp only [← hji25];first|rfl|(simp [errW_none,errW_some] <;> rfl))|(simp [*,errW_none,errW_some] <;> rfl),by repeat (first|(with_reducible first|exact HB.out|apply below_alloc|apply pw_below_drewN|apply below_drew1)|exact HB.out)⟩
                   ·replace c35:=Bool.eq_false_iff.mpr c35
                    subst c35
                    have H1:(some false)=some r:=by rw [if_neg (show ¬ (false=true) by decide)] at H;exact H
                    clear H
                    have H:=H1
                    clear H1
                    obtain rfl:=Option.some.inj H
                    obtain ⟨Ao58,co58,eo58⟩:=Kd.R_slice HO_10.out
                    subst eo58
                    try go_wp2_with (first|((with_reducible refine gate_callee (f:=14) rfl ?_);refine goesL_ (some 52) rfl rfl Try.func14 (by kernel_rfl) rfl #[.slice Ao58 x10_1.length co58] rfl (by (try simp only [List.map_toArray,List.map_cons,List.map_nil]);first|done|rfl|(simp only [List.length_drop,List.length_take];rfl)) ?_;(with_reducible refine (span_Size.calls _ _ x10_1 t138 _ ?side1 ?side2 A14.out).mono ?_);(case side1=>repeat (first|exact (Kd.R_reads' HO_10.out).2.2|(with_reducible refine Kd.C_alloc ?_ _)|(with_reducible refine Kd.C_drewN ?_ _)|(with_reducible refine Kd.C_drew ?_)));(case side2=>exact (Kd.R_reads' HO_10.out).2.1);rintro e w59 ⟨rfl,hb⟩;refine ⟨_,rfl,?_⟩;have n0_:=Aside0.mk (Kd.R_below (by (with_reducible repeat (first|apply R_alloc|apply R_drewN|apply R_drew));exact HO_10.out) hb);have n1_:=Aside0.mk (below_step (by repeat (first|(with_reducible first|exact HB.out|apply below_alloc|apply pw_below_drewN|apply below_drew1)|exact HB.out)) hb);clear HO_10;clear HB;have HO_10:=n0_;have HB:=n1_;clear n0_ n1_;(try clear hb);(try clear hb2);(try clear hk);(try clear hi))|((with_reducible refine gate_callee (f:=12) rfl ?_);refine goesL_ (some 58) rfl rfl Try.func12 (by kernel_rfl) rfl #[.slice Ao58 x10_1.length co58,.int .i64 (wrap64 (a1)),.int .i64 (wrap64 (a2))] rfl (by (try simp only [List.map_toArray,List.map_cons,List.map_nil]);first|done|rfl|(simp only [List.length_drop,List.length_take];rfl)) ?_;(with_reducible refine (span_Parts.calls _ _ x10_1 (wrap64 (a1)) (wrap64 (a2)) t139 _ ?side1 ?side2 A18.out).mono ?_);(case side1=>repeat (first|exact (Kd.R_reads' HO_10.out).2.2|(with_reducible refine Kd.C_alloc ?_ _)|(with_reducible refine Kd.C_drewN ?_ _)|(with_reducible refine Kd.C_drew ?_)));(case side2=>exact (Kd.R_reads' HO_10.out).2.1);rintro e w60 ⟨v140,rfl,ho0,hb⟩;refine ⟨_,rfl,?_⟩;have n0_:=Aside0.mk (Kd.R_below (by (with_reducible repeat (first|apply R_alloc|apply R_drewN|apply R_drew));exact HO_10.out) hb);have n1_:=Aside0.mk (Kd.R_lower ho0 (below_size (by repeat (first|(with_reducible first|exact HB.out|apply below_alloc|apply pw_below_drewN|apply below_drew1)|exact HB.out))));have n2_:=Aside0.mk (below_step (by repeat (first|(with_reducible first|exact HB.out|apply below_alloc|apply pw_below_drewN|apply below_drew1)|exact HB.out)) hb);clear HO_10;clear HB;have HO_10:=n0_;have HO141:=n1_;have HB:=n2_;clear n0_ n1_ n2_;(try clear hb);(try clear hb2);(try clear hk);(try clear hi);(try clear ho0))|((with_reducible refine gate_callee (f:=12) rfl ?_);refine goesL_ (some 62) rfl rfl Try.func12 (by kernel_rfl) rfl #[.slice Ao58 x10_1.length co58,.int .i64 (wrap64 (a1)),.int .i64 (Int.tmod (wrap64 (a3)) (wrap64 ((wrap64 (a2))+1)))] rfl (by (try simp only [List.map_toArray,List.map_cons,List.map_nil]);first|done|rfl|(simp only [List.length_drop,List.length_take];rfl)) ?_;(with_reducible refine (span_Parts.calls _ _ x10_1 (wrap64 (a1)) (Int.tmod (wrap64 (a3)) (wrap64 ((wrap64 (a2))+1))) t142 _ ?side1 ?side2 A19.out).mono ?_);(case side1=>repeat (first|exact (Kd.R_reads' HO_10.out).2.2|(with_reducible refine Kd.C_alloc ?_ _)|(with_reducible refine Kd.C_drewN ?_ _)|(with_reducible refine Kd.C_drew ?_)));(case side2=>exact (Kd.R_reads' HO_10.out).2.1);rintro e w61 ⟨v143,rfl,ho0,hb⟩;refine ⟨_,rfl,?_⟩;have n0_:=Aside0.mk (Kd.R_below (by (with_reducible repeat (first|apply R_alloc|apply R_drewN|apply R_drew));exact HO_10.out) hb);have n1_:=Aside0.mk (Kd.R_elder' (by (with_reducible repeat (first|apply R_alloc|apply R_drewN|apply R_drew));exact HO141.out) (Kd.R_base ho0) hb);have n2_:=Aside0.mk (Kd.R_lower (Kd.R_new' ho0 (Kd.R_lt (by (with_reducible repeat (first|apply R_alloc|apply R_drewN|apply R_drew));exact HO141.out))) (below_size (by repeat (first|(with_reducible first|exact HB.out|apply below_alloc|apply pw_below_drewN|apply below_drew1)|exact HB.out))));have n3_:=Aside0.mk (below_step (by repeat (first|(with_reducible first|exact HB.out|apply below_alloc|apply pw_below_drewN|apply below_drew1)|exact HB.out)) hb);clear HO_10;clear HO141;clear HB;have HO_10:=n0_;have HO141:=n1_;have HO144:=n2_;have HB:=n3_;clear n0_ n1_ n2_ n3_;(try clear hb);(try clear hb2);(try clear hk);(try clear hi);(try clear ho0))|((with_reducible refine gate_callee (f:=12) rfl ?_);refine goesL_ (some 70) rfl rfl Try.func12 (by kernel_rfl) rfl #[.slice Ao58 x10_1.length co58,.int .i64 (wrap64 ((wrap64 (a1))+(Int.tmod (wrap64 (a3)) (wrap64 ((wrap64 (a2))+1))))),.int .i64 (wrap64 ((wrap64 (a2)) - (Int.tmod (wrap64 (a3)) (wrap64 ((wrap64 (a2))+1)))))] rfl (by (try simp only [List.map_toArray,List.map_cons,List.map_nil]);first|done|rfl|(simp only [List.length_drop,List.length_take];rfl)) ?_;(with_reducible refine (span_Parts.calls _ _ x10_1 (wrap64 ((wrap64 (a1))+(Int.tmod (wrap64 (a3)) (wrap64 ((wrap64 (a2))+1))))) (wrap64 ((wrap64 (a2)) - (Int.tmod (wrap64 (a3)) (wrap64 ((wrap64 (a2))+1))))) t145 _ ?side1 ?side2 A20.out).mono ?_);(case side1=>repeat (first|exact (Kd.R_reads' HO_10.out).2.2|(with_reducible refine Kd.C_alloc ?_ _)|(with_reducible refine Kd.C_drewN ?_ _)|(with_reducible refine Kd.C_drew ?_)));(case side2=>exact (Kd.R_reads' HO_10.out).2.1);rintro e w62 ⟨v146,rfl,ho0,hb⟩;refine ⟨_,rfl,?_⟩;have n0_:=Aside0.mk (Kd.R_below (by (with_reducible repeat (first|apply R_alloc|apply R_drewN|apply R_drew));exact HO_10.out) hb);have n1_:=Aside0.mk (Kd.R_elder' (by (with_reducible repeat (first|apply R_alloc|apply R_drewN|apply R_drew));exact HO141.out) (Kd.R_base ho0) hb);have n2_:=Aside0.mk (Kd.R_elder' (by (with_reducible repeat (first|apply R_alloc|apply R_drewN|apply R_drew));exact HO144.out) (Kd.R_base ho0) hb);have n3_:=Aside0.mk (Kd.R_lower (Kd.R_new' (Kd.R_new' ho0 (Kd.R_lt (by (with_reducible repeat (first|apply R_alloc|apply R_drewN|apply R_drew));exact HO141.out))) (Kd.R_lt (by (with_reducible repeat (first|apply R_alloc|apply R_drewN|apply R_drew));exact HO144.out))) (below_size (by repeat (first|(with_reducible first|exact HB.out|apply below_alloc|apply pw_below_drewN|apply below_drew1)|exact HB.out))));have n4_:=Aside0.mk (below_step (by repeat (first|(with_reducible first|exact HB.out|apply below_alloc|apply pw_below_drewN|apply below_drew1)|exact HB.out)) hb);clear HO_10;clear HO141;clear HO144;clear HB;have HO_10:=n0_;have HO141:=n1_;have HO144:=n2_;have HO147:=n3_;have HB:=n4_;clear n0_ n1_ n2_ n3_ n4_;(try clear hb);(try clear hb2);(try clear hk);(try clear hi);(try clear ho0))|((with_reducible refine gate_dst (N:=71) rfl ?_);(try (refine gate_guard (by rfl) ?_;dsimp only));refine Kd.R_lit k34 _ 34 ?hg (N:=71) ?hd (xs:=([]:List (S34))) (inner:=[]) (ok:=fun _=>True) (okp:=fun _=>True) ?hr ?hp (fun _ hk=>hk) trivial (Below.refl _ _) (Nat.le_refl _) (by simp) ?_;(case hd=>rfl);(case hg=>rfl);(case hr=>first|(go_simp;done)|(go_simp;rfl));(case hp=>exact (Reps.none _ _));intro v149 w63 ho64 hb hg_ hnew_;clear hg_ hnew_;(first|rw [← Ny148.out] at ho64|(simp only [Int.reduceToNat] at ho64;rw [← Ny148.out] at ho64));have n0_:=Aside0.mk (Kd.R_below (by (with_reducible repeat (first|apply R_alloc|apply R_drewN|apply R_drew));exact HO_10.out) hb);have n1_:=Aside0.mk (Kd.R_elder' (by (with_reducible repeat (first|apply R_alloc|apply R_drewN|apply R_drew));exact HO141.out) (Kd.R_base ho64) hb);have n2_:=Aside0.mk (Kd.R_elder' (by (with_reducible repeat (first|apply R_alloc|apply R_drewN|apply R_drew));exact HO144.out) (Kd.R_base ho64) hb);have n3_:=Aside0.mk (Kd.R_elder' (by (with_reducible repeat (first|apply R_alloc|apply R_drewN|apply R_drew));exact HO147.out) (Kd.R_base ho64) hb);have n4_:=Aside0.mk (Kd.R_lower (Kd.R_new' (Kd.R_new' (Kd.R_new' ho64 (Kd.R_lt (by (with_reducible repeat (first|apply R_alloc|apply R_drewN|apply R_drew));exact HO141.out))) (Kd.R_lt (by (with_reducible repeat (first|apply R_alloc|apply R_drewN|apply R_drew));exact HO144.out))) (Kd.R_lt (by (with_reducible repeat (first|apply R_alloc|apply R_drewN|apply R_drew));exact HO147.out))) (below_size (by repeat (first|(with_reducible first|exact HB.out|apply below_alloc|apply pw_below_drewN|apply below_drew1)|exact HB.out))));have n5_:=Aside0.mk (below_step (by repeat (first|(with_reducible first|exact HB.out|apply below_alloc|apply pw_below_drewN|apply below_drew1)|exact HB.out)) hb);clear HO_10;clear HO141;clear HO144;clear HO147;clear HB;have HO_10:=n0_;have HO141:=n1_;have HO144:=n2_;have HO147:=n3_;have HO150:=n4_;have HB:=n5_;clear n0_ n1_ n2_ n3_ n4_ n5_;clear hb ho64;obtain ⟨Ao66,co66,eo66⟩:=Kd.R_slice HO144.out;subst eo66)|((with_reducible refine gate_builtin (b:=.append) (xs:=#[.tmp 71,.tmp 72]) rfl ?_);(try (refine gate_guard (by rfl) ?_;dsimp only));at_builtin;refine Kd.R_append_rows k34 (w0:=w) w.heap.size rfl (.tmp 71) (.tmp 72) 27 34 (.agg #[(.int .i64 0),(.int .i64 0),(.int .i64 0)]) 24 rfl Try.underlying27 info34 rfl (by decide) (by omega) v149 y148 t142 _ _ _ (fun k_=>some k_ ≠ (v140:Value).ownBlock∧some k_ ≠ (.slice Ao66 t142.length co66:Value).ownBlock∧some k_ ≠ (v146:Value).ownBlock) (fun _=>False) rfl rfl ?aO ?aR (fun _ _ h=>h) (fun _ h=>h.elim) ?aF ?aB ?aS ?aL ?_;(case aR=>repeat (first|exact (Kd.R_reads' HO144.out).2.2|(with_reducible refine Kd.C_alloc ?_ _)|(with_reducible refine Kd.C_drewN ?_ _)|(with_reducible refine Kd.C_drew ?_)));(case aB=>exact (by repeat (first|(with_reducible first|exact HB.out|apply below_alloc|apply pw_below_drewN|apply below_drew1)|exact HB.out)));(case aF=>exact (fun k_ hk=>⟨Kd.fresh' (Kd.R_lt (by (with_reducible repeat (first|apply R_alloc|apply R_drewN|apply R_drew));exact HO141.out)) k_ hk,Kd.fresh' (Kd.R_lt (by (with_reducible repeat (first|apply R_alloc|apply R_drewN|apply R_drew));exact HO144.out)) k_ hk,Kd.fresh' (Kd.R_lt (by (with_reducible repeat (first|apply R_alloc|apply R_drewN|apply R_drew));exact HO147.out)) k_ hk⟩));(case aO=>exact (by (with_reducible repeat (first|apply R_alloc|apply R_drewN|apply R_drew));exact Kd.R_mono HO150.out (fun _ hk=>⟨hk.1.1.2,⟨hk.1.2,hk.2⟩⟩)));(case aS=>exact (below_size (by repeat (first|(with_reducible first|exact HB.out|apply below_alloc|apply pw_below_drewN|apply below_drew1)|exact HB.out))));(case aL=>have:=LMc21.out;omega);intro v152 w65 ho hb hg hat;rw [← Ny151.out] at ho;have n0_:=Aside0.mk (Kd.R_over' (by (with_reducible repeat (first|apply R_alloc|apply R_drewN|apply R_drew));exact HO_10.out) (Kd.R_typed (by (with_reducible repeat (first|apply R_alloc|apply R_drewN|apply R_drew));exact HO150.out)) (by decide) hg);have n1_:=Aside0.mk (Kd.R_after (ok:=(fun k_=>some k_ ≠ (.slice Ao66 t142.length co66:Value).ownBlock∧some k_ ≠ (v146:Value).ownBlock)) (by (with_reducible repeat (first|apply R_alloc|apply R_drewN|apply R_drew));exact Kd.R_mono HO141.out (fun _ hk=>⟨⟨hk.1.1.2,hk.1.2⟩,hk.2⟩)) hg hat);have n2_:=Aside0.mk (Kd.R_after (ok:=(fun k_=>some k_ ≠ (v140:Value).ownBlock∧some k_ ≠ (v146:Value).ownBlock)) (by (with_reducible repeat (first|apply R_alloc|apply R_drewN|apply R_drew));exact Kd.R_mono HO144.out (fun _ hk=>⟨⟨hk.1.1.2,hk.1.2⟩,hk.2⟩)) hg hat);have n3_:=Aside0.mk (Kd.R_after (ok:=(fun k_=>some k_ ≠ (v140:Value).ownBlock∧some k_ ≠ (.slice Ao66 t142.length co66:Value).ownBlock)) (by (with_reducible repeat (first|apply R_alloc|apply R_drewN|apply R_drew));exact Kd.R_mono HO147.out (fun _ hk=>⟨⟨hk.1.1.2,hk.1.2⟩,hk.2⟩)) hg hat);have n4_:=Aside0.mk (hb);have n5_:=Aside0.mk (ho);clear HO_10;clear HO141;clear HO144;clear HO147;clear HB;clear HO150;have HO_10:=n0_;have HO141:=n1_;have HO144:=n2_;have HO147:=n3_;have HB:=n4_;have HO153:=n5_;clear n0_ n1_ n2_ n3_ n4_ n5_;clear ho hb hg hat;obtain ⟨Ao68,co68,eo68⟩:=Kd.R_slice HO147.out;subst eo68)|((with_reducible refine gate_builtin (b:=.append) (xs:=#[.tmp 73,.tmp 74]) rfl ?_);(try (refine gate_guard (by rfl) ?_;dsimp only));at_builtin;refine Kd.R_append_rows k34 (w0:=w) w.heap.size rfl (.tmp 73) (.tmp 74) 27 34 (.agg #[(.int .i64 0),(.int .i64 0),(.int .i64 0)]) 24 rfl Try.underlying27 info34 rfl (by decide) (by omega) v152 y151 t145 _ _ _ (fun k_=>some k_ ≠ (v140:Value).ownBlock∧some k_ ≠ (.slice Ao66 t142.length co66:Value).ownBlock∧some k_ ≠ (.slice Ao68 t145.length co68:Value).ownBlock) (fun _=>False) rfl rfl ?aO ?aR (fun _ _ h=>h) (fun _ h=>h.elim) ?aF ?aB ?aS ?aL ?_;(case aR=>repeat (first|exact (Kd.R_reads' HO147.out).2.2|(with_reducible refine Kd.C_alloc ?_ _)|(with_reducible refine Kd.C_drewN ?_ _)|(with_reducible refine Kd.C_drew ?_)));(case aB=>exact (by repeat (first|(with_reducible first|exact HB.out|apply below_alloc|apply pw_below_drewN|apply below_drew1)|exact HB.out)));(case aF=>exact (fun k_ hk=>⟨Kd.fresh' (Kd.R_lt (by (with_reducible repeat (first|apply R_alloc|apply R_drewN|apply R_drew));exact HO141.out)) k_ hk,Kd.fresh' (Kd.R_lt (by (with_reducible repeat (first|apply R_alloc|apply R_drewN|apply R_drew));exact HO144.out)) k_ hk,Kd.fresh' (Kd.R_lt (by (with_reducible repeat (first|apply R_alloc|apply R_drewN|apply R_drew));exact HO147.out)) k_ hk⟩));(case aO=>exact (by (with_reducible repeat (first|apply R_alloc|apply R_drewN|apply R_drew));exact HO153.out));(case aS=>exact (below_size (by repeat (first|(with_reducible first|exact HB.out|apply below_alloc|apply pw_below_drewN|apply below_drew1)|exact HB.out))));(case aL=>have:=LMc22.out;omega);intro v155 w67 ho hb hg hat;rw [← Ny154.out] at ho;have n0_:=Aside0.mk (Kd.R_over' (by (with_reducible repeat (first|apply R_alloc|apply R_drewN|apply R_drew));exact HO_10.out) (Kd.R_typed (by (with_reducible repeat (first|apply R_alloc|apply R_drewN|apply R_drew));exact HO153.out)) (by decide) hg);have n1_:=Aside0.mk (Kd.R_after (ok:=(fun k_=>some k_ ≠ (.slice Ao66 t142.length co66:Value).ownBlock∧some k_ ≠ (.slice Ao68 t145.length co68:Value).ownBlock)) (by (with_reducible repeat (first|apply R_alloc|apply R_drewN|apply R_drew));exact HO141.out) hg hat);have n2_:=Aside0.mk (Kd.R_after (ok:=(fun k_=>some k_ ≠ (v140:Value).ownBlock∧some k_ ≠ (.slice Ao68 t145.length co68:Value).ownBlock)) (by (with_reducible repeat (first|apply R_alloc|apply R_drewN|apply R_drew));exact HO144.out) hg hat);have n3_:=Aside0.mk (Kd.R_after (ok:=(fun k_=>some k_ ≠ (v140:Value).ownBlock∧some k_ ≠ (.slice Ao66 t142.length co66:Value).ownBlock)) (by (with_reducible repeat (first|apply R_alloc|apply R_drewN|apply R_drew));exact HO147.out) hg hat);have n4_:=Aside0.mk (hb);have n5_:=Aside0.mk (ho);clear HO_10;clear HO141;clear HO144;clear HO147;clear HB;clear HO153;have HO_10:=n0_;have HO141:=n1_;have HO144:=n2_;have HO147:=n3_;have HB:=n4_;have HO156:=n5_;clear n0_ n1_ n2_ n3_ n4_ n5_;clear ho hb hg hat))
                    have n0_:=Aside0.mk (Kd.R_drew HO_10.out)
                    have n1_:=Aside0.mk (Kd.R_drew HO141.out)
                    have n2_:=Aside0.mk (Kd.R_drew HO144.out)
                    have n3_:=Aside0.mk (Kd.R_drew HO147.out)
                    have n4_:=Aside0.mk (Kd.R_drew HO156.out)
                    have n5_:=Aside0.mk (below_drew1 HB.out)
                    clear HO_10
                    clear HO141
                    clear HO144
                    clear HO147
                    clear HO156
                    clear HB
                    have HO_10:=n0_
                    have HO141:=n1_
                    have HO144:=n2_
                    have HO147:=n3_
                    have HO156:=n4_
                    have HB:=n5_
                    clear n0_ n1_ n2_ n3_ n4_ n5_
                    have p157:0≤((ji25):Int):=of_decide_eq_true (by first|(with_reducible assumption)|assumption)
                    have q157:(ji25)<(t142.length:Int):=of_decide_eq_true (by first|(with_reducible assumption)|assumption)
                    obtain ⟨ad157,e157,hx157_0,hx157_1,hx157_2⟩:=at_T34 (Kd.R_reads' HO144.out).2.2 (ji25) p157 q157
                    cases e157
                    replace p157:=eq_true p157
                    replace q157:=eq_true q157
                    have p158:0≤(0:Int):=(by omega)
                    have q158:0<(t145.length:Int):=of_decide_eq_true (by first|(with_reducible assumption)|assumption)
                    obtain ⟨ad158,e158,hx158_0,hx158_1,hx158_2⟩:=at_T34 (Kd.R_reads' HO147.out).2.2 0 p158 q158
                    cases e158
                    have qi158:(0<t145.length)=True:=eq_true (by omega)
                    (try rw [show ((0:Int)).toNat=0 from rfl] at hx158_0)
                    (try rw [show 0 * 3=0 from rfl] at hx158_0)
                    (try rw [Addr.add_zero'] at hx158_0)
                    (try rw [show ((0:Int)).toNat=0 from rfl] at hx158_1)
                    (try rw [show 0 * 3=0 from rfl] at hx158_1)
                    (try rw [Addr.add_zero'] at hx158_1)
                    (try rw [show ((0:Int)).toNat=0 from rfl] at hx158_2)
                    (try rw [show 0 * 3=0 from rfl] at hx158_2)
                    (try rw [Addr.add_zero'] at hx158_2)
                    replace p158:=eq_true p158
                    replace q158:=eq_true q158
                    refine start_ (n:=22) (S:=fun w'=>w'.cell? (ad157.add (((ji25)).toNat * 3))=some (.int .i64 ((rd_T34 t142 (ji25)).f0))∧w'.cell? ⟨(ad157.add (((ji25)).toNat * 3)).block,(ad157.add (((ji25)).toNat * 3)).off+1,none⟩=some (.int .i64 ((rd_T34 t142 (ji25)).f1))∧w'.cell? ⟨(ad157.add (((ji25)).toNat * 3)).block,(ad157.add (((ji25)).toNat * 3)).off+2,none⟩=some (.int .i64 ((rd_T34 t142 (ji25)).f2))∧w'.cell? ad158=some (.int .i64 ((rd_T34 t145 0).f0))∧w'.cell? ⟨ad158.block,ad158.off+1,none⟩=some (.int .i64 ((rd_T34 t145 0).f1))∧w'.cell? ⟨ad158.block,ad158.off+2,none⟩=some (.int .i64 ((rd_T34 t145 0).f2))) (ds:=[]) #[z_,z_,z_,z_,z_,z_,z_,z_,z_,z_,z_,z_,z_,z_,z_,z_,z_,z_,z_,z_,z_,z_] (by kernel_rfl) rfl rfl ⟨hx157_0,hx157_1,hx157_2,hx158_0,hx158_1,hx158_2⟩ (fun hHeld=>?_);refine with_tabW souterrainlaw07_SpanParted.tab18 souterrainlaw07_SpanParted.bits18 (fun HT_ HW_=>?_)
                    generalize w67.drew=w69 at HO_10 HO141 HO144 HO147 HO156 HB hx157_0 hx157_1 hx157_2 hx158_0 hx158_1 hx158_2 hHeld ⊢
                    refine pure_ (i:=0) (N:=some 76) (v:=?_) (a':=?_) #[y_,z_,z_,z_,z_,z_,z_,z_,z_,z_,z_,z_,z_,z_,z_,z_,z_,z_,z_,z_,z_,z_] rfl rfl (any_of HT_.out (by kernel_rfl)) (fun _ _ _ h=>h) (Or.inl ⟨by rfl,?_⟩) ?_ ?_
                    rotate_left;(intro w';go_simp;with_reducible rfl);rotate_left;(simp only [Act.put,q1_,q2_,q3_,i64_w,i32_w];rfl)
                    refine pure_ (i:=1) (N:=some 77) (v:=?_) (a':=?_) #[y_,y_,z_,z_,z_,z_,z_,z_,z_,z_,z_,z_,z_,z_,z_,z_,z_,z_,z_,z_,z_,z_] rfl rfl (any_of HT_.out (by kernel_rfl)) (fun _ _ _ h=>h) (Or.inl ⟨by rfl,?_⟩) ?_ ?_
                    rotate_left;(intro w';go_simp;with_reducible rfl);rotate_left;(simp only [Act.put,q1_,q2_,q3_,i64_w,i32_w];rfl)
                    refine pure_ (i:=2) (N:=some 78) (v:=?_) (a':=?_) #[y_,y_,y_,z_,z_,z_,z_,z_,z_,z_,z_,z_,z_,z_,z_,z_,z_,z_,z_,z_,z_,z_] rfl rfl (any_of HT_.out (by kernel_rfl)) (fun _ _ _ h=>h) (Or.inl ⟨by rfl,?_⟩) ?_ ?_
                    rotate_left;(intro w';go_simp;with_reducible rfl);rotate_left;(simp only [Act.put,q1_,q2_,q3_,i64_w,i32_w];rfl)
                    refine pure_ (i:=3) (N:=some 79) (v:=?_) (a':=?_) #[y_,y_,y_,y_,z_,z_,z_,z_,z_,z_,z_,z_,z_,z_,z_,z_,z_,z_,z_,z_,z_,z_] rfl rfl (any_of HT_.out (by kernel_rfl)) (fun _ _ _ h=>h) (Or.inl ⟨by rfl,?_⟩) ?_ ?_
                    rotate_left;(intro w';go_simp;with_reducible rfl);rotate_left;(simp only [Act.put,q1_,q2_,q3_,i64_w,i32_w];rfl)
                    refine pure_ (i:=4) (N:=some 80) (v:=?_) (a':=?_) #[y_,y_,y_,y_,y_,z_,z_,z_,z_,z_,z_,z_,z_,z_,z_,z_,z_,z_,z_,z_,z_,z_] rfl rfl (any_of HT_.out (by kernel_rfl)) (fun _ _ _ h=>h) (Or.inl ⟨by rfl,?_⟩) ?_ ?_
                    rotate_left;(intro w';go_simp;with_reducible rfl);rotate_left;(simp only [Act.put,q1_,q2_,q3_,i64_w,i32_w];rfl)
                    refine pure_ (i:=5) (N:=some 81) (v:=?_) (a':=?_) #[y_,y_,y_,y_,y_,y_,z_,z_,z_,z_,z_,z_,z_,z_,z_,z_,z_,z_,z_,z_,z_,z_] rfl rfl (any_of HT_.out (by kernel_rfl)) (fun _ _ _ h=>h) (Or.inl ⟨by rfl,?_⟩) ?_ ?_
                    rotate_left;(intro w';go_simp;with_reducible rfl);rotate_left;(simp only [Act.put,q1_,q2_,q3_,i64_w,i32_w];rfl)
                    refine pure_ (i:=6) (N:=some 82) (v:=?_) (a':=?_) #[y_,y_,y_,y_,y_,y_,y_,z_,z_,z_,z_,z_,z_,z_,z_,z_,z_,z_,z_,z_,z_,z_] rfl rfl (any_of HT_.out (by kernel_rfl)) (fun _ _ _ h=>h) (Or.inl ⟨by rfl,?_⟩) ?_ ?_
                    rotate_left;(intro w';go_simp;with_reducible rfl);rotate_left;(simp only [Act.put,q1_,q2_,q3_,i64_w,i32_w];rfl)
                    refine pure_ (i:=7) (N:=some 83) (v:=?_) (a':=?_) #[y_,y_,y_,y_,y_,y_,y_,y_,z_,z_,z_,z_,z_,z_,z_,z_,z_,z_,z_,z_,z_,z_] rfl rfl (any_of HT_.out (by kernel_rfl)) (fun _ _ _ h=>h) (Or.inl ⟨by rfl,?_⟩) ?_ ?_
                    rotate_left;(intro w';go_simp;with_reducible rfl);rotate_left;(simp only [Act.put,q1_,q2_,q3_,i64_w,i32_w];rfl)
                    refine pure_ (i:=8) (N:=some 84) (v:=?_) (a':=?_) #[y_,y_,y_,y_,y_,y_,y_,y_,y_,z_,z_,z_,z_,z_,z_,z_,z_,z_,z_,z_,z_,z_] rfl rfl (any_of HT_.out (by kernel_rfl)) (fun _ _ _ h=>h) (Or.inl ⟨by rfl,?_⟩) ?_ ?_
                    rotate_left;(intro w';go_simp;with_reducible rfl);rotate_left;(simp only [Act.put,q1_,q2_,q3_,i64_w,i32_w];rfl)
                    refine pure_ (i:=9) (N:=some 85) (v:=?_) (a':=?_) #[y_,y_,y_,y_,y_,y_,y_,y_,y_,y_,z_,z_,z_,z_,z_,z_,z_,z_,z_,z_,z_,z_] rfl rfl (any_of HT_.out (by kernel_rfl)) (fun _ _ _ h=>h) (Or.inl ⟨by rfl,?_⟩) ?_ ?_
                    rotate_left;(intro w';go_simp;with_reducible rfl);rotate_left;(simp only [Act.put,q1_,q2_,q3_,i64_w,i32_w];rfl)
                    refine pure_ (i:=10) (N:=some 86) (v:=?_) (a':=?_) #[y_,y_,y_,y_,y_,y_,y_,y_,y_,y_,y_,z_,z_,z_,z_,z_,z_,z_,z_,z_,z_,z_] rfl rfl (any_of HT_.out (by kernel_rfl)) (fun _ _ _ h=>h) (Or.inl ⟨by rfl,?_⟩) ?_ ?_
                    rotate_left;(intro w';go_simp;with_reducible rfl);rotate_left;(simp only [Act.put,q1_,q2_,q3_,i64_w,i32_w];rfl)
                    refine pure_ (i:=11) (N:=some 87) (v:=?_) (a':=?_) #[y_,y_,y_,y_,y_,y_,y_,y_,y_,y_,y_,y_,z_,z_,z_,z_,z_,z_,z_,z_,z_,z_] rfl rfl (any_of HT_.out (by kernel_rfl)) (fun _ _ _ h=>h) (Or.inl ⟨by rfl,?_⟩) ?_ ?_
                    rotate_left;(intro w';go_simp;with_reducible rfl);rotate_left;(simp only [Act.put,q1_,q2_,q3_,i64_w,i32_w];rfl)
                    refine pure_ (i:=12) (N:=some 88) (v:=?_) (a':=?_) #[y_,y_,y_,y_,y_,y_,y_,y_,y_,y_,y_,y_,y_,z_,z_,z_,z_,z_,z_,z_,z_,z_] rfl rfl (any_of HT_.out (by kernel_rfl)) (fun _ _ _ h=>h) (Or.inl ⟨by rfl,?_⟩) ?_ ?_
                    rotate_left;(intro w';go_simp;with_reducible rfl);rotate_left;(simp only [Act.put,q1_,q2_,q3_,i64_w,i32_w];rfl)
                    refine pure_ (i:=13) (N:=some 89) (v:=?_) (a':=?_) #[y_,y_,y_,y_,y_,y_,y_,y_,y_,y_,y_,y_,y_,y_,z_,z_,z_,z_,z_,z_,z_,z_] rfl rfl (any_of HT_.out (by kernel_rfl)) (fun _ _ _ h=>h) (Or.inl ⟨by rfl,?_⟩) ?_ ?_
                    rotate_left;(intro w';go_simp;with_reducible rfl);rotate_left;(simp only [Act.put,q1_,q2_,q3_,i64_w,i32_w];rfl)
                    refine pure_ (i:=14) (N:=some 90) (v:=?_) (a':=?_) #[y_,y_,y_,y_,y_,y_,y_,y_,y_,y_,y_,y_,y_,y_,y_,z_,z_,z_,z_,z_,z_,z_] rfl rfl (any_of HT_.out (by kernel_rfl)) (fun _ _ _ h=>h) (Or.inl ⟨by rfl,?_⟩) ?_ ?_
                    rotate_left;(intro w';go_simp;with_reducible rfl);rotate_left;(simp only [Act.put,q1_,q2_,q3_,i64_w,i32_w];rfl)
                    refine pure_ (i:=16) (N:=some 92) (v:=?_) (a':=?_) #[y_,y_,y_,y_,y_,y_,y_,y_,y_,y_,y_,y_,y_,y_,y_,z_,y_,z_,z_,z_,z_,z_] rfl rfl (any_of HT_.out (by kernel_rfl)) (fun _ _ _ h=>h) (Or.inl ⟨by rfl,?_⟩) ?_ ?_
                    rotate_left;(intro w';go_simp;with_reducible rfl);rotate_left;(simp only [Act.put,q1_,q2_,q3_,i64_w,i32_w];rfl)
                    refine pure_ (i:=17) (N:=some 93) (v:=?_) (a':=?_) #[y_,y_,y_,y_,y_,y_,y_,y_,y_,y_,y_,y_,y_,y_,y_,z_,y_,y_,z_,z_,z_,z_] rfl rfl (any_of HT_.out (by kernel_rfl)) (fun _ _ _ h=>h) (Or.inl ⟨by rfl,?_⟩) ?_ ?_
                    rotate_left;(intro w';go_simp;with_reducible rfl);rotate_left;(simp only [Act.put,q1_,q2_,q3_,i64_w,i32_w];rfl)
                    refine pure_ (i:=18) (N:=some 94) (v:=?_) (a':=?_) #[y_,y_,y_,y_,y_,y_,y_,y_,y_,y_,y_,y_,y_,y_,y_,z_,y_,y_,y_,z_,z_,z_] rfl rfl (any_of HT_.out (by kernel_rfl)) (fun _ _ _ h=>h) (Or.inl ⟨by rfl,?_⟩) ?_ ?_
                    rotate_left;(intro w';go_simp;with_reducible rfl);rotate_left;(simp only [Act.put,q1_,q2_,q3_,i64_w,i32_w];rfl)
                    refine take_ (i:=15) (N:=some 91) (v:=?_) (a':=?_) #[y_,y_,y_,y_,y_,y_,y_,y_,y_,y_,y_,y_,y_,y_,y_,y_,y_,y_,y_,z_,z_,z_] rfl rfl (take_ofW HT_.out HW_.out (by kernel_rfl)) (fun _ _ _ h=>h) (Or.inl ⟨by rfl,?_⟩) hHeld ?_ ?_
                    rotate_left;(rintro w' ⟨s0,s1,s2,s3,s4,s5⟩;go_simp;with_reducible rfl);rotate_left;(simp only [Act.put,q1_,q2_,q3_,i64_w,i32_w];rfl)
                    refine take_ (i:=19) (N:=some 95) (v:=?_) (a':=?_) #[y_,y_,y_,y_,y_,y_,y_,y_,y_,y_,y_,y_,y_,y_,y_,y_,y_,y_,y_,y_,z_,z_] rfl rfl (take_ofW HT_.out HW_.out (by kernel_rfl)) (fun _ _ _ h=>h) (Or.inl ⟨by rfl,?_⟩) hHeld ?_ ?_
                    rotate_left;(rintro w' ⟨s0,s1,s2,s3,s4,s5⟩;go_simp;with_reducible rfl);rotate_left;(simp only [Act.put,q1_,q2_,q3_,i64_w,i32_w];rfl)
                    refine pure_ (i:=20) (N:=some 96) (v:=?_) (a':=?_) #[y_,y_,y_,y_,y_,y_,y_,y_,y_,y_,y_,y_,y_,y_,y_,y_,y_,y_,y_,y_,y_,z_] rfl rfl (any_of HT_.out (by kernel_rfl)) (fun _ _ _ h=>h) (Or.inl ⟨by rfl,?_⟩) ?_ ?_
                    rotate_left;(intro w';go_simp;with_reducible rfl);rotate_left;(simp only [Act.put,q1_,q2_,q3_,i64_w,i32_w];rfl)
                    refine pure_ (i:=21) (N:=some 97) (v:=?_) (a':=?_) #[y_,y_,y_,y_,y_,y_,y_,y_,y_,y_,y_,y_,y_,y_,y_,y_,y_,y_,y_,y_,y_,y_] rfl rfl (any_of HT_.out (by kernel_rfl)) (fun _ _ _ h=>h) (Or.inl ⟨by rfl,?_⟩) ?_ ?_
                    rotate_left;(intro w';go_simp;with_reducible rfl);rotate_left;(simp only [Act.put,q1_,q2_,q3_,i64_w,i32_w];rfl)
                    refine done_ (done_of HT_.out (by kernel_rfl)) ?_
                    try go_wp2
                    have n0_:=Aside0.mk (Kd.R_drew HO_10.out)
                    have n1_:=Aside0.mk (Kd.R_drew HO141.out)
                    have n2_:=Aside0.mk (Kd.R_drew HO144.out)
                    have n3_:=Aside0.mk (Kd.R_drew HO147.out)
                    have n4_:=Aside0.mk (Kd.R_drew HO156.out)
                    have n5_:=Aside0.mk (below_drew1 HB.out)
                    clear HO_10
                    clear HO141
                    clear HO144
                    clear HO147
                    clear HO156
                    clear HB
                    have HO_10:=n0_
                    have HO141:=n1_
                    have HO144:=n2_
                    have HO147:=n3_
                    have HO156:=n4_
                    have HB:=n5_
                    clear n0_ n1_ n2_ n3_ n4_ n5_
                    have q71:(1:Int)≤((t145.length:Int):Int):=of_decide_eq_true (by first|(with_reducible assumption)|assumption)
                    obtain ⟨i071,hi071,_,hsz71,_⟩:=info_parts info34
                    have hroom71:t145.length≤co68:=(Kd.R_reads' HO147.out).2.1
                    have hC71:Kd.C k34 _ (some ad158) t145.length t145:=(Kd.R_reads' HO147.out).2.2
                    have hcut71:=cut_from (P:=Try.prog) 27 34 .i64 Try.underlying27 hi071 3 hsz71 (some ad158) t145.length co68 1 (by omega) q71
                    have hr71:=Kd.C_drop (m:=(1:Int).toNat) (c:=co68) hC71 (by omega) hroom71
                    obtain ⟨A71,hA71⟩:∃ A1,A1=(if co68=(1:Int).toNat then (some ad158) else ((some ad158):Option Addr).map (·.add ((1:Int).toNat * 3))):=⟨_,rfl⟩
                    obtain ⟨c71,hc71⟩:∃ c1,c1=co68 - (1:Int).toNat:=⟨_,rfl⟩
                    have hy71:y165.length=t145.length - (1:Int).toNat:=(by rw [Ny165.out,List.length_drop] <;> omega)
                    rw [show (t145).drop (1:Int).toNat=y165 from Ny165.out.symm] at hr71
                    replace hr71:Kd.C k34 _ A71 y165.length y165:=(by rw [hA71];exact hr71)
                    rw [← hy71,← hA71,← hc71] at hcut71
                    have HR168:=Aside0.mk hr71
                    have HC168:=Aside0.mk (show y165.length≤c71 from by rw [hy71,hc71];exact Nat.sub_le_sub_right hroom71 _)
                    clear hr71 hC71 hroom71 hi071 hsz71 hc71
                    have KY71:=Aside0.mk hy71
                    have KA71:=Aside0.mk hA71
                    clear hy71 hA71
                    have KL71:=Aside0.mk (show 1≤t145.length from by omega)
                    replace q71:=eq_true q71
                    refine start_ (n:=7) (S:=fun w'=>True) (ds:=[]) #[false,false,false,false,false,false,false] (by kernel_rfl) rfl rfl trivial (fun hHeld=>?_)
                    generalize w69.drew=w70 at HO_10 HO141 HO144 HO147 HO156 HB HR168 hHeld ⊢
                    refine pure_ (i:=1) (N:=some 99) (v:=?_) (a':=?_) #[false,true,false,false,false,false,false] rfl rfl (by kernel_rfl) (fun _ _ _ h=>h) (Or.inl ⟨by rfl,?_⟩) ?_ ?_
                    rotate_left;(intro w';go_simp;with_reducible rfl);rotate_left;(simp only [Act.put,q1_,q2_,q3_,i64_w,i32_w];rfl)
                    refine pure_ (i:=3) (N:=some 101) (v:=?_) (a':=?_) #[false,true,false,true,false,false,false] rfl rfl (by kernel_rfl) (fun _ _ _ h=>h) (Or.inl ⟨by rfl,?_⟩) ?_ ?_
                    rotate_left;(intro w';go_simp;with_reducible rfl);rotate_left;(simp only [Act.put,q1_,q2_,q3_,i64_w,i32_w];rfl)
                    refine pure_ (i:=4) (N:=some 102) (v:=?_) (a':=?_) #[false,true,false,true,true,false,false] rfl rfl (by kernel_rfl) (fun _ _ _ h=>h) (Or.inl ⟨by rfl,?_⟩) ?_ ?_
                    rotate_left;(intro w';go_simp;with_reducible rfl);rotate_left;(simp only [Act.put,q1_,q2_,q3_,i64_w,i32_w];rfl)
                    refine one_ (i:=0) (N:=some 98) #[true,true,false,true,true,false,false] rfl rfl (by kernel_rfl) (by decide) (fun K hK=>?_)
                    refine Kd.R_lit_step k34 _ 34 ?hg (N:=98) ?hd (xs:=([]:List (S34))) (inner:=[]) (ok:=fun _=>True) (okp:=fun _=>True) ?hr ?hp (fun _ hk=>hk) trivial (Below.refl _ _) (Nat.le_refl _) (by simp) ?_;(case hd=>rfl);(case hg=>rfl);(case hr=>first|(go_simp;done)|(go_simp;rfl));(case hp=>exact (Reps.none _ _))
                    intro v160 w72 ho73 hb hg_ hnew_
                    clear hg_ hnew_
                    (first|rw [← Ny159.out] at ho73|(simp only [Int.reduceToNat] at ho73;rw [← Ny159.out] at ho73))
                    have n0_:=Aside0.mk (Kd.R_below (by (with_reducible repeat (first|apply R_alloc|apply R_drewN|apply R_drew));exact HO_10.out) hb)
                    have n1_:=Aside0.mk (Kd.R_elder' (by (with_reducible repeat (first|apply R_alloc|apply R_drewN|apply R_drew));exact HO141.out) (Kd.R_base ho73) hb)
                    have n2_:=Aside0.mk (Kd.R_elder' (by (with_reducible repeat (first|apply R_alloc|apply R_drewN|apply R_drew));exact HO144.out) (Kd.R_base ho73) hb)
                    have n3_:=Aside0.mk (Kd.R_elder' (by (with_reducible repeat (first|apply R_alloc|apply R_drewN|apply R_drew));exact HO147.out) (Kd.R_base ho73) hb)
                    have n4_:=Aside0.mk (Kd.R_elder' (by (with_reducible repeat (first|apply R_alloc|apply R_drewN|apply R_drew));exact HO156.out) (Kd.R_base ho73) hb)
                    have n5_:=Aside0.mk (Kd.R_lower (Kd.R_new' (Kd.R_new' (Kd.R_new' (Kd.R_new' ho73 (Kd.R_lt (by (with_reducible repeat (first|apply R_alloc|apply R_drewN|apply R_drew));exact HO141.out))) (Kd.R_lt (by (with_reducible repeat (first|apply R_alloc|apply R_drewN|apply R_drew));exact HO144.out))) (Kd.R_lt (by (with_reducible repeat (first|apply R_alloc|apply R_drewN|apply R_drew));exact HO147.out))) (Kd.R_lt (by (with_reducible repeat (first|apply R_alloc|apply R_drewN|apply R_drew));exact HO156.out))) (below_size (by repeat (first|(with_reducible first|exact HB.out|apply below_alloc|apply pw_below_drewN|apply below_drew1)|exact HB.out))))
                    have n6_:=Aside0.mk (Kd.C_below (by repeat (first|(with_reducible exact HR168.out)|(with_reducible refine Kd.C_alloc ?_ _)|(with_reducible refine Kd.C_drewN ?_ _)|(with_reducible refine Kd.C_drew ?_)|exact HR168.out)) hb)
                    have n7_:=Aside0.mk (below_step (by repeat (first|(with_reducible first|exact HB.out|apply below_alloc|apply pw_below_drewN|apply below_drew1)|exact HB.out)) hb)
                    clear HO_10
                    clear HO141
                    clear HO144
                    clear HO147
                    clear HO156
                    clear HR168
                    clear HB
                    have HO_10:=n0_
                    have HO141:=n1_
                    have HO144:=n2_
                    have HO147:=n3_
                    have HO156:=n4_
                    have HO161:=n5_
                    have HR168:=n6_
                    have HB:=n7_
                    clear n0_ n1_ n2_ n3_ n4_ n5_ n6_ n7_
                    clear hb ho73
                    refine hK.out _ _ trivial (fun hHeld=>?_)
                    clear hK K
                    refine norm_ (a':=?_) ?_ ?_
                    rotate_left;(show Act.put _ (some 98) _=_;simp only [Act.put,q1_,q2_,q3_,i64_w,i32_w];rfl)
                    refine one_ (i:=2) (N:=some 100) #[true,true,true,true,true,false,false] rfl rfl (by kernel_rfl) (by decide) (fun K hK=>?_)
                    refine Kd.R_append_rows_step k34 (w0:=w) w.heap.size (by rfl) (.tmp 98) (.tmp 99) 27 34 (.agg #[(.int .i64 0),(.int .i64 0),(.int .i64 0)]) 24 rfl Try.underlying27 info34 rfl (by decide) (by omega) v160 y159 t142 _ _ _ (fun k_=>some k_ ≠ (v140:Value).ownBlock∧some k_ ≠ (.slice (some ad157) t142.length co66:Value).ownBlock∧some k_ ≠ (.slice (some ad158) t145.length co68:Value).ownBlock∧some k_ ≠ (v155:Value).ownBlock) (fun _=>False) rfl rfl ?aO ?aR (fun _ _ h=>h) (fun _ h=>h.elim) ?aF ?aB ?aS ?aL ?_
                    (case aR=>repeat (first|exact (Kd.R_reads' HO144.out).2.2|(with_reducible refine Kd.C_alloc ?_ _)|(with_reducible refine Kd.C_drewN ?_ _)|(with_reducible refine Kd.C_drew ?_)))
                    (case aB=>exact (by repeat (first|(with_reducible first|exact HB.out|apply below_alloc|apply pw_below_drewN|apply below_drew1)|exact HB.out)))
                    (case aF=>exact (fun k_ hk=>⟨Kd.fresh' (Kd.R_lt (by (with_reducible repeat (first|apply R_alloc|apply R_drewN|apply R_drew));exact HO141.out)) k_ hk,Kd.fresh' (Kd.R_lt (by (with_reducible repeat (first|apply R_alloc|apply R_drewN|apply R_drew));exact HO144.out)) k_ hk,Kd.fresh' (Kd.R_lt (by (with_reducible repeat (first|apply R_alloc|apply R_drewN|apply R_drew));exact HO147.out)) k_ hk,Kd.fresh' (Kd.R_lt (by (with_reducible repeat (first|apply R_alloc|apply R_drewN|apply R_drew));exact HO156.out)) k_ hk⟩))
                    (case aO=>exact (by (with_reducible repeat (first|apply R_alloc|apply R_drewN|apply R_drew));exact Kd.R_mono HO161.out (fun _ hk=>⟨hk.1.1.1.2,⟨hk.1.1.2,⟨hk.1.2,hk.2⟩⟩⟩)))
                    (case aS=>exact (below_size (by repeat (first|(with_reducible first|exact HB.out|apply below_alloc|apply pw_below_drewN|apply below_drew1)|exact HB.out))))
                    (case aL=>have:=LMc30.out;omega)
                    intro v163 w74 ho hb hg hat
                    rw [← Ny162.out] at ho
                    have n0_:=Aside0.mk (Kd.R_over' (by (with_reducible repeat (first|apply R_alloc|apply R_drewN|apply R_drew));exact HO_10.out) (Kd.R_typed (by (with_reducible repeat (first|apply R_alloc|apply R_drewN|apply R_drew));exact HO161.out)) (by decide) hg)
                    have n1_:=Aside0.mk (Kd.R_after (ok:=(fun k_=>some k_ ≠ (.slice (some ad157) t142.length co66:Value).ownBlock∧some k_ ≠ (.slice (some ad158) t145.length co68:Value).ownBlock∧some k_ ≠ (v155:Value).ownBlock)) (by (with_reducible repeat (first|apply R_alloc|apply R_drewN|apply R_drew));exact Kd.R_mono HO141.out (fun _ hk=>⟨⟨hk.1.1.1,⟨hk.1.1.2,hk.1.2⟩⟩,hk.2⟩)) hg hat)
                    have n2_:=Aside0.mk (Kd.R_after (ok:=(fun k_=>some k_ ≠ (v140:Value).ownBlock∧some k_ ≠ (.slice (some ad158) t145.length co68:Value).ownBlock∧some k_ ≠ (v155:Value).ownBlock)) (by (with_reducible repeat (first|apply R_alloc|apply R_drewN|apply R_drew));exact Kd.R_mono HO144.out (fun _ hk=>⟨⟨hk.1.1.1,⟨hk.1.1.2,hk.1.2⟩⟩,hk.2⟩)) hg hat)
                    have n3_:=Aside0.mk (Kd.R_after (ok:=(fun k_=>some k_ ≠ (v140:Value).ownBlock∧some k_ ≠ (.slice (some ad157) t142.length co66:Value).ownBlock∧some k_ ≠ (v155:Value).ownBlock)) (by (with_reducible repeat (first|apply R_alloc|apply R_drewN|apply R_drew));exact Kd.R_mono HO147.out (fun _ hk=>⟨⟨hk.1.1.1,⟨hk.1.1.2,hk.1.2⟩⟩,hk.2⟩)) hg hat)
                    have n4_:=Aside0.mk (Kd.R_after (ok:=(fun k_=>some k_ ≠ (v140:Value).ownBlock∧some k_ ≠ (.slice (some ad157) t142.length co66:Value).ownBlock∧some k_ ≠ (.slice (some ad158) t145.length co68:Value).ownBlock)) (by (with_reducible repeat (first|apply R_alloc|apply R_drewN|apply R_drew));exact HO156.out) hg hat)
                    have n5_:=Aside0.mk (hb)
                    have n6_:=Aside0.mk ((show Kd.C k34 w74 A71 y165.length y165 from by rw [Ny165.out,KA71.out];exact Kd.C_drop (m:=1) (c:=co68) ((Kd.R_reads' (Kd.R_after (ok:=(fun k_=>some k_ ≠ (v140:Value).ownBlock∧some k_ ≠ (.slice (some ad157) t142.length co66:Value).ownBlock∧some k_ ≠ (v155:Value).ownBlock)) (by (with_reducible repeat (first|apply R_alloc|apply R_drewN|apply R_drew));exact Kd.R_mono HO147.out (fun _ hk=>⟨⟨hk.1.1.1,⟨hk.1.1.2,hk.1.2⟩⟩,hk.2⟩)) hg hat)).2.2) KL71.out ((Kd.R_reads' (Kd.R_after (ok:=(fun k_=>some k_ ≠ (v140:Value).ownBlock∧some k_ ≠ (.slice (some ad157) t142.length co66:Value).ownBlock∧some k_ ≠ (v155:Value).ownBlock)) (by (with_reducible repeat (first|apply R_alloc|apply R_drewN|apply R_drew));exact Kd.R_mono HO147.out (fun _ hk=>⟨⟨hk.1.1.1,⟨hk.1.1.2,hk.1.2⟩⟩,hk.2⟩)) hg hat)).2.1)))
                    have n7_:=Aside0.mk (ho)
                    clear HO_10
                    clear HO141
                    clear HO144
                    clear HO147
                    clear HO156
                    clear HB
                    clear HR168
                    clear HO161
                    have HO_10:=n0_
                    have HO141:=n1_
                    have HO144:=n2_
                    have HO147:=n3_
                    have HO156:=n4_
                    have HB:=n5_
                    have HR168:=n6_
                    have HO164:=n7_
                    clear n0_ n1_ n2_ n3_ n4_ n5_ n6_ n7_
                    clear ho hb hg hat
                    refine hK.out _ _ trivial (fun hHeld=>?_)
                    clear hK K
                    refine norm_ (a':=?_) ?_ ?_
                    rotate_left;(show Act.put _ (some 100) _=_;simp only [Act.put,q1_,q2_,q3_,i64_w,i32_w];rfl)
                    refine one_ (i:=5) (N:=some 103) #[true,true,true,true,true,true,false] rfl rfl (by kernel_rfl) (by decide) (fun K hK=>?_)
                    refine Kd.R_append_rows_step k34 (w0:=w) w.heap.size (by rfl) (.tmp 100) (.tmp 102) 27 34 (.agg #[(.int .i64 0),(.int .i64 0),(.int .i64 0)]) 24 rfl Try.underlying27 info34 rfl (by decide) (by omega) v163 y162 y165 _ _ _ (fun k_=>some k_ ≠ (v140:Value).ownBlock∧some k_ ≠ (.slice (some ad157) t142.length co66:Value).ownBlock∧some k_ ≠ (.slice (some ad158) t145.length co68:Value).ownBlock∧some k_ ≠ (v155:Value).ownBlock) (fun _=>False) rfl rfl ?aO ?aR (fun _ _ h=>h) (fun _ h=>h.elim) ?aF ?aB ?aS ?aL ?_
                    (case aR=>repeat (first|exact (by repeat (first|(with_reducible exact HR168.out)|(with_reducible refine Kd.C_alloc ?_ _)|(with_reducible refine Kd.C_drewN ?_ _)|(with_reducible refine Kd.C_drew ?_)|exact HR168.out))|(with_reducible refine Kd.C_alloc ?_ _)|(with_reducible refine Kd.C_drewN ?_ _)|(with_reducible refine Kd.C_drew ?_)))
                    (case aB=>exact (by repeat (first|(with_reducible first|exact HB.out|apply below_alloc|apply pw_below_drewN|apply below_drew1)|exact HB.out)))
                    (case aF=>exact (fun k_ hk=>⟨Kd.fresh' (Kd.R_lt (by (with_reducible repeat (first|apply R_alloc|apply R_drewN|apply R_drew));exact HO141.out)) k_ hk,Kd.fresh' (Kd.R_lt (by (with_reducible repeat (first|apply R_alloc|apply R_drewN|apply R_drew));exact HO144.out)) k_ hk,Kd.fresh' (Kd.R_lt (by (with_reducible repeat (first|apply R_alloc|apply R_drewN|apply R_drew));exact HO147.out)) k_ hk,Kd.fresh' (Kd.R_lt (by (with_reducible repeat (first|apply R_alloc|apply R_drewN|apply R_drew));exact HO156.out)) k_ hk⟩))
                    (case aO=>exact (by (with_reducible repeat (first|apply R_alloc|apply R_drewN|apply R_drew));exact HO164.out))
                    (case aS=>exact (below_size (by repeat (first|(with_reducible first|exact HB.out|apply below_alloc|apply pw_below_drewN|apply below_drew1)|exact HB.out))))
                    (case aL=>have:=LMc32.out;omega)
                    intro v170 w75 ho hb hg hat
                    rw [← Ny169.out] at ho
                    have n0_:=Aside0.mk (Kd.R_over' (by (with_reducible repeat (first|apply R_alloc|apply R_drewN|apply R_drew));exact HO_10.out) (Kd.R_typed (by (with_reducible repeat (first|apply R_alloc|apply R_drewN|apply R_drew));exact HO164.out)) (by decide) hg)
                    have n1_:=Aside0.mk (Kd.R_after (ok:=(fun k_=>some k_ ≠ (.slice (some ad157) t142.length co66:Value).ownBlock∧some k_ ≠ (.slice (some ad158) t145.length co68:Value).ownBlock∧some k_ ≠ (v155:Value).ownBlock)) (by (with_reducible repeat (first|apply R_alloc|apply R_drewN|apply R_drew));exact HO141.out) hg hat)
                    have n2_:=Aside0.mk (Kd.R_after (ok:=(fun k_=>some k_ ≠ (v140:Value).ownBlock∧some k_ ≠ (.slice (some ad158) t145.length co68:Value).ownBlock∧some k_ ≠ (v155:Value).ownBlock)) (by (with_reducible repeat (first|apply R_alloc|apply R_drewN|apply R_drew));exact HO144.out) hg hat)
                    have n3_:=Aside0.mk (Kd.R_after (ok:=(fun k_=>some k_ ≠ (v140:Value).ownBlock∧some k_ ≠ (.slice (some ad157) t142.length co66:Value).ownBlock∧some k_ ≠ (v155:Value).ownBlock)) (by (with_reducible repeat (first|apply R_alloc|apply R_drewN|apply R_drew));exact HO147.out) hg hat)
                    have n4_:=Aside0.mk (Kd.R_after (ok:=(fun k_=>some k_ ≠ (v140:Value).ownBlock∧some k_ ≠ (.slice (some ad157) t142.length co66:Value).ownBlock∧some k_ ≠ (.slice (some ad158) t145.length co68:Value).ownBlock)) (by (with_reducible repeat (first|apply R_alloc|apply R_drewN|apply R_drew));exact HO156.out) hg hat)
                    have n5_:=Aside0.mk (hb)
                    have n6_:=Aside0.mk ((show Kd.C k34 w75 A71 y165.length y165 from by rw [Ny165.out,KA71.out];exact Kd.C_drop (m:=1) (c:=co68) ((Kd.R_reads' (Kd.R_after (ok:=(fun k_=>some k_ ≠ (v140:Value).ownBlock∧some k_ ≠ (.slice (some ad157) t142.length co66:Value).ownBlock∧some k_ ≠ (v155:Value).ownBlock)) (by (with_reducible repeat (first|apply R_alloc|apply R_drewN|apply R_drew));exact HO147.out) hg hat)).2.2) KL71.out ((Kd.R_reads' (Kd.R_after (ok:=(fun k_=>some k_ ≠ (v140:Value).ownBlock∧some k_ ≠ (.slice (some ad157) t142.length co66:Value).ownBlock∧some k_ ≠ (v155:Value).ownBlock)) (by (with_reducible repeat (first|apply R_alloc|apply R_drewN|apply R_drew));exact HO147.out) hg hat)).2.1)))
                    have n7_:=Aside0.mk (ho)
                    clear HO_10
                    clear HO141
                    clear HO144
                    clear HO147
                    clear HO156
                    clear HB
                    clear HR168
                    clear HO164
                    have HO_10:=n0_
                    have HO141:=n1_
                    have HO144:=n2_
                    have HO147:=n3_
                    have HO156:=n4_
                    have HB:=n5_
                    have HR168:=n6_
                    have HO171:=n7_
                    clear n0_ n1_ n2_ n3_ n4_ n5_ n6_ n7_
                    clear ho hb hg hat
                    refine hK.out _ _ trivial (fun hHeld=>?_)
                    clear hK K
                    refine norm_ (a':=?_) ?_ ?_
                    rotate_left;(show Act.put _ (some 103) _=_;simp only [Act.put,q1_,q2_,q3_,i64_w,i32_w];rfl)
                    refine pure_ (i:=6) (N:=some 18) (v:=?_) (a':=?_) #[true,true,true,true,true,true,true] rfl rfl (by kernel_rfl) (fun _ _ _ h=>h) (Or.inl ⟨by rfl,?_⟩) ?_ ?_
                    rotate_left;(intro w';go_simp;with_reducible rfl);rotate_left;(simp only [Act.put,q1_,q2_,q3_,i64_w,i32_w];rfl)
                    refine done_ (by kernel_rfl) ?_
                    have p172:0≤(0:Int):=(by omega)
                    have q172:0<(t145.length:Int):=of_decide_eq_true (by first|(with_reducible assumption)|assumption)
                    obtain ⟨ad172,e172,hx172_0,hx172_1,hx172_2⟩:=at_T34 (Kd.R_reads' HO147.out).2.2 0 p172 q172
                    obtain rfl:ad158=ad172:=(by injection e172)
                    have qi172:(0<t145.length)=True:=eq_true (by omega)
                    (try rw [show ((0:Int)).toNat=0 from rfl] at hx172_0)
                    (try rw [show 0 * 3=0 from rfl] at hx172_0)
                    (try rw [Addr.add_zero'] at hx172_0)
                    (try rw [show ((0:Int)).toNat=0 from rfl] at hx172_1)
                    (try rw [show 0 * 3=0 from rfl] at hx172_1)
                    (try rw [Addr.add_zero'] at hx172_1)
                    (try rw [show ((0:Int)).toNat=0 from rfl] at hx172_2)
                    (try rw [show 0 * 3=0 from rfl] at hx172_2)
                    (try rw [Addr.add_zero'] at hx172_2)
                    replace p172:=eq_true p172
                    replace q172:=eq_true q172
                    have p34:0≤((ji25):Int):=of_decide_eq_true (by first|(with_reducible assumption)|assumption)
                    have q34:((ji25):Int)<((y169.length:Int):Int):=of_decide_eq_true (by first|(with_reducible assumption)|assumption)
                    obtain ⟨go34,co34,eo34,gb34,gl34,cl34,HG34⟩:=Kd.R_form HO171.out (by omega)
                    (first|cases eo34|(injection eo34 with ea_ en_ ec_;(first|subst ea_|(injection ea_ with ea_;subst ea_));subst ec_;clear en_))
                    have GB34:=Aside0.mk gb34
                    have GG34:=Aside0.mk HG34
                    clear gb34 gl34 HG34
                    obtain ⟨ce34,hcl34,hM34,hcc34,hfr34⟩:=Kd.R_elem HO171.out z34 ((ji25):Int) p34 q34
                    obtain rfl:=k34_openM hM34
                    have hx34_0:w75.cell? ⟨go34,((ji25):Int).toNat * 3,none⟩=some (.int .i64 ((rd_T34 y169 (ji25)).f0)):=hcc34 0 _ rfl
                    have hx34_1:w75.cell? ⟨go34,((ji25):Int).toNat * 3+1,none⟩=some (.int .i64 ((rd_T34 y169 (ji25)).f1)):=hcc34 1 _ rfl
                    have hx34_2:w75.cell? ⟨go34,((ji25):Int).toNat * 3+2,none⟩=some (.int .i64 ((rd_T34 y169 (ji25)).f2)):=hcc34 2 _ rfl
                    have hf34_0:w75.frozen? ⟨go34,((ji25):Int).toNat * 3,none⟩=false:=hfr34 0
                    have hf34_1:w75.frozen? ⟨go34,((ji25):Int).toNat * 3+1,none⟩=false:=hfr34 1
                    have hf34_2:w75.frozen? ⟨go34,((ji25):Int).toNat * 3+2,none⟩=false:=hfr34 2
                    clear hcl34 hcc34 hfr34 hM34
                    replace p34:=eq_true p34
                    replace q34:=eq_true q34
                    have HX76:=Aside0.mk (show Kd.R k34 34 w75 w.heap.size (fun k_=>some k_ ≠ (v140:Value).ownBlock∧some k_ ≠ (.slice (some ad157) t142.length co66:Value).ownBlock∧some k_ ≠ (.slice (some ad158) t145.length co68:Value).ownBlock∧some k_ ≠ (v155:Value).ownBlock) (.slice (some ⟨go34,0,none⟩) y169.length co34) y169 from (by (with_reducible repeat (first|apply R_alloc|apply R_drewN|apply R_drew));exact HO171.out))
                    obtain ⟨ce76,hcl76,hM76,hcc76,hfr76⟩:=Kd.R_elem HX76.out z34 ((ji25):Int) (of_decide_eq_true (by first|(with_reducible assumption)|assumption)) (by have h_:((ji25):Int)<((y169.length:Int):Int):=of_decide_eq_true (by first|(with_reducible assumption)|assumption);first|exact h_|(have e_:=(Kd.R_reads' HO171.out).1;omega)|simpa using h_)
                    obtain rfl:=k34_openM hM76
                    have HP76:=Kd.R_seg HX76.out ((ji25):Int) (of_decide_eq_true (by first|(with_reducible assumption)|assumption)) (by have h_:((ji25):Int)<((y169.length:Int):Int):=of_decide_eq_true (by first|(with_reducible assumption)|assumption);first|exact h_|(have e_:=(Kd.R_reads' HO171.out).1;omega)|simpa using h_) (seg:=[.int .i64 ((rd_T34 t145 0).f2)]) (j:=2) hcl76 hcc76 (show 3≤3 from by decide) (x':=(⟨(rd_T34 y169 (ji25)).f0,(rd_T34 y169 (ji25)).f1,(rd_T34 t145 0).f2⟩:S34)) (k34_mkM _ _ _ (⟨(rd_T34 y169 (ji25)).f0,(rd_T34 y169 (ji25)).f1,(rd_T34 t145 0).f2⟩:S34) ) (fun _ hk=>hk)
                    have hx76_2:=hcc76 2 _ rfl
                    (try simp only [show (k34).sz=3 from rfl,Nat.mul_one,Nat.add_zero] at hx76_2)
                    have hf76_2:=hfr76 2
                    (try simp only [show (k34).sz=3 from rfl,Nat.mul_one,Nat.add_zero] at hf76_2)
                    clear hcl76 hcc76 hfr76 hM76
                    try go_wp2_with (first|((with_reducible refine gate_store (t:=3) (p:=113) rfl ?_);refine store_event (t:=3) (p:=113) (v:=?vo_w77) (w1:=(w75.setCell ⟨go34,((ji25):Int).toNat * 3+2,none⟩ (.int .i64 ((rd_T34 t145 0).f2)))) ?hg ?ho ?hn ?hr ?_;(case ho=>rfl);(case hg=>rfl);(case hn=>rfl);(case hr=>first|(go_simp;done)|(go_simp;rfl));intro w77 hw;have hg:w75.grownBy w77 (some go34):=(by rw [hw];exact HP76.2);have hp_:Kd.R k34 34 w77 w.heap.size (fun k_=>some k_ ≠ (v140:Value).ownBlock∧some k_ ≠ (.slice (some ad157) t142.length co66:Value).ownBlock∧some k_ ≠ (.slice (some ad158) t145.length co68:Value).ownBlock∧some k_ ≠ (v155:Value).ownBlock) (.slice (some ⟨go34,0,none⟩) y169.length co34) y173:=(by rw [hw,Ny173.out];exact HP76.1);clear HP76;have n0_:=Aside0.mk (Kd.R_over' (v:=(.slice (some ⟨go34,0,none⟩) y169.length co34)) (by (with_reducible repeat (first|apply R_alloc|apply R_drewN|apply R_drew));exact HO_10.out) (Kd.R_typed HO171.out) (by decide) hg);have n1_:=Aside0.mk (Kd.R_after (v:=(.slice (some ⟨go34,0,none⟩) y169.length co34)) (v1:=(.slice (some ⟨go34,0,none⟩) y169.length co34)) (ok:=(fun k_=>some k_ ≠ (.slice (some ad157) t142.length co66:Value).ownBlock∧some k_ ≠ (.slice (some ad158) t145.length co68:Value).ownBlock∧some k_ ≠ (v155:Value).ownBlock)) (by (with_reducible repeat (first|apply R_alloc|apply R_drewN|apply R_drew));exact HO141.out) hg (.inl rfl));have n2_:=Aside0.mk (Kd.R_after (v:=(.slice (some ⟨go34,0,none⟩) y169.length co34)) (v1:=(.slice (some ⟨go34,0,none⟩) y169.length co34)) (ok:=(fun k_=>some k_ ≠ (v140:Value).ownBlock∧some k_ ≠ (.slice (some ad158) t145.length co68:Value).ownBlock∧some k_ ≠ (v155:Value).ownBlock)) (by (with_reducible repeat (first|apply R_alloc|apply R_drewN|apply R_drew));exact HO144.out) hg (.inl rfl));have n3_:=Aside0.mk (Kd.R_after (v:=(.slice (some ⟨go34,0,none⟩) y169.length co34)) (v1:=(.slice (some ⟨go34,0,none⟩) y169.length co34)) (ok:=(fun k_=>some k_ ≠ (v140:Value).ownBlock∧some k_ ≠ (.slice (some ad157) t142.length co66:Value).ownBlock∧some k_ ≠ (v155:Value).ownBlock)) (by (with_reducible repeat (first|apply R_alloc|apply R_drewN|apply R_drew));exact HO147.out) hg (.inl rfl));have n4_:=Aside0.mk (Kd.R_after (v:=(.slice (some ⟨go34,0,none⟩) y169.length co34)) (v1:=(.slice (some ⟨go34,0,none⟩) y169.length co34)) (ok:=(fun k_=>some k_ ≠ (v140:Value).ownBlock∧some k_ ≠ (.slice (some ad157) t142.length co66:Value).ownBlock∧some k_ ≠ (.slice (some ad158) t145.length co68:Value).ownBlock)) (by (with_reducible repeat (first|apply R_alloc|apply R_drewN|apply R_drew));exact HO156.out) hg (.inl rfl));have n5_:=Aside0.mk (hp_);have n6_:=Aside0.mk ((by rw [hw];exact below_set (HB.out) GB34.out:Below w.heap.size w w77));have n7_:=Aside0.mk ((show Kd.C k34 w77 A71 y165.length y165 from by rw [Ny165.out,KA71.out];exact Kd.C_drop (m:=1) (c:=co68) ((Kd.R_reads' (Kd.R_after (v:=(.slice (some ⟨go34,0,none⟩) y169.length co34)) (v1:=(.slice (some ⟨go34,0,none⟩) y169.length co34)) (ok:=(fun k_=>some k_ ≠ (v140:Value).ownBlock∧some k_ ≠ (.slice (some ad157) t142.length co66:Value).ownBlock∧some k_ ≠ (v155:Value).ownBlock)) (by (with_reducible repeat (first|apply R_alloc|apply R_drewN|apply R_drew));exact HO147.out) hg (.inl rfl))).2.2) KL71.out ((Kd.R_reads' (Kd.R_after (v:=(.slice (some ⟨go34,0,none⟩) y169.length co34)) (v1:=(.slice (some ⟨go34,0,none⟩) y169.length co34)) (ok:=(fun k_=>some k_ ≠ (v140:Value).ownBlock∧some k_ ≠ (.slice (some ad157) t142.length co66:Value).ownBlock∧some k_ ≠ (v155:Value).ownBlock)) (by (with_reducible repeat (first|apply R_alloc|apply R_drewN|apply R_drew));exact HO147.out) hg (.inl rfl))).2.1)));clear HO_10;clear HO141;clear HO144;clear HO147;clear HO156;clear HO171;clear HB;clear HR168;have HO_10:=n0_;have HO141:=n1_;have HO144:=n2_;have HO147:=n3_;have HO156:=n4_;have HO171:=n5_;have HB:=n6_;have HR168:=n7_;clear n0_ n1_ n2_ n3_ n4_ n5_ n6_ n7_;clear hg hw hp_))
                    go_ret
                    exact ⟨by first|rfl|(simp [errW_none,errW_some] <;> rfl)|(simp only [← hji25];first|rfl|(simp [errW_none,errW_some] <;> rfl))|(simp [*,errW_none,errW_some] <;> rfl),by repeat (first|(with_reducible first|exact HB.out|apply below_alloc|apply pw_below_drewN|apply below_drew1)|exact HB.out)⟩
                  ·rw [if_neg c33] at H
                   exact absurd H (by simp)
                 ·rw [if_neg c32] at H
                  exact absurd H (by simp)
                ·rw [if_neg c31] at H
                 exact absurd H (by simp)
               ·rw [if_neg c30] at H
                exact absurd H (by simp)
              ·rw [if_neg c29] at H
               have c29b0:(((rd_T34 t142 (ji25)).f0) == ((rd_T34 t145 0).f0))=false:=beq_eq_false_iff_ne.mpr c29
               have c29b1:(((rd_T34 t142 (ji25)).f0) != ((rd_T34 t145 0).f0))=true:=bne_iff_ne.mpr c29
               by_cases c78:t133=true
               ·subst c78
                have H1:((souterrainref07_Same.f k1 t139 y154).bind fun t175=>(some t175))=some r:=by rw [if_pos rfl] at H;exact H
                clear H
                have H:=H1
                clear H1
                replace H:=Option.bind_eq_some_iff.mp H
                obtain ⟨t175,A790,H⟩:=H
                replace H:(some t175)=some r:=H
                have A79:=Aside0.mk A790
                clear A790
                obtain rfl:=Option.some.inj H
                obtain ⟨Ao80,co80,eo80⟩:=Kd.R_slice HO_10.out
                subst eo80
                try go_wp2_with (first|((with_reducible refine gate_callee (f:=14) rfl ?_);refine goesL_ (some 52) rfl rfl Try.func14 (by kernel_rfl) rfl #[.slice Ao80 x10_1.length co80] rfl (by (try simp only [List.map_toArray,List.map_cons,List.map_nil]);first|done|rfl|(simp only [List.length_drop,List.length_take];rfl)) ?_;(with_reducible refine (span_Size.calls _ _ x10_1 t138 _ ?side1 ?side2 A14.out).mono ?_);(case side1=>repeat (first|exact (Kd.R_reads' HO_10.out).2.2|(with_reducible refine Kd.C_alloc ?_ _)|(with_reducible refine Kd.C_drewN ?_ _)|(with_reducible refine Kd.C_drew ?_)));(case side2=>exact (Kd.R_reads' HO_10.out).2.1);rintro e w81 ⟨rfl,hb⟩;refine ⟨_,rfl,?_⟩;have n0_:=Aside0.mk (Kd.R_below (by (with_reducible repeat (first|apply R_alloc|apply R_drewN|apply R_drew));exact HO_10.out) hb);have n1_:=Aside0.mk (below_step (by repeat (first|(with_reducible first|exact HB.out|apply below_alloc|apply pw_below_drewN|apply below_drew1)|exact HB.out)) hb);clear HO_10;clear HB;have HO_10:=n0_;have HB:=n1_;clear n0_ n1_;(try clear hb);(try clear hb2);(try clear hk);(try clear hi))|((with_reducible refine gate_callee (f:=12) rfl ?_);refine goesL_ (some 58) rfl rfl Try.func12 (by kernel_rfl) rfl #[.slice Ao80 x10_1.length co80,.int .i64 (wrap64 (a1)),.int .i64 (wrap64 (a2))] rfl (by (try simp only [List.map_toArray,List.map_cons,List.map_nil]);first|done|rfl|(simp only [List.length_drop,List.length_take];rfl)) ?_;(with_reducible refine (span_Parts.calls _ _ x10_1 (wrap64 (a1)) (wrap64 (a2)) t139 _ ?side1 ?side2 A18.out).mono ?_);(case side1=>repeat (first|exact (Kd.R_reads' HO_10.out).2.2|(with_reducible refine Kd.C_alloc ?_ _)|(with_reducible refine Kd.C_drewN ?_ _)|(with_reducible refine Kd.C_drew ?_)));(case side2=>exact (Kd.R_reads' HO_10.out).2.1);rintro e w82 ⟨v140,rfl,ho0,hb⟩;refine ⟨_,rfl,?_⟩;have n0_:=Aside0.mk (Kd.R_below (by (with_reducible repeat (first|apply R_alloc|apply R_drewN|apply R_drew));exact HO_10.out) hb);have n1_:=Aside0.mk (Kd.R_lower ho0 (below_size (by repeat (first|(with_reducible first|exact HB.out|apply below_alloc|apply pw_below_drewN|apply below_drew1)|exact HB.out))));have n2_:=Aside0.mk (below_step (by repeat (first|(with_reducible first|exact HB.out|apply below_alloc|apply pw_below_drewN|apply below_drew1)|exact HB.out)) hb);clear HO_10;clear HB;have HO_10:=n0_;have HO141:=n1_;have HB:=n2_;clear n0_ n1_ n2_;(try clear hb);(try clear hb2);(try clear hk);(try clear hi);(try clear ho0))|((with_reducible refine gate_callee (f:=12) rfl ?_);refine goesL_ (some 62) rfl rfl Try.func12 (by kernel_rfl) rfl #[.slice Ao80 x10_1.length co80,.int .i64 (wrap64 (a1)),.int .i64 (Int.tmod (wrap64 (a3)) (wrap64 ((wrap64 (a2))+1)))] rfl (by (try simp only [List.map_toArray,List.map_cons,List.map_nil]);first|done|rfl|(simp only [List.length_drop,List.length_take];rfl)) ?_;(with_reducible refine (span_Parts.calls _ _ x10_1 (wrap64 (a1)) (Int.tmod (wrap64 (a3)) (wrap64 ((wrap64 (a2))+1))) t142 _ ?side1 ?side2 A19.out).mono ?_);(case side1=>repeat (first|exact (Kd.R_reads' HO_10.out).2.2|(with_reducible refine Kd.C_alloc ?_ _)|(with_reducible refine Kd.C_drewN ?_ _)|(with_reducible refine Kd.C_drew ?_)));(case side2=>exact (Kd.R_reads' HO_10.out).2.1);rintro e w83 ⟨v143,rfl,ho0,hb⟩;refine ⟨_,rfl,?_⟩;have n0_:=Aside0.mk (Kd.R_below (by (with_reducible repeat (first|apply R_alloc|apply R_drewN|apply R_drew));exact HO_10.out) hb);have n1_:=Aside0.mk (Kd.R_elder' (by (with_reducible repeat (first|apply R_alloc|apply R_drewN|apply R_drew));exact HO141.out) (Kd.R_base ho0) hb);have n2_:=Aside0.mk (Kd.R_lower (Kd.R_new' ho0 (Kd.R_lt (by (with_reducible repeat (first|apply R_alloc|apply R_drewN|apply R_drew));exact HO141.out))) (below_size (by repeat (first|(with_reducible first|exact HB.out|apply below_alloc|apply pw_below_drewN|apply below_drew1)|exact HB.out))));have n3_:=Aside0.mk (below_step (by repeat (first|(with_reducible first|exact HB.out|apply below_alloc|apply pw_below_drewN|apply below_drew1)|exact HB.out)) hb);clear HO_10;clear HO141;clear HB;have HO_10:=n0_;have HO141:=n1_;have HO144:=n2_;have HB:=n3_;clear n0_ n1_ n2_ n3_;(try clear hb);(try clear hb2);(try clear hk);(try clear hi);(try clear ho0))|((with_reducible refine gate_callee (f:=12) rfl ?_);refine goesL_ (some 70) rfl rfl Try.func12 (by kernel_rfl) rfl #[.slice Ao80 x10_1.length co80,.int .i64 (wrap64 ((wrap64 (a1))+(Int.tmod (wrap64 (a3)) (wrap64 ((wrap64 (a2))+1))))),.int .i64 (wrap64 ((wrap64 (a2)) - (Int.tmod (wrap64 (a3)) (wrap64 ((wrap64 (a2))+1)))))] rfl (by (try simp only [List.map_toArray,List.map_cons,List.map_nil]);first|done|rfl|(simp only [List.length_drop,List.length_take];rfl)) ?_;(with_reducible refine (span_Parts.calls _ _ x10_1 (wrap64 ((wrap64 (a1))+(Int.tmod (wrap64 (a3)) (wrap64 ((wrap64 (a2))+1))))) (wrap64 ((wrap64 (a2)) - (Int.tmod (wrap64 (a3)) (wrap64 ((wrap64 (a2))+1))))) t145 _ ?side1 ?side2 A20.out).mono ?_);(case side1=>repeat (first|exact (Kd.R_reads' HO_10.out).2.2|(with_reducible refine Kd.C_alloc ?_ _)|(with_reducible refine Kd.C_drewN ?_ _)|(with_reducible refine Kd.C_drew ?_)));(case side2=>exact (Kd.R_reads' HO_10.out).2.1);rintro e w84 ⟨v146,rfl,ho0,hb⟩;refine ⟨_,rfl,?_⟩;have n0_:=Aside0.mk (Kd.R_below (by (with_reducible repeat (first|apply R_alloc|apply R_drewN|apply R_drew));exact HO_10.out) hb);have n1_:=Aside0.mk (Kd.R_elder' (by (with_reducible repeat (first|apply R_alloc|apply R_drewN|apply R_drew));exact HO141.out) (Kd.R_base ho0) hb);have n2_:=Aside0.mk (Kd.R_elder' (by (with_reducible repeat (first|apply R_alloc|apply R_drewN|apply R_drew));exact HO144.out) (Kd.R_base ho0) hb);have n3_:=Aside0.mk (Kd.R_lower (Kd.R_new' (Kd.R_new' ho0 (Kd.R_lt (by (with_reducible repeat (first|apply R_alloc|apply R_drewN|apply R_drew));exact HO141.out))) (Kd.R_lt (by (with_reducible repeat (first|apply R_alloc|apply R_drewN|apply R_drew));exact HO144.out))) (below_size (by repeat (first|(with_reducible first|exact HB.out|apply below_alloc|apply pw_below_drewN|apply below_drew1)|exact HB.out))));have n4_:=Aside0.mk (below_step (by repeat (first|(with_reducible first|exact HB.out|apply below_alloc|apply pw_below_drewN|apply below_drew1)|exact HB.out)) hb);clear HO_10;clear HO141;clear HO144;clear HB;have HO_10:=n0_;have HO141:=n1_;have HO144:=n2_;have HO147:=n3_;have HB:=n4_;clear n0_ n1_ n2_ n3_ n4_;(try clear hb);(try clear hb2);(try clear hk);(try clear hi);(try clear ho0))|((with_reducible refine gate_dst (N:=71) rfl ?_);(try (refine gate_guard (by rfl) ?_;dsimp only));refine Kd.R_lit k34 _ 34 ?hg (N:=71) ?hd (xs:=([]:List (S34))) (inner:=[]) (ok:=fun _=>True) (okp:=fun _=>True) ?hr ?hp (fun _ hk=>hk) trivial (Below.refl _ _) (Nat.le_refl _) (by simp) ?_;(case hd=>rfl);(case hg=>rfl);(case hr=>first|(go_simp;done)|(go_simp;rfl));(case hp=>exact (Reps.none _ _));intro v149 w85 ho86 hb hg_ hnew_;clear hg_ hnew_;(first|rw [← Ny148.out] at ho86|(simp only [Int.reduceToNat] at ho86;rw [← Ny148.out] at ho86));have n0_:=Aside0.mk (Kd.R_below (by (with_reducible repeat (first|apply R_alloc|apply R_drewN|apply R_drew));exact HO_10.out) hb);have n1_:=Aside0.mk (Kd.R_elder' (by (with_reducible repeat (first|apply R_alloc|apply R_drewN|apply R_drew));exact HO141.out) (Kd.R_base ho86) hb);have n2_:=Aside0.mk (Kd.R_elder' (by (with_reducible repeat (first|apply R_alloc|apply R_drewN|apply R_drew));exact HO144.out) (Kd.R_base ho86) hb);have n3_:=Aside0.mk (Kd.R_elder' (by (with_reducible repeat (first|apply R_alloc|apply R_drewN|apply R_drew));exact HO147.out) (Kd.R_base ho86) hb);have n4_:=Aside0.mk (Kd.R_lower (Kd.R_new' (Kd.R_new' (Kd.R_new' ho86 (Kd.R_lt (by (with_reducible repeat (first|apply R_alloc|apply R_drewN|apply R_drew));exact HO141.out))) (Kd.R_lt (by (with_reducible repeat (first|apply R_alloc|apply R_drewN|apply R_drew));exact HO144.out))) (Kd.R_lt (by (with_reducible repeat (first|apply R_alloc|apply R_drewN|apply R_drew));exact HO147.out))) (below_size (by repeat (first|(with_reducible first|exact HB.out|apply below_alloc|apply pw_below_drewN|apply below_drew1)|exact HB.out))));have n5_:=Aside0.mk (below_step (by repeat (first|(with_reducible first|exact HB.out|apply below_alloc|apply pw_below_drewN|apply below_drew1)|exact HB.out)) hb);clear HO_10;clear HO141;clear HO144;clear HO147;clear HB;have HO_10:=n0_;have HO141:=n1_;have HO144:=n2_;have HO147:=n3_;have HO150:=n4_;have HB:=n5_;clear n0_ n1_ n2_ n3_ n4_ n5_;clear hb ho86;obtain ⟨Ao88,co88,eo88⟩:=Kd.R_slice HO144.out;subst eo88)|((with_reducible refine gate_builtin (b:=.append) (xs:=#[.tmp 71,.tmp 72]) rfl ?_);(try (refine gate_guard (by rfl) ?_;dsimp only));at_builtin;refine Kd.R_append_rows k34 (w0:=w) w.heap.size rfl (.tmp 71) (.tmp 72) 27 34 (.agg #[(.int .i64 0),(.int .i64 0),(.int .i64 0)]) 24 rfl Try.underlying27 info34 rfl (by decide) (by omega) v149 y148 t142 _ _ _ (fun k_=>some k_ ≠ (v140:Value).ownBlock∧some k_ ≠ (.slice Ao88 t142.length co88:Value).ownBlock∧some k_ ≠ (v146:Value).ownBlock) (fun _=>False) rfl rfl ?aO ?aR (fun _ _ h=>h) (fun _ h=>h.elim) ?aF ?aB ?aS ?aL ?_;(case aR=>repeat (first|exact (Kd.R_reads' HO144.out).2.2|(with_reducible refine Kd.C_alloc ?_ _)|(with_reducible refine Kd.C_drewN ?_ _)|(with_reducible refine Kd.C_drew ?_)));(case aB=>exact (by repeat (first|(with_reducible first|exact HB.out|apply below_alloc|apply pw_below_drewN|apply below_drew1)|exact HB.out)));(case aF=>exact (fun k_ hk=>⟨Kd.fresh' (Kd.R_lt (by (with_reducible repeat (first|apply R_alloc|apply R_drewN|apply R_drew));exact HO141.out)) k_ hk,Kd.fresh' (Kd.R_lt (by (with_reducible repeat (first|apply R_alloc|apply R_drewN|apply R_drew));exact HO144.out)) k_ hk,Kd.fresh' (Kd.R_lt (by (with_reducible repeat (first|apply R_alloc|apply R_drewN|apply R_drew));exact HO147.out)) k_ hk⟩));(case aO=>exact (by (with_reducible repeat (first|apply R_alloc|apply R_drewN|apply R_drew));exact Kd.R_mono HO150.out (fun _ hk=>⟨hk.1.1.2,⟨hk.1.2,hk.2⟩⟩)));(case aS=>exact (below_size (by repeat (first|(with_reducible first|exact HB.out|apply below_alloc|apply pw_below_drewN|apply below_drew1)|exact HB.out))));(case aL=>have:=LMc21.out;omega);intro v152 w87 ho hb hg hat;rw [← Ny151.out] at ho;have n0_:=Aside0.mk (Kd.R_over' (by (with_reducible repeat (first|apply R_alloc|apply R_drewN|apply R_drew));exact HO_10.out) (Kd.R_typed (by (with_reducible repeat (first|apply R_alloc|apply R_drewN|apply R_drew));exact HO150.out)) (by decide) hg);have n1_:=Aside0.mk (Kd.R_after (ok:=(fun k_=>some k_ ≠ (.slice Ao88 t142.length co88:Value).ownBlock∧some k_ ≠ (v146:Value).ownBlock)) (by (with_reducible repeat (first|apply R_alloc|apply R_drewN|apply R_drew));exact Kd.R_mono HO141.out (fun _ hk=>⟨⟨hk.1.1.2,hk.1.2⟩,hk.2⟩)) hg hat);have n2_:=Aside0.mk (Kd.R_after (ok:=(fun k_=>some k_ ≠ (v140:Value).ownBlock∧some k_ ≠ (v146:Value).ownBlock)) (by (with_reducible repeat (first|apply R_alloc|apply R_drewN|apply R_drew));exact Kd.R_mono HO144.out (fun _ hk=>⟨⟨hk.1.1.2,hk.1.2⟩,hk.2⟩)) hg hat);have n3_:=Aside0.mk (Kd.R_after (ok:=(fun k_=>some k_ ≠ (v140:Value).ownBlock∧some k_ ≠ (.slice Ao88 t142.length co88:Value).ownBlock)) (by (with_reducible repeat (first|apply R_alloc|apply R_drewN|apply R_drew));exact Kd.R_mono HO147.out (fun _ hk=>⟨⟨hk.1.1.2,hk.1.2⟩,hk.2⟩)) hg hat);have n4_:=Aside0.mk (hb);have n5_:=Aside0.mk (ho);clear HO_10;clear HO141;clear HO144;clear HO147;clear HB;clear HO150;have HO_10:=n0_;have HO141:=n1_;have HO144:=n2_;have HO147:=n3_;have HB:=n4_;have HO153:=n5_;clear n0_ n1_ n2_ n3_ n4_ n5_;clear ho hb hg hat;obtain ⟨Ao90,co90,eo90⟩:=Kd.R_slice HO147.out;subst eo90)|((with_reducible refine gate_builtin (b:=.append) (xs:=#[.tmp 73,.tmp 74]) rfl ?_);(try (refine gate_guard (by rfl) ?_;dsimp only));at_builtin;refine Kd.R_append_rows k34 (w0:=w) w.heap.size rfl (.tmp 73) (.tmp 74) 27 34 (.agg #[(.int .i64 0),(.int .i64 0),(.int .i64 0)]) 24 rfl Try.underlying27 info34 rfl (by decide) (by omega) v152 y151 t145 _ _ _ (fun k_=>some k_ ≠ (v140:Value).ownBlock∧some k_ ≠ (.slice Ao88 t142.length co88:Value).ownBlock∧some k_ ≠ (.slice Ao90 t145.length co90:Value).ownBlock) (fun _=>False) rfl rfl ?aO ?aR (fun _ _ h=>h) (fun _ h=>h.elim) ?aF ?aB ?aS ?aL ?_;(case aR=>repeat (first|exact (Kd.R_reads' HO147.out).2.2|(with_reducible refine Kd.C_alloc ?_ _)|(with_reducible refine Kd.C_drewN ?_ _)|(with_reducible refine Kd.C_drew ?_)));(case aB=>exact (by repeat (first|(with_reducible first|exact HB.out|apply below_alloc|apply pw_below_drewN|apply below_drew1)|exact HB.out)));(case aF=>exact (fun k_ hk=>⟨Kd.fresh' (Kd.R_lt (by (with_reducible repeat (first|apply R_alloc|apply R_drewN|apply R_drew));exact HO141.out)) k_ hk,Kd.fresh' (Kd.R_lt (by (with_reducible repeat (first|apply R_alloc|apply R_drewN|apply R_drew));exact HO144.out)) k_ hk,Kd.fresh' (Kd.R_lt (by (with_reducible repeat (first|apply R_alloc|apply R_drewN|apply R_drew));exact HO147.out)) k_ hk⟩));(case aO=>exact (by (with_reducible repeat (first|apply R_alloc|apply R_drewN|apply R_drew));exact HO153.out));(case aS=>exact (below_size (by repeat (first|(with_reducible first|exact HB.out|apply below_alloc|apply pw_below_drewN|apply below_drew1)|exact HB.out))));(case aL=>have:=LMc22.out;omega);intro v155 w89 ho hb hg hat;rw [← Ny154.out] at ho;have n0_:=Aside0.mk (Kd.R_over' (by (with_reducible repeat (first|apply R_alloc|apply R_drewN|apply R_drew));exact HO_10.out) (Kd.R_typed (by (with_reducible repeat (first|apply R_alloc|apply R_drewN|apply R_drew));exact HO153.out)) (by decide) hg);have n1_:=Aside0.mk (Kd.R_after (ok:=(fun k_=>some k_ ≠ (.slice Ao88 t142.length co88:Value).ownBlock∧some k_ ≠ (.slice Ao90 t145.length co90:Value).ownBlock)) (by (with_reducible repeat (first|apply R_alloc|apply R_drewN|apply R_drew));exact HO141.out) hg hat);have n2_:=Aside0.mk (Kd.R_after (ok:=(fun k_=>some k_ ≠ (v140:Value).ownBlock∧some k_ ≠ (.slice Ao90 t145.length co90:Value).ownBlock)) (by (with_reducible repeat (first|apply R_alloc|apply R_drewN|apply R_drew));exact HO144.out) hg hat);have n3_:=Aside0.mk (Kd.R_after (ok:=(fun k_=>some k_ ≠ (v140:Value).ownBlock∧some k_ ≠ (.slice Ao88 t142.length co88:Value).ownBlock)) (by (with_reducible repeat (first|apply R_alloc|apply R_drewN|apply R_drew));exact HO147.out) hg hat);have n4_:=Aside0.mk (hb);have n5_:=Aside0.mk (ho);clear HO_10;clear HO141;clear HO144;clear HO147;clear HB;clear HO153;have HO_10:=n0_;have HO141:=n1_;have HO144:=n2_;have HO147:=n3_;have HB:=n4_;have HO156:=n5_;clear n0_ n1_ n2_ n3_ n4_ n5_;clear ho hb hg hat))
                have n0_:=Aside0.mk (Kd.R_drew HO_10.out)
                have n1_:=Aside0.mk (Kd.R_drew HO141.out)
                have n2_:=Aside0.mk (Kd.R_drew HO144.out)
                have n3_:=Aside0.mk (Kd.R_drew HO147.out)
                have n4_:=Aside0.mk (Kd.R_drew HO156.out)
                have n5_:=Aside0.mk (below_drew1 HB.out)
                clear HO_10
                clear HO141
                clear HO144
                clear HO147
                clear HO156
                clear HB
                have HO_10:=n0_
                have HO141:=n1_
                have HO144:=n2_
                have HO147:=n3_
                have HO156:=n4_
                have HB:=n5_
                clear n0_ n1_ n2_ n3_ n4_ n5_
                have p157:0≤((ji25):Int):=of_decide_eq_true (by first|(with_reducible assumption)|assumption)
                have q157:(ji25)<(t142.length:Int):=of_decide_eq_true (by first|(with_reducible assumption)|assumption)
                obtain ⟨ad157,e157,hx157_0,hx157_1,hx157_2⟩:=at_T34 (Kd.R_reads' HO144.out).2.2 (ji25) p157 q157
                cases e157
                replace p157:=eq_true p157
                replace q157:=eq_true q157
                have p158:0≤(0:Int):=(by omega)
                have q158:0<(t145.length:Int):=of_decide_eq_true (by first|(with_reducible assumption)|assumption)
                obtain ⟨ad158,e158,hx158_0,hx158_1,hx158_2⟩:=at_T34 (Kd.R_reads' HO147.out).2.2 0 p158 q158
                cases e158
                have qi158:(0<t145.length)=True:=eq_true (by omega)
                (try rw [show ((0:Int)).toNat=0 from rfl] at hx158_0)
                (try rw [show 0 * 3=0 from rfl] at hx158_0)
                (try rw [Addr.add_zero'] at hx158_0)
                (try rw [show ((0:Int)).toNat=0 from rfl] at hx158_1)
                (try rw [show 0 * 3=0 from rfl] at hx158_1)
                (try rw [Addr.add_zero'] at hx158_1)
                (try rw [show ((0:Int)).toNat=0 from rfl] at hx158_2)
                (try rw [show 0 * 3=0 from rfl] at hx158_2)
                (try rw [Addr.add_zero'] at hx158_2)
                replace p158:=eq_true p158
                replace q158:=eq_true q158
                refine start_ (n:=22) (S:=fun w'=>w'.cell? (ad157.add (((ji25)).toNat * 3))=some (.int .i64 ((rd_T34 t142 (ji25)).f0))∧w'.cell? ⟨(ad157.add (((ji25)).toNat * 3)).block,(ad157.add (((ji25)).toNat * 3)).off+1,none⟩=some (.int .i64 ((rd_T34 t142 (ji25)).f1))∧w'.cell? ⟨(ad157.add (((ji25)).toNat * 3)).block,(ad157.add (((ji25)).toNat * 3)).off+2,none⟩=some (.int .i64 ((rd_T34 t142 (ji25)).f2))∧w'.cell? ad158=some (.int .i64 ((rd_T34 t145 0).f0))∧w'.cell? ⟨ad158.block,ad158.off+1,none⟩=some (.int .i64 ((rd_T34 t145 0).f1))∧w'.cell? ⟨ad158.block,ad158.off+2,none⟩=some (.int .i64 ((rd_T34 t145 0).f2))) (ds:=[]) #[z_,z_,z_,z_,z_,z_,z_,z_,z_,z_,z_,z_,z_,z_,z_,z_,z_,z_,z_,z_,z_,z_] (by kernel_rfl) rfl rfl ⟨hx157_0,hx157_1,hx157_2,hx158_0,hx158_1,hx158_2⟩ (fun hHeld=>?_);refine with_tabW souterrainlaw07_SpanParted.tab18 souterrainlaw07_SpanParted.bits18 (fun HT_ HW_=>?_)
                generalize w89.drew=w91 at HO_10 HO141 HO144 HO147 HO156 HB hx157_0 hx157_1 hx157_2 hx158_0 hx158_1 hx158_2 hHeld ⊢
                refine pure_ (i:=0) (N:=some 76) (v:=?_) (a':=?_) #[y_,z_,z_,z_,z_,z_,z_,z_,z_,z_,z_,z_,z_,z_,z_,z_,z_,z_,z_,z_,z_,z_] rfl rfl (any_of HT_.out (by kernel_rfl)) (fun _ _ _ h=>h) (Or.inl ⟨by rfl,?_⟩) ?_ ?_
                rotate_left;(intro w';go_simp;with_reducible rfl);rotate_left;(simp only [Act.put,q1_,q2_,q3_,i64_w,i32_w];rfl)
                refine pure_ (i:=1) (N:=some 77) (v:=?_) (a':=?_) #[y_,y_,z_,z_,z_,z_,z_,z_,z_,z_,z_,z_,z_,z_,z_,z_,z_,z_,z_,z_,z_,z_] rfl rfl (any_of HT_.out (by kernel_rfl)) (fun _ _ _ h=>h) (Or.inl ⟨by rfl,?_⟩) ?_ ?_
                rotate_left;(intro w';go_simp;with_reducible rfl);rotate_left;(simp only [Act.put,q1_,q2_,q3_,i64_w,i32_w];rfl)
                refine pure_ (i:=2) (N:=some 78) (v:=?_) (a':=?_) #[y_,y_,y_,z_,z_,z_,z_,z_,z_,z_,z_,z_,z_,z_,z_,z_,z_,z_,z_,z_,z_,z_] rfl rfl (any_of HT_.out (by kernel_rfl)) (fun _ _ _ h=>h) (Or.inl ⟨by rfl,?_⟩) ?_ ?_
                rotate_left;(intro w';go_simp;with_reducible rfl);rotate_left;(simp only [Act.put,q1_,q2_,q3_,i64_w,i32_w];rfl)
                refine pure_ (i:=3) (N:=some 79) (v:=?_) (a':=?_) #[y_,y_,y_,y_,z_,z_,z_,z_,z_,z_,z_,z_,z_,z_,z_,z_,z_,z_,z_,z_,z_,z_] rfl rfl (any_of HT_.out (by kernel_rfl)) (fun _ _ _ h=>h) (Or.inl ⟨by rfl,?_⟩) ?_ ?_
                rotate_left;(intro w';go_simp;with_reducible rfl);rotate_left;(simp only [Act.put,q1_,q2_,q3_,i64_w,i32_w];rfl)
                refine pure_ (i:=4) (N:=some 80) (v:=?_) (a':=?_) #[y_,y_,y_,y_,y_,z_,z_,z_,z_,z_,z_,z_,z_,z_,z_,z_,z_,z_,z_,z_,z_,z_] rfl rfl (any_of HT_.out (by kernel_rfl)) (fun _ _ _ h=>h) (Or.inl ⟨by rfl,?_⟩) ?_ ?_
                rotate_left;(intro w';go_simp;with_reducible rfl);rotate_left;(simp only [Act.put,q1_,q2_,q3_,i64_w,i32_w];rfl)
                refine pure_ (i:=5) (N:=some 81) (v:=?_) (a':=?_) #[y_,y_,y_,y_,y_,y_,z_,z_,z_,z_,z_,z_,z_,z_,z_,z_,z_,z_,z_,z_,z_,z_] rfl rfl (any_of HT_.out (by kernel_rfl)) (fun _ _ _ h=>h) (Or.inl ⟨by rfl,?_⟩) ?_ ?_
                rotate_left;(intro w';go_simp;with_reducible rfl);rotate_left;(simp only [Act.put,q1_,q2_,q3_,i64_w,i32_w];rfl)
                refine pure_ (i:=6) (N:=some 82) (v:=?_) (a':=?_) #[y_,y_,y_,y_,y_,y_,y_,z_,z_,z_,z_,z_,z_,z_,z_,z_,z_,z_,z_,z_,z_,z_] rfl rfl (any_of HT_.out (by kernel_rfl)) (fun _ _ _ h=>h) (Or.inl ⟨by rfl,?_⟩) ?_ ?_
                rotate_left;(intro w';go_simp;with_reducible rfl);rotate_left;(simp only [Act.put,q1_,q2_,q3_,i64_w,i32_w];rfl)
                refine pure_ (i:=7) (N:=some 83) (v:=?_) (a':=?_) #[y_,y_,y_,y_,y_,y_,y_,y_,z_,z_,z_,z_,z_,z_,z_,z_,z_,z_,z_,z_,z_,z_] rfl rfl (any_of HT_.out (by kernel_rfl)) (fun _ _ _ h=>h) (Or.inl ⟨by rfl,?_⟩) ?_ ?_
                rotate_left;(intro w';go_simp;with_reducible rfl);rotate_left;(simp only [Act.put,q1_,q2_,q3_,i64_w,i32_w];rfl)
                refine pure_ (i:=8) (N:=some 84) (v:=?_) (a':=?_) #[y_,y_,y_,y_,y_,y_,y_,y_,y_,z_,z_,z_,z_,z_,z_,z_,z_,z_,z_,z_,z_,z_] rfl rfl (any_of HT_.out (by kernel_rfl)) (fun _ _ _ h=>h) (Or.inl ⟨by rfl,?_⟩) ?_ ?_
                rotate_left;(intro w';go_simp;with_reducible rfl);rotate_left;(simp only [Act.put,q1_,q2_,q3_,i64_w,i32_w];rfl)
                refine pure_ (i:=9) (N:=some 85) (v:=?_) (a':=?_) #[y_,y_,y_,y_,y_,y_,y_,y_,y_,y_,z_,z_,z_,z_,z_,z_,z_,z_,z_,z_,z_,z_] rfl rfl (any_of HT_.out (by kernel_rfl)) (fun _ _ _ h=>h) (Or.inl ⟨by rfl,?_⟩) ?_ ?_
                rotate_left;(intro w';go_simp;with_reducible rfl);rotate_left;(simp only [Act.put,q1_,q2_,q3_,i64_w,i32_w];rfl)
                refine pure_ (i:=10) (N:=some 86) (v:=?_) (a':=?_) #[y_,y_,y_,y_,y_,y_,y_,y_,y_,y_,y_,z_,z_,z_,z_,z_,z_,z_,z_,z_,z_,z_] rfl rfl (any_of HT_.out (by kernel_rfl)) (fun _ _ _ h=>h) (Or.inl ⟨by rfl,?_⟩) ?_ ?_
                rotate_left;(intro w';go_simp;with_reducible rfl);rotate_left;(simp only [Act.put,q1_,q2_,q3_,i64_w,i32_w];rfl)
                refine pure_ (i:=11) (N:=some 87) (v:=?_) (a':=?_) #[y_,y_,y_,y_,y_,y_,y_,y_,y_,y_,y_,y_,z_,z_,z_,z_,z_,z_,z_,z_,z_,z_] rfl rfl (any_of HT_.out (by kernel_rfl)) (fun _ _ _ h=>h) (Or.inl ⟨by rfl,?_⟩) ?_ ?_
                rotate_left;(intro w';go_simp;with_reducible rfl);rotate_left;(simp only [Act.put,q1_,q2_,q3_,i64_w,i32_w];rfl)
                refine pure_ (i:=12) (N:=some 88) (v:=?_) (a':=?_) #[y_,y_,y_,y_,y_,y_,y_,y_,y_,y_,y_,y_,y_,z_,z_,z_,z_,z_,z_,z_,z_,z_] rfl rfl (any_of HT_.out (by kernel_rfl)) (fun _ _ _ h=>h) (Or.inl ⟨by rfl,?_⟩) ?_ ?_
                rotate_left;(intro w';go_simp;with_reducible rfl);rotate_left;(simp only [Act.put,q1_,q2_,q3_,i64_w,i32_w];rfl)
                refine pure_ (i:=13) (N:=some 89) (v:=?_) (a':=?_) #[y_,y_,y_,y_,y_,y_,y_,y_,y_,y_,y_,y_,y_,y_,z_,z_,z_,z_,z_,z_,z_,z_] rfl rfl (any_of HT_.out (by kernel_rfl)) (fun _ _ _ h=>h) (Or.inl ⟨by rfl,?_⟩) ?_ ?_
                rotate_left;(intro w';go_simp;with_reducible rfl);rotate_left;(simp only [Act.put,q1_,q2_,q3_,i64_w,i32_w];rfl)
                refine pure_ (i:=14) (N:=some 90) (v:=?_) (a':=?_) #[y_,y_,y_,y_,y_,y_,y_,y_,y_,y_,y_,y_,y_,y_,y_,z_,z_,z_,z_,z_,z_,z_] rfl rfl (any_of HT_.out (by kernel_rfl)) (fun _ _ _ h=>h) (Or.inl ⟨by rfl,?_⟩) ?_ ?_
                rotate_left;(intro w';go_simp;with_reducible rfl);rotate_left;(simp only [Act.put,q1_,q2_,q3_,i64_w,i32_w];rfl)
                refine pure_ (i:=16) (N:=some 92) (v:=?_) (a':=?_) #[y_,y_,y_,y_,y_,y_,y_,y_,y_,y_,y_,y_,y_,y_,y_,z_,y_,z_,z_,z_,z_,z_] rfl rfl (any_of HT_.out (by kernel_rfl)) (fun _ _ _ h=>h) (Or.inl ⟨by rfl,?_⟩) ?_ ?_
                rotate_left;(intro w';go_simp;with_reducible rfl);rotate_left;(simp only [Act.put,q1_,q2_,q3_,i64_w,i32_w];rfl)
                refine pure_ (i:=17) (N:=some 93) (v:=?_) (a':=?_) #[y_,y_,y_,y_,y_,y_,y_,y_,y_,y_,y_,y_,y_,y_,y_,z_,y_,y_,z_,z_,z_,z_] rfl rfl (any_of HT_.out (by kernel_rfl)) (fun _ _ _ h=>h) (Or.inl ⟨by rfl,?_⟩) ?_ ?_
                rotate_left;(intro w';go_simp;with_reducible rfl);rotate_left;(simp only [Act.put,q1_,q2_,q3_,i64_w,i32_w];rfl)
                refine pure_ (i:=18) (N:=some 94) (v:=?_) (a':=?_) #[y_,y_,y_,y_,y_,y_,y_,y_,y_,y_,y_,y_,y_,y_,y_,z_,y_,y_,y_,z_,z_,z_] rfl rfl (any_of HT_.out (by kernel_rfl)) (fun _ _ _ h=>h) (Or.inl ⟨by rfl,?_⟩) ?_ ?_
                rotate_left;(intro w';go_simp;with_reducible rfl);rotate_left;(simp only [Act.put,q1_,q2_,q3_,i64_w,i32_w];rfl)
                refine take_ (i:=15) (N:=some 91) (v:=?_) (a':=?_) #[y_,y_,y_,y_,y_,y_,y_,y_,y_,y_,y_,y_,y_,y_,y_,y_,y_,y_,y_,z_,z_,z_] rfl rfl (take_ofW HT_.out HW_.out (by kernel_rfl)) (fun _ _ _ h=>h) (Or.inl ⟨by rfl,?_⟩) hHeld ?_ ?_
                rotate_left;(rintro w' ⟨s0,s1,s2,s3,s4,s5⟩;go_simp;with_reducible rfl);rotate_left;(simp only [Act.put,q1_,q2_,q3_,i64_w,i32_w];rfl)
                refine take_ (i:=19) (N:=some 95) (v:=?_) (a':=?_) #[y_,y_,y_,y_,y_,y_,y_,y_,y_,y_,y_,y_,y_,y_,y_,y_,y_,y_,y_,y_,z_,z_] rfl rfl (take_ofW HT_.out HW_.out (by kernel_rfl)) (fun _ _ _ h=>h) (Or.inl ⟨by rfl,?_⟩) hHeld ?_ ?_
                rotate_left;(rintro w' ⟨s0,s1,s2,s3,s4,s5⟩;go_simp;with_reducible rfl);rotate_left;(simp only [Act.put,q1_,q2_,q3_,i64_w,i32_w];rfl)
                refine pure_ (i:=20) (N:=some 96) (v:=?_) (a':=?_) #[y_,y_,y_,y_,y_,y_,y_,y_,y_,y_,y_,y_,y_,y_,y_,y_,y_,y_,y_,y_,y_,z_] rfl rfl (any_of HT_.out (by kernel_rfl)) (fun _ _ _ h=>h) (Or.inl ⟨by rfl,?_⟩) ?_ ?_
                rotate_left;(intro w';go_simp;with_reducible rfl);rotate_left;(simp only [Act.put,q1_,q2_,q3_,i64_w,i32_w];rfl)
                refine pure_ (i:=21) (N:=some 97) (v:=?_) (a':=?_) #[y_,y_,y_,y_,y_,y_,y_,y_,y_,y_,y_,y_,y_,y_,y_,y_,y_,y_,y_,y_,y_,y_] rfl rfl (any_of HT_.out (by kernel_rfl)) (fun _ _ _ h=>h) (Or.inl ⟨by rfl,?_⟩) ?_ ?_
                rotate_left;(intro w';go_simp;with_reducible rfl);rotate_left;(simp only [Act.put,q1_,q2_,q3_,i64_w,i32_w];rfl)
                refine done_ (done_of HT_.out (by kernel_rfl)) ?_
                obtain ⟨Ao92,co92,eo92⟩:=Kd.R_slice HO141.out
                subst eo92
                obtain ⟨Ao93,co93,eo93⟩:=Kd.R_slice HO156.out
                subst eo93
                try go_wp2_with (first|(go_at_call 11;(with_reducible refine (souterrainref07_Same.calls k1 _ _ t139 _ _ y154 t175 _ ?side1 ?side2 ?side3 ?side4 A79.out).mono ?_);(case side1=>repeat (first|exact (Kd.R_reads' HO141.out).2.2|(with_reducible refine Kd.C_alloc ?_ _)|(with_reducible refine Kd.C_drewN ?_ _)|(with_reducible refine Kd.C_drew ?_)));(case side2=>exact (Kd.R_reads' HO141.out).2.1);(case side3=>repeat (first|exact (Kd.R_reads' HO156.out).2.2|(with_reducible refine Kd.C_alloc ?_ _)|(with_reducible refine Kd.C_drewN ?_ _)|(with_reducible refine Kd.C_drew ?_)));(case side4=>exact (Kd.R_reads' HO156.out).2.1);rintro e w' ⟨rfl,⟨nd,rfl⟩⟩))
                go_ret
                exact ⟨by first|rfl|(simp [errW_none,errW_some] <;> rfl)|(simp only [← hji25];first|rfl|(simp [errW_none,errW_some] <;> rfl))|(simp [*,errW_none,errW_some] <;> rfl),by repeat (first|(with_reducible first|exact HB.out|apply below_alloc|apply pw_below_drewN|apply below_drew1)|exact HB.out)⟩
               ·replace c78:=Bool.eq_false_iff.mpr c78
                subst c78
                have H1:(some false)=some r:=by rw [if_neg (show ¬ (false=true) by decide)] at H;exact H
                clear H
                have H:=H1
                clear H1
                obtain rfl:=Option.some.inj H
                obtain ⟨Ao94,co94,eo94⟩:=Kd.R_slice HO_10.out
                subst eo94
                try go_wp2_with (first|((with_reducible refine gate_callee (f:=14) rfl ?_);refine goesL_ (some 52) rfl rfl Try.func14 (by kernel_rfl) rfl #[.slice Ao94 x10_1.length co94] rfl (by (try simp only [List.map_toArray,List.map_cons,List.map_nil]);first|done|rfl|(simp only [List.length_drop,List.length_take];rfl)) ?_;(with_reducible refine (span_Size.calls _ _ x10_1 t138 _ ?side1 ?side2 A14.out).mono ?_);(case side1=>repeat (first|exact (Kd.R_reads' HO_10.out).2.2|(with_reducible refine Kd.C_alloc ?_ _)|(with_reducible refine Kd.C_drewN ?_ _)|(with_reducible refine Kd.C_drew ?_)));(case side2=>exact (Kd.R_reads' HO_10.out).2.1);rintro e w95 ⟨rfl,hb⟩;refine ⟨_,rfl,?_⟩;have n0_:=Aside0.mk (Kd.R_below (by (with_reducible repeat (first|apply R_alloc|apply R_drewN|apply R_drew));exact HO_10.out) hb);have n1_:=Aside0.mk (below_step (by repeat (first|(with_reducible first|exact HB.out|apply below_alloc|apply pw_below_drewN|apply below_drew1)|exact HB.out)) hb);clear HO_10;clear HB;have HO_10:=n0_;have HB:=n1_;clear n0_ n1_;(try clear hb);(try clear hb2);(try clear hk);(try clear hi))|((with_reducible refine gate_callee (f:=12) rfl ?_);refine goesL_ (some 58) rfl rfl Try.func12 (by kernel_rfl) rfl #[.slice Ao94 x10_1.length co94,.int .i64 (wrap64 (a1)),.int .i64 (wrap64 (a2))] rfl (by (try simp only [List.map_toArray,List.map_cons,List.map_nil]);first|done|rfl|(simp only [List.length_drop,List.length_take];rfl)) ?_;(with_reducible refine (span_Parts.calls _ _ x10_1 (wrap64 (a1)) (wrap64 (a2)) t139 _ ?side1 ?side2 A18.out).mono ?_);(case side1=>repeat (first|exact (Kd.R_reads' HO_10.out).2.2|(with_reducible refine Kd.C_alloc ?_ _)|(with_reducible refine Kd.C_drewN ?_ _)|(with_reducible refine Kd.C_drew ?_)));(case side2=>exact (Kd.R_reads' HO_10.out).2.1);rintro e w96 ⟨v140,rfl,ho0,hb⟩;refine ⟨_,rfl,?_⟩;have n0_:=Aside0.mk (Kd.R_below (by (with_reducible repeat (first|apply R_alloc|apply R_drewN|apply R_drew));exact HO_10.out) hb);have n1_:=Aside0.mk (Kd.R_lower ho0 (below_size (by repeat (first|(with_reducible first|exact HB.out|apply below_alloc|apply pw_below_drewN|apply below_drew1)|exact HB.out))));have n2_:=Aside0.mk (below_step (by repeat (first|(with_reducible first|exact HB.out|apply below_alloc|apply pw_below_drewN|apply below_drew1)|exact HB.out)) hb);clear HO_10;clear HB;have HO_10:=n0_;have HO141:=n1_;have HB:=n2_;clear n0_ n1_ n2_;(try clear hb);(try clear hb2);(try clear hk);(try clear hi);(try clear ho0))|((with_reducible refine gate_callee (f:=12) rfl ?_);refine goesL_ (some 62) rfl rfl Try.func12 (by kernel_rfl) rfl #[.slice Ao94 x10_1.length co94,.int .i64 (wrap64 (a1)),.int .i64 (Int.tmod (wrap64 (a3)) (wrap64 ((wrap64 (a2))+1)))] rfl (by (try simp only [List.map_toArray,List.map_cons,List.map_nil]);first|done|rfl|(simp only [List.length_drop,List.length_take];rfl)) ?_;(with_reducible refine (span_Parts.calls _ _ x10_1 (wrap64 (a1)) (Int.tmod (wrap64 (a3)) (wrap64 ((wrap64 (a2))+1))) t142 _ ?side1 ?side2 A19.out).mono ?_);(case side1=>repeat (first|exact (Kd.R_reads' HO_10.out).2.2|(with_reducible refine Kd.C_alloc ?_ _)|(with_reducible refine Kd.C_drewN ?_ _)|(with_reducible refine Kd.C_drew ?_)));(case side2=>exact (Kd.R_reads' HO_10.out).2.1);rintro e w97 ⟨v143,rfl,ho0,hb⟩;refine ⟨_,rfl,?_⟩;have n0_:=Aside0.mk (Kd.R_below (by (with_reducible repeat (first|apply R_alloc|apply R_drewN|apply R_drew));exact HO_10.out) hb);have n1_:=Aside0.mk (Kd.R_elder' (by (with_reducible repeat (first|apply R_alloc|apply R_drewN|apply R_drew));exact HO141.out) (Kd.R_base ho0) hb);have n2_:=Aside0.mk (Kd.R_lower (Kd.R_new' ho0 (Kd.R_lt (by (with_reducible repeat (first|apply R_alloc|apply R_drewN|apply R_drew));exact HO141.out))) (below_size (by repeat (first|(with_reducible first|exact HB.out|apply below_alloc|apply pw_below_drewN|apply below_drew1)|exact HB.out))));have n3_:=Aside0.mk (below_step (by repeat (first|(with_reducible first|exact HB.out|apply below_alloc|apply pw_below_drewN|apply below_drew1)|exact HB.out)) hb);clear HO_10;clear HO141;clear HB;have HO_10:=n0_;have HO141:=n1_;have HO144:=n2_;have HB:=n3_;clear n0_ n1_ n2_ n3_;(try clear hb);(try clear hb2);(try clear hk);(try clear hi);(try clear ho0))|((with_reducible refine gate_callee (f:=12) rfl ?_);refine goesL_ (some 70) rfl rfl Try.func12 (by kernel_rfl) rfl #[.slice Ao94 x10_1.length co94,.int .i64 (wrap64 ((wrap64 (a1))+(Int.tmod (wrap64 (a3)) (wrap64 ((wrap64 (a2))+1))))),.int .i64 (wrap64 ((wrap64 (a2)) - (Int.tmod (wrap64 (a3)) (wrap64 ((wrap64 (a2))+1)))))] rfl (by (try simp only [List.map_toArray,List.map_cons,List.map_nil]);first|done|rfl|(simp only [List.length_drop,List.length_take];rfl)) ?_;(with_reducible refine (span_Parts.calls _ _ x10_1 (wrap64 ((wrap64 (a1))+(Int.tmod (wrap64 (a3)) (wrap64 ((wrap64 (a2))+1))))) (wrap64 ((wrap64 (a2)) - (Int.tmod (wrap64 (a3)) (wrap64 ((wrap64 (a2))+1))))) t145 _ ?side1 ?side2 A20.out).mono ?_);(case side1=>repeat (first|exact (Kd.R_reads' HO_10.out).2.2|(with_reducible refine Kd.C_alloc ?_ _)|(with_reducible refine Kd.C_drewN ?_ _)|(with_reducible refine Kd.C_drew ?_)));(case side2=>exact (Kd.R_reads' HO_10.out).2.1);rintro e w98 ⟨v146,rfl,ho0,hb⟩;refine ⟨_,rfl,?_⟩;have n0_:=Aside0.mk (Kd.R_below (by (with_reducible repeat (first|apply R_alloc|apply R_drewN|apply R_drew));exact HO_10.out) hb);have n1_:=Aside0.mk (Kd.R_elder' (by (with_reducible repeat (first|apply R_alloc|apply R_drewN|apply R_drew));exact HO141.out) (Kd.R_base ho0) hb);have n2_:=Aside0.mk (Kd.R_elder' (by (with_reducible repeat (first|apply R_alloc|apply R_drewN|apply R_drew));exact HO144.out) (Kd.R_base ho0) hb);have n3_:=Aside0.mk (Kd.R_lower (Kd.R_new' (Kd.R_new' ho0 (Kd.R_lt (by (with_reducible repeat (first|apply R_alloc|apply R_drewN|apply R_drew));exact HO141.out))) (Kd.R_lt (by (with_reducible repeat (first|apply R_alloc|apply R_drewN|apply R_drew));exact HO144.out))) (below_size (by repeat (first|(with_reducible first|exact HB.out|apply below_alloc|apply pw_below_drewN|apply below_drew1)|exact HB.out))));have n4_:=Aside0.mk (below_step (by repeat (first|(with_reducible first|exact HB.out|apply below_alloc|apply pw_below_drewN|apply below_drew1)|exact HB.out)) hb);clear HO_10;clear HO141;clear HO144;clear HB;have HO_10:=n0_;have HO141:=n1_;have HO144:=n2_;have HO147:=n3_;have HB:=n4_;clear n0_ n1_ n2_ n3_ n4_;(try clear hb);(try clear hb2);(try clear hk);(try clear hi);(try clear ho0))|((with_reducible refine gate_dst (N:=71) rfl ?_);(try (refine gate_guard (by rfl) ?_;dsimp only));refine Kd.R_lit k34 _ 34 ?hg (N:=71) ?hd (xs:=([]:List (S34))) (inner:=[]) (ok:=fun _=>True) (okp:=fun _=>True) ?hr ?hp (fun _ hk=>hk) trivial (Below.refl _ _) (Nat.le_refl _) (by simp) ?_;(case hd=>rfl);(case hg=>rfl);(case hr=>first|(go_simp;done)|(go_simp;rfl));(case hp=>exact (Reps.none _ _));intro v149 w99 ho100 hb hg_ hnew_;clear hg_ hnew_;(first|rw [← Ny148.out] at ho100|(simp only [Int.reduceToNat] at ho100;rw [← Ny148.out] at ho100));have n0_:=Aside0.mk (Kd.R_below (by (with_reducible repeat (first|apply R_alloc|apply R_drewN|apply R_drew));exact HO_10.out) hb);have n1_:=Aside0.mk (Kd.R_elder' (by (with_reducible repeat (first|apply R_alloc|apply R_drewN|apply R_drew));exact HO141.out) (Kd.R_base ho100) hb);have n2_:=Aside0.mk (Kd.R_elder' (by (with_reducible repeat (first|apply R_alloc|apply R_drewN|apply R_drew));exact HO144.out) (Kd.R_base ho100) hb);have n3_:=Aside0.mk (Kd.R_elder' (by (with_reducible repeat (first|apply R_alloc|apply R_drewN|apply R_drew));exact HO147.out) (Kd.R_base ho100) hb);have n4_:=Aside0.mk (Kd.R_lower (Kd.R_new' (Kd.R_new' (Kd.R_new' ho100 (Kd.R_lt (by (with_reducible repeat (first|apply R_alloc|apply R_drewN|apply R_drew));exact HO141.out))) (Kd.R_lt (by (with_reducible repeat (first|apply R_alloc|apply R_drewN|apply R_drew));exact HO144.out))) (Kd.R_lt (by (with_reducible repeat (first|apply R_alloc|apply R_drewN|apply R_drew));exact HO147.out))) (below_size (by repeat (first|(with_reducible first|exact HB.out|apply below_alloc|apply pw_below_drewN|apply below_drew1)|exact HB.out))));have n5_:=Aside0.mk (below_step (by repeat (first|(with_reducible first|exact HB.out|apply below_alloc|apply pw_below_drewN|apply below_drew1)|exact HB.out)) hb);clear HO_10;clear HO141;clear HO144;clear HO147;clear HB;have HO_10:=n0_;have HO141:=n1_;have HO144:=n2_;have HO147:=n3_;have HO150:=n4_;have HB:=n5_;clear n0_ n1_ n2_ n3_ n4_ n5_;clear hb ho100;obtain ⟨Ao102,co102,eo102⟩:=Kd.R_slice HO144.out;subst eo102)|((with_reducible refine gate_builtin (b:=.append) (xs:=#[.tmp 71,.tmp 72]) rfl ?_);(try (refine gate_guard (by rfl) ?_;dsimp only));at_builtin;refine Kd.R_append_rows k34 (w0:=w) w.heap.size rfl (.tmp 71) (.tmp 72) 27 34 (.agg #[(.int .i64 0),(.int .i64 0),(.int .i64 0)]) 24 rfl Try.underlying27 info34 rfl (by decide) (by omega) v149 y148 t142 _ _ _ (fun k_=>some k_ ≠ (v140:Value).ownBlock∧some k_ ≠ (.slice Ao102 t142.length co102:Value).ownBlock∧some k_ ≠ (v146:Value).ownBlock) (fun _=>False) rfl rfl ?aO ?aR (fun _ _ h=>h) (fun _ h=>h.elim) ?aF ?aB ?aS ?aL ?_;(case aR=>repeat (first|exact (Kd.R_reads' HO144.out).2.2|(with_reducible refine Kd.C_alloc ?_ _)|(with_reducible refine Kd.C_drewN ?_ _)|(with_reducible refine Kd.C_drew ?_)));(case aB=>exact (by repeat (first|(with_reducible first|exact HB.out|apply below_alloc|apply pw_below_drewN|apply below_drew1)|exact HB.out)));(case aF=>exact (fun k_ hk=>⟨Kd.fresh' (Kd.R_lt (by (with_reducible repeat (first|apply R_alloc|apply R_drewN|apply R_drew));exact HO141.out)) k_ hk,Kd.fresh' (Kd.R_lt (by (with_reducible repeat (first|apply R_alloc|apply R_drewN|apply R_drew));exact HO144.out)) k_ hk,Kd.fresh' (Kd.R_lt (by (with_reducible repeat (first|apply R_alloc|apply R_drewN|apply R_drew));exact HO147.out)) k_ hk⟩));(case aO=>exact (by (with_reducible repeat (first|apply R_alloc|apply R_drewN|apply R_drew));exact Kd.R_mono HO150.out (fun _ hk=>⟨hk.1.1.2,⟨hk.1.2,hk.2⟩⟩)));(case aS=>exact (below_size (by repeat (first|(with_reducible first|exact HB.out|apply below_alloc|apply pw_below_drewN|apply below_drew1)|exact HB.out))));(case aL=>have:=LMc21.out;omega);intro v152 w101 ho hb hg hat;rw [← Ny151.out] at ho;have n0_:=Aside0.mk (Kd.R_over' (by (with_reducible repeat (first|apply R_alloc|apply R_drewN|apply R_drew));exact HO_10.out) (Kd.R_typed (by (with_reducible repeat (first|apply R_alloc|apply R_drewN|apply R_drew));exact HO150.out)) (by decide) hg);have n1_:=Aside0.mk (Kd.R_after (ok:=(fun k_=>some k_ ≠ (.slice Ao102 t142.length co102:Value).ownBlock∧some k_ ≠ (v146:Value).ownBlock)) (by (with_reducible repeat (first|apply R_alloc|apply R_drewN|apply R_drew));exact Kd.R_mono HO141.out (fun _ hk=>⟨⟨hk.1.1.2,hk.1.2⟩,hk.2⟩)) hg hat);have n2_:=Aside0.mk (Kd.R_after (ok:=(fun k_=>some k_ ≠ (v140:Value).ownBlock∧some k_ ≠ (v146:Value).ownBlock)) (by (with_reducible repeat (first|apply R_alloc|apply R_drewN|apply R_drew));exact Kd.R_mono HO144.out (fun _ hk=>⟨⟨hk.1.1.2,hk.1.2⟩,hk.2⟩)) hg hat);have n3_:=Aside0.mk (Kd.R_after (ok:=(fun k_=>some k_ ≠ (v140:Value).ownBlock∧some k_ ≠ (.slice Ao102 t142.length co102:Value).ownBlock)) (by (with_reducible repeat (first|apply R_alloc|apply R_drewN|apply R_drew));exact Kd.R_mono HO147.out (fun _ hk=>⟨⟨hk.1.1.2,hk.1.2⟩,hk.2⟩)) hg hat);have n4_:=Aside0.mk (hb);have n5_:=Aside0.mk (ho);clear HO_10;clear HO141;clear HO144;clear HO147;clear HB;clear HO150;have HO_10:=n0_;have HO141:=n1_;have HO144:=n2_;have HO147:=n3_;have HB:=n4_;have HO153:=n5_;clear n0_ n1_ n2_ n3_ n4_ n5_;clear ho hb hg hat;obtain ⟨Ao104,co104,eo104⟩:=Kd.R_slice HO147.out;subst eo104)|((with_reducible refine gate_builtin (b:=.append) (xs:=#[.tmp 73,.tmp 74]) rfl ?_);(try (refine gate_guard (by rfl) ?_;dsimp only));at_builtin;refine Kd.R_append_rows k34 (w0:=w) w.heap.size rfl (.tmp 73) (.tmp 74) 27 34 (.agg #[(.int .i64 0),(.int .i64 0),(.int .i64 0)]) 24 rfl Try.underlying27 info34 rfl (by decide) (by omega) v152 y151 t145 _ _ _ (fun k_=>some k_ ≠ (v140:Value).ownBlock∧some k_ ≠ (.slice Ao102 t142.length co102:Value).ownBlock∧some k_ ≠ (.slice Ao104 t145.length co104:Value).ownBlock) (fun _=>False) rfl rfl ?aO ?aR (fun _ _ h=>h) (fun _ h=>h.elim) ?aF ?aB ?aS ?aL ?_;(case aR=>repeat (first|exact (Kd.R_reads' HO147.out).2.2|(with_reducible refine Kd.C_alloc ?_ _)|(with_reducible refine Kd.C_drewN ?_ _)|(with_reducible refine Kd.C_drew ?_)));(case aB=>exact (by repeat (first|(with_reducible first|exact HB.out|apply below_alloc|apply pw_below_drewN|apply below_drew1)|exact HB.out)));(case aF=>exact (fun k_ hk=>⟨Kd.fresh' (Kd.R_lt (by (with_reducible repeat (first|apply R_alloc|apply R_drewN|apply R_drew));exact HO141.out)) k_ hk,Kd.fresh' (Kd.R_lt (by (with_reducible repeat (first|apply R_alloc|apply R_drewN|apply R_drew));exact HO144.out)) k_ hk,Kd.fresh' (Kd.R_lt (by (with_reducible repeat (first|apply R_alloc|apply R_drewN|apply R_drew));exact HO147.out)) k_ hk⟩));(case aO=>exact (by (with_reducible repeat (first|apply R_alloc|apply R_drewN|apply R_drew));exact HO153.out));(case aS=>exact (below_size (by repeat (first|(with_reducible first|exact HB.out|apply below_alloc|apply pw_below_drewN|apply below_drew1)|exact HB.out))));(case aL=>have:=LMc22.out;omega);intro v155 w103 ho hb hg hat;rw [← Ny154.out] at ho;have n0_:=Aside0.mk (Kd.R_over' (by (with_reducible repeat (first|apply R_alloc|apply R_drewN|apply R_drew));exact HO_10.out) (Kd.R_typed (by (with_reducible repeat (first|apply R_alloc|apply R_drewN|apply R_drew));exact HO153.out)) (by decide) hg);have n1_:=Aside0.mk (Kd.R_after (ok:=(fun k_=>some k_ ≠ (.slice Ao102 t142.length co102:Value).ownBlock∧some k_ ≠ (.slice Ao104 t145.length co104:Value).ownBlock)) (by (with_reducible repeat (first|apply R_alloc|apply R_drewN|apply R_drew));exact HO141.out) hg hat);have n2_:=Aside0.mk (Kd.R_after (ok:=(fun k_=>some k_ ≠ (v140:Value).ownBlock∧some k_ ≠ (.slice Ao104 t145.length co104:Value).ownBlock)) (by (with_reducible repeat (first|apply R_alloc|apply R_drewN|apply R_drew));exact HO144.out) hg hat);have n3_:=Aside0.mk (Kd.R_after (ok:=(fun k_=>some k_ ≠ (v140:Value).ownBlock∧some k_ ≠ (.slice Ao102 t142.length co102:Value).ownBlock)) (by (with_reducible repeat (first|apply R_alloc|apply R_drewN|apply R_drew));exact HO147.out) hg hat);have n4_:=Aside0.mk (hb);have n5_:=Aside0.mk (ho);clear HO_10;clear HO141;clear HO144;clear HO147;clear HB;clear HO153;have HO_10:=n0_;have HO141:=n1_;have HO144:=n2_;have HO147:=n3_;have HB:=n4_;have HO156:=n5_;clear n0_ n1_ n2_ n3_ n4_ n5_;clear ho hb hg hat))
                have n0_:=Aside0.mk (Kd.R_drew HO_10.out)
                have n1_:=Aside0.mk (Kd.R_drew HO141.out)
                have n2_:=Aside0.mk (Kd.R_drew HO144.out)
                have n3_:=Aside0.mk (Kd.R_drew HO147.out)
                have n4_:=Aside0.mk (Kd.R_drew HO156.out)
                have n5_:=Aside0.mk (below_drew1 HB.out)
                clear HO_10
                clear HO141
                clear HO144
                clear HO147
                clear HO156
                clear HB
                have HO_10:=n0_
                have HO141:=n1_
                have HO144:=n2_
                have HO147:=n3_
                have HO156:=n4_
                have HB:=n5_
                clear n0_ n1_ n2_ n3_ n4_ n5_
                have p157:0≤((ji25):Int):=of_decide_eq_true (by first|(with_reducible assumption)|assumption)
                have q157:(ji25)<(t142.length:Int):=of_decide_eq_true (by first|(with_reducible assumption)|assumption)
                obtain ⟨ad157,e157,hx157_0,hx157_1,hx157_2⟩:=at_T34 (Kd.R_reads' HO144.out).2.2 (ji25) p157 q157
                cases e157
                replace p157:=eq_true p157
                replace q157:=eq_true q157
                have p158:0≤(0:Int):=(by omega)
                have q158:0<(t145.length:Int):=of_decide_eq_true (by first|(with_reducible assumption)|assumption)
                obtain ⟨ad158,e158,hx158_0,hx158_1,hx158_2⟩:=at_T34 (Kd.R_reads' HO147.out).2.2 0 p158 q158
                cases e158
                have qi158:(0<t145.length)=True:=eq_true (by omega)
                (try rw [show ((0:Int)).toNat=0 from rfl] at hx158_0)
                (try rw [show 0 * 3=0 from rfl] at hx158_0)
                (try rw [Addr.add_zero'] at hx158_0)
                (try rw [show ((0:Int)).toNat=0 from rfl] at hx158_1)
                (try rw [show 0 * 3=0 from rfl] at hx158_1)
                (try rw [Addr.add_zero'] at hx158_1)
                (try rw [show ((0:Int)).toNat=0 from rfl] at hx158_2)
                (try rw [show 0 * 3=0 from rfl] at hx158_2)
                (try rw [Addr.add_zero'] at hx158_2)
                replace p158:=eq_true p158
                replace q158:=eq_true q158
                refine start_ (n:=22) (S:=fun w'=>w'.cell? (ad157.add (((ji25)).toNat * 3))=some (.int .i64 ((rd_T34 t142 (ji25)).f0))∧w'.cell? ⟨(ad157.add (((ji25)).toNat * 3)).block,(ad157.add (((ji25)).toNat * 3)).off+1,none⟩=some (.int .i64 ((rd_T34 t142 (ji25)).f1))∧w'.cell? ⟨(ad157.add (((ji25)).toNat * 3)).block,(ad157.add (((ji25)).toNat * 3)).off+2,none⟩=some (.int .i64 ((rd_T34 t142 (ji25)).f2))∧w'.cell? ad158=some (.int .i64 ((rd_T34 t145 0).f0))∧w'.cell? ⟨ad158.block,ad158.off+1,none⟩=some (.int .i64 ((rd_T34 t145 0).f1))∧w'.cell? ⟨ad158.block,ad158.off+2,none⟩=some (.int .i64 ((rd_T34 t145 0).f2))) (ds:=[]) #[z_,z_,z_,z_,z_,z_,z_,z_,z_,z_,z_,z_,z_,z_,z_,z_,z_,z_,z_,z_,z_,z_] (by kernel_rfl) rfl rfl ⟨hx157_0,hx157_1,hx157_2,hx158_0,hx158_1,hx158_2⟩ (fun hHeld=>?_);refine with_tabW souterrainlaw07_SpanParted.tab18 souterrainlaw07_SpanParted.bits18 (fun HT_ HW_=>?_)
                generalize w103.drew=w105 at HO_10 HO141 HO144 HO147 HO156 HB hx157_0 hx157_1 hx157_2 hx158_0 hx158_1 hx158_2 hHeld ⊢
                refine pure_ (i:=0) (N:=some 76) (v:=?_) (a':=?_) #[y_,z_,z_,z_,z_,z_,z_,z_,z_,z_,z_,z_,z_,z_,z_,z_,z_,z_,z_,z_,z_,z_] rfl rfl (any_of HT_.out (by kernel_rfl)) (fun _ _ _ h=>h) (Or.inl ⟨by rfl,?_⟩) ?_ ?_
                rotate_left;(intro w';go_simp;with_reducible rfl);rotate_left;(simp only [Act.put,q1_,q2_,q3_,i64_w,i32_w];rfl)
                refine pure_ (i:=1) (N:=some 77) (v:=?_) (a':=?_) #[y_,y_,z_,z_,z_,z_,z_,z_,z_,z_,z_,z_,z_,z_,z_,z_,z_,z_,z_,z_,z_,z_] rfl rfl (any_of HT_.out (by kernel_rfl)) (fun _ _ _ h=>h) (Or.inl ⟨by rfl,?_⟩) ?_ ?_
                rotate_left;(intro w';go_simp;with_reducible rfl);rotate_left;(simp only [Act.put,q1_,q2_,q3_,i64_w,i32_w];rfl)
                refine pure_ (i:=2) (N:=some 78) (v:=?_) (a':=?_) #[y_,y_,y_,z_,z_,z_,z_,z_,z_,z_,z_,z_,z_,z_,z_,z_,z_,z_,z_,z_,z_,z_] rfl rfl (any_of HT_.out (by kernel_rfl)) (fun _ _ _ h=>h) (Or.inl ⟨by rfl,?_⟩) ?_ ?_
                rotate_left;(intro w';go_simp;with_reducible rfl);rotate_left;(simp only [Act.put,q1_,q2_,q3_,i64_w,i32_w];rfl)
                refine pure_ (i:=3) (N:=some 79) (v:=?_) (a':=?_) #[y_,y_,y_,y_,z_,z_,z_,z_,z_,z_,z_,z_,z_,z_,z_,z_,z_,z_,z_,z_,z_,z_] rfl rfl (any_of HT_.out (by kernel_rfl)) (fun _ _ _ h=>h) (Or.inl ⟨by rfl,?_⟩) ?_ ?_
                rotate_left;(intro w';go_simp;with_reducible rfl);rotate_left;(simp only [Act.put,q1_,q2_,q3_,i64_w,i32_w];rfl)
                refine pure_ (i:=4) (N:=some 80) (v:=?_) (a':=?_) #[y_,y_,y_,y_,y_,z_,z_,z_,z_,z_,z_,z_,z_,z_,z_,z_,z_,z_,z_,z_,z_,z_] rfl rfl (any_of HT_.out (by kernel_rfl)) (fun _ _ _ h=>h) (Or.inl ⟨by rfl,?_⟩) ?_ ?_
                rotate_left;(intro w';go_simp;with_reducible rfl);rotate_left;(simp only [Act.put,q1_,q2_,q3_,i64_w,i32_w];rfl)
                refine pure_ (i:=5) (N:=some 81) (v:=?_) (a':=?_) #[y_,y_,y_,y_,y_,y_,z_,z_,z_,z_,z_,z_,z_,z_,z_,z_,z_,z_,z_,z_,z_,z_] rfl rfl (any_of HT_.out (by kernel_rfl)) (fun _ _ _ h=>h) (Or.inl ⟨by rfl,?_⟩) ?_ ?_
                rotate_left;(intro w';go_simp;with_reducible rfl);rotate_left;(simp only [Act.put,q1_,q2_,q3_,i64_w,i32_w];rfl)
                refine pure_ (i:=6) (N:=some 82) (v:=?_) (a':=?_) #[y_,y_,y_,y_,y_,y_,y_,z_,z_,z_,z_,z_,z_,z_,z_,z_,z_,z_,z_,z_,z_,z_] rfl rfl (any_of HT_.out (by kernel_rfl)) (fun _ _ _ h=>h) (Or.inl ⟨by rfl,?_⟩) ?_ ?_
                rotate_left;(intro w';go_simp;with_reducible rfl);rotate_left;(simp only [Act.put,q1_,q2_,q3_,i64_w,i32_w];rfl)
                refine pure_ (i:=7) (N:=some 83) (v:=?_) (a':=?_) #[y_,y_,y_,y_,y_,y_,y_,y_,z_,z_,z_,z_,z_,z_,z_,z_,z_,z_,z_,z_,z_,z_] rfl rfl (any_of HT_.out (by kernel_rfl)) (fun _ _ _ h=>h) (Or.inl ⟨by rfl,?_⟩) ?_ ?_
                rotate_left;(intro w';go_simp;with_reducible rfl);rotate_left;(simp only [Act.put,q1_,q2_,q3_,i64_w,i32_w];rfl)
                refine pure_ (i:=8) (N:=some 84) (v:=?_) (a':=?_) #[y_,y_,y_,y_,y_,y_,y_,y_,y_,z_,z_,z_,z_,z_,z_,z_,z_,z_,z_,z_,z_,z_] rfl rfl (any_of HT_.out (by kernel_rfl)) (fun _ _ _ h=>h) (Or.inl ⟨by rfl,?_⟩) ?_ ?_
                rotate_left;(intro w';go_simp;with_reducible rfl);rotate_left;(simp only [Act.put,q1_,q2_,q3_,i64_w,i32_w];rfl)
                refine pure_ (i:=9) (N:=some 85) (v:=?_) (a':=?_) #[y_,y_,y_,y_,y_,y_,y_,y_,y_,y_,z_,z_,z_,z_,z_,z_,z_,z_,z_,z_,z_,z_] rfl rfl (any_of HT_.out (by kernel_rfl)) (fun _ _ _ h=>h) (Or.inl ⟨by rfl,?_⟩) ?_ ?_
                rotate_left;(intro w';go_simp;with_reducible rfl);rotate_left;(simp only [Act.put,q1_,q2_,q3_,i64_w,i32_w];rfl)
                refine pure_ (i:=10) (N:=some 86) (v:=?_) (a':=?_) #[y_,y_,y_,y_,y_,y_,y_,y_,y_,y_,y_,z_,z_,z_,z_,z_,z_,z_,z_,z_,z_,z_] rfl rfl (any_of HT_.out (by kernel_rfl)) (fun _ _ _ h=>h) (Or.inl ⟨by rfl,?_⟩) ?_ ?_
                rotate_left;(intro w';go_simp;with_reducible rfl);rotate_left;(simp only [Act.put,q1_,q2_,q3_,i64_w,i32_w];rfl)
                refine pure_ (i:=11) (N:=some 87) (v:=?_) (a':=?_) #[y_,y_,y_,y_,y_,y_,y_,y_,y_,y_,y_,y_,z_,z_,z_,z_,z_,z_,z_,z_,z_,z_] rfl rfl (any_of HT_.out (by kernel_rfl)) (fun _ _ _ h=>h) (Or.inl ⟨by rfl,?_⟩) ?_ ?_
                rotate_left;(intro w';go_simp;with_reducible rfl);rotate_left;(simp only [Act.put,q1_,q2_,q3_,i64_w,i32_w];rfl)
                refine pure_ (i:=12) (N:=some 88) (v:=?_) (a':=?_) #[y_,y_,y_,y_,y_,y_,y_,y_,y_,y_,y_,y_,y_,z_,z_,z_,z_,z_,z_,z_,z_,z_] rfl rfl (any_of HT_.out (by kernel_rfl)) (fun _ _ _ h=>h) (Or.inl ⟨by rfl,?_⟩) ?_ ?_
                rotate_left;(intro w';go_simp;with_reducible rfl);rotate_left;(simp only [Act.put,q1_,q2_,q3_,i64_w,i32_w];rfl)
                refine pure_ (i:=13) (N:=some 89) (v:=?_) (a':=?_) #[y_,y_,y_,y_,y_,y_,y_,y_,y_,y_,y_,y_,y_,y_,z_,z_,z_,z_,z_,z_,z_,z_] rfl rfl (any_of HT_.out (by kernel_rfl)) (fun _ _ _ h=>h) (Or.inl ⟨by rfl,?_⟩) ?_ ?_
                rotate_left;(intro w';go_simp;with_reducible rfl);rotate_left;(simp only [Act.put,q1_,q2_,q3_,i64_w,i32_w];rfl)
                refine pure_ (i:=14) (N:=some 90) (v:=?_) (a':=?_) #[y_,y_,y_,y_,y_,y_,y_,y_,y_,y_,y_,y_,y_,y_,y_,z_,z_,z_,z_,z_,z_,z_] rfl rfl (any_of HT_.out (by kernel_rfl)) (fun _ _ _ h=>h) (Or.inl ⟨by rfl,?_⟩) ?_ ?_
                rotate_left;(intro w';go_simp;with_reducible rfl);rotate_left;(simp only [Act.put,q1_,q2_,q3_,i64_w,i32_w];rfl)
                refine pure_ (i:=16) (N:=some 92) (v:=?_) (a':=?_) #[y_,y_,y_,y_,y_,y_,y_,y_,y_,y_,y_,y_,y_,y_,y_,z_,y_,z_,z_,z_,z_,z_] rfl rfl (any_of HT_.out (by kernel_rfl)) (fun _ _ _ h=>h) (Or.inl ⟨by rfl,?_⟩) ?_ ?_
                rotate_left;(intro w';go_simp;with_reducible rfl);rotate_left;(simp only [Act.put,q1_,q2_,q3_,i64_w,i32_w];rfl)
                refine pure_ (i:=17) (N:=some 93) (v:=?_) (a':=?_) #[y_,y_,y_,y_,y_,y_,y_,y_,y_,y_,y_,y_,y_,y_,y_,z_,y_,y_,z_,z_,z_,z_] rfl rfl (any_of HT_.out (by kernel_rfl)) (fun _ _ _ h=>h) (Or.inl ⟨by rfl,?_⟩) ?_ ?_
                rotate_left;(intro w';go_simp;with_reducible rfl);rotate_left;(simp only [Act.put,q1_,q2_,q3_,i64_w,i32_w];rfl)
                refine pure_ (i:=18) (N:=some 94) (v:=?_) (a':=?_) #[y_,y_,y_,y_,y_,y_,y_,y_,y_,y_,y_,y_,y_,y_,y_,z_,y_,y_,y_,z_,z_,z_] rfl rfl (any_of HT_.out (by kernel_rfl)) (fun _ _ _ h=>h) (Or.inl ⟨by rfl,?_⟩) ?_ ?_
                rotate_left;(intro w';go_simp;with_reducible rfl);rotate_left;(simp only [Act.put,q1_,q2_,q3_,i64_w,i32_w];rfl)
                refine take_ (i:=15) (N:=some 91) (v:=?_) (a':=?_) #[y_,y_,y_,y_,y_,y_,y_,y_,y_,y_,y_,y_,y_,y_,y_,y_,y_,y_,y_,z_,z_,z_] rfl rfl (take_ofW HT_.out HW_.out (by kernel_rfl)) (fun _ _ _ h=>h) (Or.inl ⟨by rfl,?_⟩) hHeld ?_ ?_
                rotate_left;(rintro w' ⟨s0,s1,s2,s3,s4,s5⟩;go_simp;with_reducible rfl);rotate_left;(simp only [Act.put,q1_,q2_,q3_,i64_w,i32_w];rfl)
                refine take_ (i:=19) (N:=some 95) (v:=?_) (a':=?_) #[y_,y_,y_,y_,y_,y_,y_,y_,y_,y_,y_,y_,y_,y_,y_,y_,y_,y_,y_,y_,z_,z_] rfl rfl (take_ofW HT_.out HW_.out (by kernel_rfl)) (fun _ _ _ h=>h) (Or.inl ⟨by rfl,?_⟩) hHeld ?_ ?_
                rotate_left;(rintro w' ⟨s0,s1,s2,s3,s4,s5⟩;go_simp;with_reducible rfl);rotate_left;(simp only [Act.put,q1_,q2_,q3_,i64_w,i32_w];rfl)
                refine pure_ (i:=20) (N:=some 96) (v:=?_) (a':=?_) #[y_,y_,y_,y_,y_,y_,y_,y_,y_,y_,y_,y_,y_,y_,y_,y_,y_,y_,y_,y_,y_,z_] rfl rfl (any_of HT_.out (by kernel_rfl)) (fun _ _ _ h=>h) (Or.inl ⟨by rfl,?_⟩) ?_ ?_
                rotate_left;(intro w';go_simp;with_reducible rfl);rotate_left;(simp only [Act.put,q1_,q2_,q3_,i64_w,i32_w];rfl)
                refine pure_ (i:=21) (N:=some 97) (v:=?_) (a':=?_) #[y_,y_,y_,y_,y_,y_,y_,y_,y_,y_,y_,y_,y_,y_,y_,y_,y_,y_,y_,y_,y_,y_] rfl rfl (any_of HT_.out (by kernel_rfl)) (fun _ _ _ h=>h) (Or.inl ⟨by rfl,?_⟩) ?_ ?_
                rotate_left;(intro w';go_simp;with_reducible rfl);rotate_left;(simp only [Act.put,q1_,q2_,q3_,i64_w,i32_w];rfl)
                refine done_ (done_of HT_.out (by kernel_rfl)) ?_
                try go_wp2
                go_ret
                exact ⟨by first|rfl|(simp [errW_none,errW_some] <;> rfl)|(simp only [← hji25];first|rfl|(simp [errW_none,errW_some] <;> rfl))|(simp [*,errW_none,errW_some] <;> rfl),by repeat (first|(with_reducible first|exact HB.out|apply below_alloc|apply pw_below_drewN|apply below_drew1)|exact HB.out)⟩
             ·rw [if_neg c28] at H
              exact absurd H (by simp)
            ·rw [if_neg c27] at H
             exact absurd H (by simp)
           ·rw [if_neg c26] at H
            exact absurd H (by simp)
          ·rw [if_neg c24] at H
           have c24b0:decide (0<(t145.length:Int))=false:=decide_eq_false c24
           have c24b1:decide (0<t145.length)=false:=decide_eq_false (by omega)
           clear c24
           by_cases c106:t133=true
           ·subst c106
            have H1:((souterrainref07_Same.f k1 t139 y154).bind fun t176=>(some t176))=some r:=by rw [if_pos rfl] at H;exact H
            clear H
            have H:=H1
            clear H1
            replace H:=Option.bind_eq_some_iff.mp H
            obtain ⟨t176,A1070,H⟩:=H
            replace H:(some t176)=some r:=H
            have A107:=Aside0.mk A1070
            clear A1070
            obtain rfl:=Option.some.inj H
            obtain ⟨Ao108,co108,eo108⟩:=Kd.R_slice HO_10.out
            subst eo108
            try go_wp2_with (first|((with_reducible refine gate_callee (f:=14) rfl ?_);refine goesL_ (some 52) rfl rfl Try.func14 (by kernel_rfl) rfl #[.slice Ao108 x10_1.length co108] rfl (by (try simp only [List.map_toArray,List.map_cons,List.map_nil]);first|done|rfl|(simp only [List.length_drop,List.length_take];rfl)) ?_;(with_reducible refine (span_Size.calls _ _ x10_1 t138 _ ?side1 ?side2 A14.out).mono ?_);(case side1=>repeat (first|exact (Kd.R_reads' HO_10.out).2.2|(with_reducible refine Kd.C_alloc ?_ _)|(with_reducible refine Kd.C_drewN ?_ _)|(with_reducible refine Kd.C_drew ?_)));(case side2=>exact (Kd.R_reads' HO_10.out).2.1);rintro e w109 ⟨rfl,hb⟩;refine ⟨_,rfl,?_⟩;have n0_:=Aside0.mk (Kd.R_below (by (with_reducible repeat (first|apply R_alloc|apply R_drewN|apply R_drew));exact HO_10.out) hb);have n1_:=Aside0.mk (below_step (by repeat (first|(with_reducible first|exact HB.out|apply below_alloc|apply pw_below_drewN|apply below_drew1)|exact HB.out)) hb);clear HO_10;clear HB;have HO_10:=n0_;have HB:=n1_;clear n0_ n1_;(try clear hb);(try clear hb2);(try clear hk);(try clear hi))|((with_reducible refine gate_callee (f:=12) rfl ?_);refine goesL_ (some 58) rfl rfl Try.func12 (by kernel_rfl) rfl #[.slice Ao108 x10_1.length co108,.int .i64 (wrap64 (a1)),.int .i64 (wrap64 (a2))] rfl (by (try simp only [List.map_toArray,List.map_cons,List.map_nil]);first|done|rfl|(simp only [List.length_drop,List.length_take];rfl)) ?_;(with_reducible refine (span_Parts.calls _ _ x10_1 (wrap64 (a1)) (wrap64 (a2)) t139 _ ?side1 ?side2 A18.out).mono ?_);(case side1=>repeat (first|exact (Kd.R_reads' HO_10.out).2.2|(with_reducible refine Kd.C_alloc ?_ _)|(with_reducible refine Kd.C_drewN ?_ _)|(with_reducible refine Kd.C_drew ?_)));(case side2=>exact (Kd.R_reads' HO_10.out).2.1);rintro e w110 ⟨v140,rfl,ho0,hb⟩;refine ⟨_,rfl,?_⟩;have n0_:=Aside0.mk (Kd.R_below (by (with_reducible repeat (first|apply R_alloc|apply R_drewN|apply R_drew));exact HO_10.out) hb);have n1_:=Aside0.mk (Kd.R_lower ho0 (below_size (by repeat (first|(with_reducible first|exact HB.out|apply below_alloc|apply pw_below_drewN|apply below_drew1)|exact HB.out))));have n2_:=Aside0.mk (below_step (by repeat (first|(with_reducible first|exact HB.out|apply below_alloc|apply pw_below_drewN|apply below_drew1)|exact HB.out)) hb);clear HO_10;clear HB;have HO_10:=n0_;have HO141:=n1_;have HB:=n2_;clear n0_ n1_ n2_;(try clear hb);(try clear hb2);(try clear hk);(try clear hi);(try clear ho0))|((with_reducible refine gate_callee (f:=12) rfl ?_);refine goesL_ (some 62) rfl rfl Try.func12 (by kernel_rfl) rfl #[.slice Ao108 x10_1.length co108,.int .i64 (wrap64 (a1)),.int .i64 (Int.tmod (wrap64 (a3)) (wrap64 ((wrap64 (a2))+1)))] rfl (by (try simp only [List.map_toArray,List.map_cons,List.map_nil]);first|done|rfl|(simp only [List.length_drop,List.length_take];rfl)) ?_;(with_reducible refine (span_Parts.calls _ _ x10_1 (wrap64 (a1)) (Int.tmod (wrap64 (a3)) (wrap64 ((wrap64 (a2))+1))) t142 _ ?side1 ?side2 A19.out).mono ?_);(case side1=>repeat (first|exact (Kd.R_reads' HO_10.out).2.2|(with_reducible refine Kd.C_alloc ?_ _)|(with_reducible refine Kd.C_drewN ?_ _)|(with_reducible refine Kd.C_drew ?_)));(case side2=>exact (Kd.R_reads' HO_10.out).2.1);rintro e w111 ⟨v143,rfl,ho0,hb⟩;refine ⟨_,rfl,?_⟩;have n0_:=Aside0.mk (Kd.R_below (by (with_reducible repeat (first|apply R_alloc|apply R_drewN|apply R_drew));exact HO_10.out) hb);have n1_:=Aside0.mk (Kd.R_elder' (by (with_reducible repeat (first|apply R_alloc|apply R_drewN|apply R_drew));exact HO141.out) (Kd.R_base ho0) hb);have n2_:=Aside0.mk (Kd.R_lower (Kd.R_new' ho0 (Kd.R_lt (by (with_reducible repeat (first|apply R_alloc|apply R_drewN|apply R_drew));exact HO141.out))) (below_size (by repeat (first|(with_reducible first|exact HB.out|apply below_alloc|apply pw_below_drewN|apply below_drew1)|exact HB.out))));have n3_:=Aside0.mk (below_step (by repeat (first|(with_reducible first|exact HB.out|apply below_alloc|apply pw_below_drewN|apply below_drew1)|exact HB.out)) hb);clear HO_10;clear HO141;clear HB;have HO_10:=n0_;have HO141:=n1_;have HO144:=n2_;have HB:=n3_;clear n0_ n1_ n2_ n3_;(try clear hb);(try clear hb2);(try clear hk);(try clear hi);(try clear ho0))|((with_reducible refine gate_callee (f:=12) rfl ?_);refine goesL_ (some 70) rfl rfl Try.func12 (by kernel_rfl) rfl #[.slice Ao108 x10_1.length co108,.int .i64 (wrap64 ((wrap64 (a1))+(Int.tmod (wrap64 (a3)) (wrap64 ((wrap64 (a2))+1))))),.int .i64 (wrap64 ((wrap64 (a2)) - (Int.tmod (wrap64 (a3)) (wrap64 ((wrap64 (a2))+1)))))] rfl (by (try simp only [List.map_toArray,List.map_cons,List.map_nil]);first|done|rfl|(simp only [List.length_drop,List.length_take];rfl)) ?_;(with_reducible refine (span_Parts.calls _ _ x10_1 (wrap64 ((wrap64 (a1))+(Int.tmod (wrap64 (a3)) (wrap64 ((wrap64 (a2))+1))))) (wrap64 ((wrap64 (a2)) - (Int.tmod (wrap64 (a3)) (wrap64 ((wrap64 (a2))+1))))) t145 _ ?side1 ?side2 A20.out).mono ?_);(case side1=>repeat (first|exact (Kd.R_reads' HO_10.out).2.2|(with_reducible refine Kd.C_alloc ?_ _)|(with_reducible refine Kd.C_drewN ?_ _)|(with_reducible refine Kd.C_drew ?_)));(case side2=>exact (Kd.R_reads' HO_10.out).2.1);rintro e w112 ⟨v146,rfl,ho0,hb⟩;refine ⟨_,rfl,?_⟩;have n0_:=Aside0.mk (Kd.R_below (by (with_reducible repeat (first|apply R_alloc|apply R_drewN|apply R_drew));exact HO_10.out) hb);have n1_:=Aside0.mk (Kd.R_elder' (by (with_reducible repeat (first|apply R_alloc|apply R_drewN|apply R_drew));exact HO141.out) (Kd.R_base ho0) hb);have n2_:=Aside0.mk (Kd.R_elder' (by (with_reducible repeat (first|apply R_alloc|apply R_drewN|apply R_drew));exact HO144.out) (Kd.R_base ho0) hb);have n3_:=Aside0.mk (Kd.R_lower (Kd.R_new' (Kd.R_new' ho0 (Kd.R_lt (by (with_reducible repeat (first|apply R_alloc|apply R_drewN|apply R_drew));exact HO141.out))) (Kd.R_lt (by (with_reducible repeat (first|apply R_alloc|apply R_drewN|apply R_drew));exact HO144.out))) (below_size (by repeat (first|(with_reducible first|exact HB.out|apply below_alloc|apply pw_below_drewN|apply below_drew1)|exact HB.out))));have n4_:=Aside0.mk (below_step (by repeat (first|(with_reducible first|exact HB.out|apply below_alloc|apply pw_below_drewN|apply below_drew1)|exact HB.out)) hb);clear HO_10;clear HO141;clear HO144;clear HB;have HO_10:=n0_;have HO141:=n1_;have HO144:=n2_;have HO147:=n3_;have HB:=n4_;clear n0_ n1_ n2_ n3_ n4_;(try clear hb);(try clear hb2);(try clear hk);(try clear hi);(try clear ho0))|((with_reducible refine gate_dst (N:=71) rfl ?_);(try (refine gate_guard (by rfl) ?_;dsimp only));refine Kd.R_lit k34 _ 34 ?hg (N:=71) ?hd (xs:=([]:List (S34))) (inner:=[]) (ok:=fun _=>True) (okp:=fun _=>True) ?hr ?hp (fun _ hk=>hk) trivial (Below.refl _ _) (Nat.le_refl _) (by simp) ?_;(case hd=>rfl);(case hg=>rfl);(case hr=>first|(go_simp;done)|(go_simp;rfl));(case hp=>exact (Reps.none _ _));intro v149 w113 ho114 hb hg_ hnew_;clear hg_ hnew_;(first|rw [← Ny148.out] at ho114|(simp only [Int.reduceToNat] at ho114;rw [← Ny148.out] at ho114));have n0_:=Aside0.mk (Kd.R_below (by (with_reducible repeat (first|apply R_alloc|apply R_drewN|apply R_drew));exact HO_10.out) hb);have n1_:=Aside0.mk (Kd.R_elder' (by (with_reducible repeat (first|apply R_alloc|apply R_drewN|apply R_drew));exact HO141.out) (Kd.R_base ho114) hb);have n2_:=Aside0.mk (Kd.R_elder' (by (with_reducible repeat (first|apply R_alloc|apply R_drewN|apply R_drew));exact HO144.out) (Kd.R_base ho114) hb);have n3_:=Aside0.mk (Kd.R_elder' (by (with_reducible repeat (first|apply R_alloc|apply R_drewN|apply R_drew));exact HO147.out) (Kd.R_base ho114) hb);have n4_:=Aside0.mk (Kd.R_lower (Kd.R_new' (Kd.R_new' (Kd.R_new' ho114 (Kd.R_lt (by (with_reducible repeat (first|apply R_alloc|apply R_drewN|apply R_drew));exact HO141.out))) (Kd.R_lt (by (with_reducible repeat (first|apply R_alloc|apply R_drewN|apply R_drew));exact HO144.out))) (Kd.R_lt (by (with_reducible repeat (first|apply R_alloc|apply R_drewN|apply R_drew));exact HO147.out))) (below_size (by repeat (first|(with_reducible first|exact HB.out|apply below_alloc|apply pw_below_drewN|apply below_drew1)|exact HB.out))));have n5_:=Aside0.mk (below_step (by repeat (first|(with_reducible first|exact HB.out|apply below_alloc|apply pw_below_drewN|apply below_drew1)|exact HB.out)) hb);clear HO_10;clear HO141;clear HO144;clear HO147;clear HB;have HO_10:=n0_;have HO141:=n1_;have HO144:=n2_;have HO147:=n3_;have HO150:=n4_;have HB:=n5_;clear n0_ n1_ n2_ n3_ n4_ n5_;clear hb ho114;obtain ⟨Ao116,co116,eo116⟩:=Kd.R_slice HO144.out;subst eo116)|((with_reducible refine gate_builtin (b:=.append) (xs:=#[.tmp 71,.tmp 72]) rfl ?_);(try (refine gate_guard (by rfl) ?_;dsimp only));at_builtin;refine Kd.R_append_rows k34 (w0:=w) w.heap.size rfl (.tmp 71) (.tmp 72) 27 34 (.agg #[(.int .i64 0),(.int .i64 0),(.int .i64 0)]) 24 rfl Try.underlying27 info34 rfl (by decide) (by omega) v149 y148 t142 _ _ _ (fun k_=>some k_ ≠ (v140:Value).ownBlock∧some k_ ≠ (.slice Ao116 t142.length co116:Value).ownBlock∧some k_ ≠ (v146:Value).ownBlock) (fun _=>False) rfl rfl ?aO ?aR (fun _ _ h=>h) (fun _ h=>h.elim) ?aF ?aB ?aS ?aL ?_;(case aR=>repeat (first|exact (Kd.R_reads' HO144.out).2.2|(with_reducible refine Kd.C_alloc ?_ _)|(with_reducible refine Kd.C_drewN ?_ _)|(with_reducible refine Kd.C_drew ?_)));(case aB=>exact (by repeat (first|(with_reducible first|exact HB.out|apply below_alloc|apply pw_below_drewN|apply below_drew1)|exact HB.out)));(case aF=>exact (fun k_ hk=>⟨Kd.fresh' (Kd.R_lt (by (with_reducible repeat (first|apply R_alloc|apply R_drewN|apply R_drew));exact HO141.out)) k_ hk,Kd.fresh' (Kd.R_lt (by (with_reducible repeat (first|apply R_alloc|apply R_drewN|apply R_drew));exact HO144.out)) k_ hk,Kd.fresh' (Kd.R_lt (by (with_reducible repeat (first|apply R_alloc|apply R_drewN|apply R_drew));exact HO147.out)) k_ hk⟩));(case aO=>exact (by (with_reducible repeat (first|apply R_alloc|apply R_drewN|apply R_drew));exact Kd.R_mono HO150.out (fun _ hk=>⟨hk.1.1.2,⟨hk.1.2,hk.2⟩⟩)));(case aS=>exact (below_size (by repeat (first|(with_reducible first|exact HB.out|apply below_alloc|apply pw_below_drewN|apply below_drew1)|exact HB.out))));(case aL=>have:=LMc21.out;omega);intro v152 w115 ho hb hg hat;rw [← Ny151.out] at ho;have n0_:=Aside0.mk (Kd.R_over' (by (with_reducible repeat (first|apply R_alloc|apply R_drewN|apply R_drew));exact HO_10.out) (Kd.R_typed (by (with_reducible repeat (first|apply R_alloc|apply R_drewN|apply R_drew));exact HO150.out)) (by decide) hg);have n1_:=Aside0.mk (Kd.R_after (ok:=(fun k_=>some k_ ≠ (.slice Ao116 t142.length co116:Value).ownBlock∧some k_ ≠ (v146:Value).ownBlock)) (by (with_reducible repeat (first|apply R_alloc|apply R_drewN|apply R_drew));exact Kd.R_mono HO141.out (fun _ hk=>⟨⟨hk.1.1.2,hk.1.2⟩,hk.2⟩)) hg hat);have n2_:=Aside0.mk (Kd.R_after (ok:=(fun k_=>some k_ ≠ (v140:Value).ownBlock∧some k_ ≠ (v146:Value).ownBlock)) (by (with_reducible repeat (first|apply R_alloc|apply R_drewN|apply R_drew));exact Kd.R_mono HO144.out (fun _ hk=>⟨⟨hk.1.1.2,hk.1.2⟩,hk.2⟩)) hg hat);have n3_:=Aside0.mk (Kd.R_after (ok:=(fun k_=>some k_ ≠ (v140:Value).ownBlock∧some k_ ≠ (.slice Ao116 t142.length co116:Value).ownBlock)) (by (with_reducible repeat (first|apply R_alloc|apply R_drewN|apply R_drew));exact Kd.R_mono HO147.out (fun _ hk=>⟨⟨hk.1.1.2,hk.1.2⟩,hk.2⟩)) hg hat);have n4_:=Aside0.mk (hb);have n5_:=Aside0.mk (ho);clear HO_10;clear HO141;clear HO144;clear HO147;clear HB;clear HO150;have HO_10:=n0_;have HO141:=n1_;have HO144:=n2_;have HO147:=n3_;have HB:=n4_;have HO153:=n5_;clear n0_ n1_ n2_ n3_ n4_ n5_;clear ho hb hg hat;obtain ⟨Ao118,co118,eo118⟩:=Kd.R_slice HO147.out;subst eo118)|((with_reducible refine gate_builtin (b:=.append) (xs:=#[.tmp 73,.tmp 74]) rfl ?_);(try (refine gate_guard (by rfl) ?_;dsimp only));at_builtin;refine Kd.R_append_rows k34 (w0:=w) w.heap.size rfl (.tmp 73) (.tmp 74) 27 34 (.agg #[(.int .i64 0),(.int .i64 0),(.int .i64 0)]) 24 rfl Try.underlying27 info34 rfl (by decide) (by omega) v152 y151 t145 _ _ _ (fun k_=>some k_ ≠ (v140:Value).ownBlock∧some k_ ≠ (.slice Ao116 t142.length co116:Value).ownBlock∧some k_ ≠ (.slice Ao118 t145.length co118:Value).ownBlock) (fun _=>False) rfl rfl ?aO ?aR (fun _ _ h=>h) (fun _ h=>h.elim) ?aF ?aB ?aS ?aL ?_;(case aR=>repeat (first|exact (Kd.R_reads' HO147.out).2.2|(with_reducible refine Kd.C_alloc ?_ _)|(with_reducible refine Kd.C_drewN ?_ _)|(with_reducible refine Kd.C_drew ?_)));(case aB=>exact (by repeat (first|(with_reducible first|exact HB.out|apply below_alloc|apply pw_below_drewN|apply below_drew1)|exact HB.out)));(case aF=>exact (fun k_ hk=>⟨Kd.fresh' (Kd.R_lt (by (with_reducible repeat (first|apply R_alloc|apply R_drewN|apply R_drew));exact HO141.out)) k_ hk,Kd.fresh' (Kd.R_lt (by (with_reducible repeat (first|apply R_alloc|apply R_drewN|apply R_drew));exact HO144.out)) k_ hk,Kd.fresh' (Kd.R_lt (by (with_reducible repeat (first|apply R_alloc|apply R_drewN|apply R_drew));exact HO147.out)) k_ hk⟩));(case aO=>exact (by (with_reducible repeat (first|apply R_alloc|apply R_drewN|apply R_drew));exact HO153.out));(case aS=>exact (below_size (by repeat (first|(with_reducible first|exact HB.out|apply below_alloc|apply pw_below_drewN|apply below_drew1)|exact HB.out))));(case aL=>have:=LMc22.out;omega);intro v155 w117 ho hb hg hat;rw [← Ny154.out] at ho;have n0_:=Aside0.mk (Kd.R_over' (by (with_reducible repeat (first|apply R_alloc|apply R_drewN|apply R_drew));exact HO_10.out) (Kd.R_typed (by (with_reducible repeat (first|apply R_alloc|apply R_drewN|apply R_drew));exact HO153.out)) (by decide) hg);have n1_:=Aside0.mk (Kd.R_after (ok:=(fun k_=>some k_ ≠ (.slice Ao116 t142.length co116:Value).ownBlock∧some k_ ≠ (.slice Ao118 t145.length co118:Value).ownBlock)) (by (with_reducible repeat (first|apply R_alloc|apply R_drewN|apply R_drew));exact HO141.out) hg hat);have n2_:=Aside0.mk (Kd.R_after (ok:=(fun k_=>some k_ ≠ (v140:Value).ownBlock∧some k_ ≠ (.slice Ao118 t145.length co118:Value).ownBlock)) (by (with_reducible repeat (first|apply R_alloc|apply R_drewN|apply R_drew));exact HO144.out) hg hat);have n3_:=Aside0.mk (Kd.R_after (ok:=(fun k_=>some k_ ≠ (v140:Value).ownBlock∧some k_ ≠ (.slice Ao116 t142.length co116:Value).ownBlock)) (by (with_reducible repeat (first|apply R_alloc|apply R_drewN|apply R_drew));exact HO147.out) hg hat);have n4_:=Aside0.mk (hb);have n5_:=Aside0.mk (ho);clear HO_10;clear HO141;clear HO144;clear HO147;clear HB;clear HO153;have HO_10:=n0_;have HO141:=n1_;have HO144:=n2_;have HO147:=n3_;have HB:=n4_;have HO156:=n5_;clear n0_ n1_ n2_ n3_ n4_ n5_;clear ho hb hg hat))
            have n0_:=Aside0.mk (Kd.R_drew HO_10.out)
            have n1_:=Aside0.mk (Kd.R_drew HO141.out)
            have n2_:=Aside0.mk (Kd.R_drew HO144.out)
            have n3_:=Aside0.mk (Kd.R_drew HO147.out)
            have n4_:=Aside0.mk (Kd.R_drew HO156.out)
            have n5_:=Aside0.mk (below_drew1 HB.out)
            clear HO_10
            clear HO141
            clear HO144
            clear HO147
            clear HO156
            clear HB
            have HO_10:=n0_
            have HO141:=n1_
            have HO144:=n2_
            have HO147:=n3_
            have HO156:=n4_
            have HB:=n5_
            clear n0_ n1_ n2_ n3_ n4_ n5_
            refine start_ (n:=22) (S:=fun w'=>True) (ds:=[]) #[z_,z_,z_,z_,z_,z_,z_,z_,z_,z_,z_,z_,z_,z_,z_,z_,z_,z_,z_,z_,z_,z_] (by kernel_rfl) rfl rfl trivial (fun hHeld=>?_);refine with_tabW souterrainlaw07_SpanParted.tab18 souterrainlaw07_SpanParted.bits18 (fun HT_ HW_=>?_)
            generalize w117.drew=w119 at HO_10 HO141 HO144 HO147 HO156 HB hHeld ⊢
            refine pure_ (i:=0) (N:=some 76) (v:=?_) (a':=?_) #[y_,z_,z_,z_,z_,z_,z_,z_,z_,z_,z_,z_,z_,z_,z_,z_,z_,z_,z_,z_,z_,z_] rfl rfl (any_of HT_.out (by kernel_rfl)) (fun _ _ _ h=>h) (Or.inl ⟨by rfl,?_⟩) ?_ ?_
            rotate_left;(intro w';go_simp;with_reducible rfl);rotate_left;(simp only [Act.put,q1_,q2_,q3_,i64_w,i32_w];rfl)
            refine pure_ (i:=1) (N:=some 77) (v:=?_) (a':=?_) #[y_,y_,z_,z_,z_,z_,z_,z_,z_,z_,z_,z_,z_,z_,z_,z_,z_,z_,z_,z_,z_,z_] rfl rfl (any_of HT_.out (by kernel_rfl)) (fun _ _ _ h=>h) (Or.inl ⟨by rfl,?_⟩) ?_ ?_
            rotate_left;(intro w';go_simp;with_reducible rfl);rotate_left;(simp only [Act.put,q1_,q2_,q3_,i64_w,i32_w];rfl)
            refine pure_ (i:=2) (N:=some 78) (v:=?_) (a':=?_) #[y_,y_,y_,z_,z_,z_,z_,z_,z_,z_,z_,z_,z_,z_,z_,z_,z_,z_,z_,z_,z_,z_] rfl rfl (any_of HT_.out (by kernel_rfl)) (fun _ _ _ h=>h) (Or.inl ⟨by rfl,?_⟩) ?_ ?_
            rotate_left;(intro w';go_simp;with_reducible rfl);rotate_left;(simp only [Act.put,q1_,q2_,q3_,i64_w,i32_w];rfl)
            refine pure_ (i:=3) (N:=some 79) (v:=?_) (a':=?_) #[y_,y_,y_,y_,z_,z_,z_,z_,z_,z_,z_,z_,z_,z_,z_,z_,z_,z_,z_,z_,z_,z_] rfl rfl (any_of HT_.out (by kernel_rfl)) (fun _ _ _ h=>h) (Or.inl ⟨by rfl,?_⟩) ?_ ?_
            rotate_left;(intro w';go_simp;with_reducible rfl);rotate_left;(simp only [Act.put,q1_,q2_,q3_,i64_w,i32_w];rfl)
            refine pure_ (i:=4) (N:=some 80) (v:=?_) (a':=?_) #[y_,y_,y_,y_,y_,z_,z_,z_,z_,z_,z_,z_,z_,z_,z_,z_,z_,z_,z_,z_,z_,z_] rfl rfl (any_of HT_.out (by kernel_rfl)) (fun _ _ _ h=>h) (Or.inl ⟨by rfl,?_⟩) ?_ ?_
            rotate_left;(intro w';go_simp;with_reducible rfl);rotate_left;(simp only [Act.put,q1_,q2_,q3_,i64_w,i32_w];rfl)
            refine pure_ (i:=5) (N:=some 81) (v:=?_) (a':=?_) #[y_,y_,y_,y_,y_,y_,z_,z_,z_,z_,z_,z_,z_,z_,z_,z_,z_,z_,z_,z_,z_,z_] rfl rfl (any_of HT_.out (by kernel_rfl)) (fun _ _ _ h=>h) (Or.inl ⟨by rfl,?_⟩) ?_ ?_
            rotate_left;(intro w';go_simp;with_reducible rfl);rotate_left;(simp only [Act.put,q1_,q2_,q3_,i64_w,i32_w];rfl)
            refine pure_ (i:=6) (N:=some 82) (v:=?_) (a':=?_) #[y_,y_,y_,y_,y_,y_,y_,z_,z_,z_,z_,z_,z_,z_,z_,z_,z_,z_,z_,z_,z_,z_] rfl rfl (any_of HT_.out (by kernel_rfl)) (fun _ _ _ h=>h) (Or.inl ⟨by rfl,?_⟩) ?_ ?_
            rotate_left;(intro w';go_simp;with_reducible rfl);rotate_left;(simp only [Act.put,q1_,q2_,q3_,i64_w,i32_w];rfl)
            refine pure_ (i:=7) (N:=some 83) (v:=?_) (a':=?_) #[y_,y_,y_,y_,y_,y_,y_,y_,z_,z_,z_,z_,z_,z_,z_,z_,z_,z_,z_,z_,z_,z_] rfl rfl (any_of HT_.out (by kernel_rfl)) (fun _ _ _ h=>h) (Or.inl ⟨by rfl,?_⟩) ?_ ?_
            rotate_left;(intro w';go_simp;with_reducible rfl);rotate_left;(simp only [Act.put,q1_,q2_,q3_,i64_w,i32_w];rfl)
            refine pure_ (i:=8) (N:=some 84) (v:=?_) (a':=?_) #[y_,y_,y_,y_,y_,y_,y_,y_,y_,z_,z_,z_,z_,z_,z_,z_,z_,z_,z_,z_,z_,z_] rfl rfl (any_of HT_.out (by kernel_rfl)) (fun _ _ _ h=>h) (Or.inl ⟨by rfl,?_⟩) ?_ ?_
            rotate_left;(intro w';go_simp;with_reducible rfl);rotate_left;(simp only [Act.put,q1_,q2_,q3_,i64_w,i32_w];rfl)
            refine pure_ (i:=9) (N:=some 85) (v:=undef) (a':=?_) #[y_,y_,y_,y_,y_,y_,y_,y_,y_,y_,z_,z_,z_,z_,z_,z_,z_,z_,z_,z_,z_,z_] rfl rfl (any_of HT_.out (by kernel_rfl)) (fun _ _ _ h=>h) (Or.inr ⟨by rfl,rfl⟩) ?_ ?_
            rotate_left;(simp only [Act.put,q1_,q2_,q3_,i64_w,i32_w];rfl)
            refine pure_ (i:=10) (N:=some 86) (v:=undef) (a':=?_) #[y_,y_,y_,y_,y_,y_,y_,y_,y_,y_,y_,z_,z_,z_,z_,z_,z_,z_,z_,z_,z_,z_] rfl rfl (any_of HT_.out (by kernel_rfl)) (fun _ _ _ h=>h) (Or.inr ⟨by rfl,rfl⟩) ?_ ?_
            rotate_left;(simp only [Act.put,q1_,q2_,q3_,i64_w,i32_w];rfl)
            refine pure_ (i:=11) (N:=some 87) (v:=undef) (a':=?_) #[y_,y_,y_,y_,y_,y_,y_,y_,y_,y_,y_,y_,z_,z_,z_,z_,z_,z_,z_,z_,z_,z_] rfl rfl (any_of HT_.out (by kernel_rfl)) (fun _ _ _ h=>h) (Or.inr ⟨by rfl,rfl⟩) ?_ ?_
            rotate_left;(simp only [Act.put,q1_,q2_,q3_,i64_w,i32_w];rfl)
            refine pure_ (i:=12) (N:=some 88) (v:=undef) (a':=?_) #[y_,y_,y_,y_,y_,y_,y_,y_,y_,y_,y_,y_,y_,z_,z_,z_,z_,z_,z_,z_,z_,z_] rfl rfl (any_of HT_.out (by kernel_rfl)) (fun _ _ _ h=>h) (Or.inr ⟨by rfl,rfl⟩) ?_ ?_
            rotate_left;(simp only [Act.put,q1_,q2_,q3_,i64_w,i32_w];rfl)
            refine pure_ (i:=13) (N:=some 89) (v:=undef) (a':=?_) #[y_,y_,y_,y_,y_,y_,y_,y_,y_,y_,y_,y_,y_,y_,z_,z_,z_,z_,z_,z_,z_,z_] rfl rfl (any_of HT_.out (by kernel_rfl)) (fun _ _ _ h=>h) (Or.inr ⟨by rfl,rfl⟩) ?_ ?_
            rotate_left;(simp only [Act.put,q1_,q2_,q3_,i64_w,i32_w];rfl)
            refine pure_ (i:=14) (N:=some 90) (v:=undef) (a':=?_) #[y_,y_,y_,y_,y_,y_,y_,y_,y_,y_,y_,y_,y_,y_,y_,z_,z_,z_,z_,z_,z_,z_] rfl rfl (any_of HT_.out (by kernel_rfl)) (fun _ _ _ h=>h) (Or.inr ⟨by rfl,rfl⟩) ?_ ?_
            rotate_left;(simp only [Act.put,q1_,q2_,q3_,i64_w,i32_w];rfl)
            refine pure_ (i:=15) (N:=some 91) (v:=undef) (a':=?_) #[y_,y_,y_,y_,y_,y_,y_,y_,y_,y_,y_,y_,y_,y_,y_,y_,z_,z_,z_,z_,z_,z_] rfl rfl (any_of HT_.out (by kernel_rfl)) (fun _ _ _ h=>h) (Or.inr ⟨by rfl,rfl⟩) ?_ ?_
            rotate_left;(simp only [Act.put,q1_,q2_,q3_,i64_w,i32_w];rfl)
            refine pure_ (i:=16) (N:=some 92) (v:=undef) (a':=?_) #[y_,y_,y_,y_,y_,y_,y_,y_,y_,y_,y_,y_,y_,y_,y_,y_,y_,z_,z_,z_,z_,z_] rfl rfl (any_of HT_.out (by kernel_rfl)) (fun _ _ _ h=>h) (Or.inr ⟨by rfl,rfl⟩) ?_ ?_
            rotate_left;(simp only [Act.put,q1_,q2_,q3_,i64_w,i32_w];rfl)
            refine pure_ (i:=17) (N:=some 93) (v:=undef) (a':=?_) #[y_,y_,y_,y_,y_,y_,y_,y_,y_,y_,y_,y_,y_,y_,y_,y_,y_,y_,z_,z_,z_,z_] rfl rfl (any_of HT_.out (by kernel_rfl)) (fun _ _ _ h=>h) (Or.inr ⟨by rfl,rfl⟩) ?_ ?_
            rotate_left;(simp only [Act.put,q1_,q2_,q3_,i64_w,i32_w];rfl)
            refine pure_ (i:=18) (N:=some 94) (v:=undef) (a':=?_) #[y_,y_,y_,y_,y_,y_,y_,y_,y_,y_,y_,y_,y_,y_,y_,y_,y_,y_,y_,z_,z_,z_] rfl rfl (any_of HT_.out (by kernel_rfl)) (fun _ _ _ h=>h) (Or.inr ⟨by rfl,rfl⟩) ?_ ?_
            rotate_left;(simp only [Act.put,q1_,q2_,q3_,i64_w,i32_w];rfl)
            refine pure_ (i:=19) (N:=some 95) (v:=undef) (a':=?_) #[y_,y_,y_,y_,y_,y_,y_,y_,y_,y_,y_,y_,y_,y_,y_,y_,y_,y_,y_,y_,z_,z_] rfl rfl (any_of HT_.out (by kernel_rfl)) (fun _ _ _ h=>h) (Or.inr ⟨by rfl,rfl⟩) ?_ ?_
            rotate_left;(simp only [Act.put,q1_,q2_,q3_,i64_w,i32_w];rfl)
            refine pure_ (i:=20) (N:=some 96) (v:=undef) (a':=?_) #[y_,y_,y_,y_,y_,y_,y_,y_,y_,y_,y_,y_,y_,y_,y_,y_,y_,y_,y_,y_,y_,z_] rfl rfl (any_of HT_.out (by kernel_rfl)) (fun _ _ _ h=>h) (Or.inr ⟨by rfl,rfl⟩) ?_ ?_
            rotate_left;(simp only [Act.put,q1_,q2_,q3_,i64_w,i32_w];rfl)
            refine pure_ (i:=21) (N:=some 97) (v:=?_) (a':=?_) #[y_,y_,y_,y_,y_,y_,y_,y_,y_,y_,y_,y_,y_,y_,y_,y_,y_,y_,y_,y_,y_,y_] rfl rfl (any_of HT_.out (by kernel_rfl)) (fun _ _ _ h=>h) (Or.inl ⟨by rfl,?_⟩) ?_ ?_
            rotate_left;(intro w';go_simp;with_reducible rfl);rotate_left;(simp only [Act.put,q1_,q2_,q3_,i64_w,i32_w];rfl)
            refine done_ (done_of HT_.out (by kernel_rfl)) ?_
            obtain ⟨Ao120,co120,eo120⟩:=Kd.R_slice HO141.out
            subst eo120
            obtain ⟨Ao121,co121,eo121⟩:=Kd.R_slice HO156.out
            subst eo121
            try go_wp2_with (first|(go_at_call 11;(with_reducible refine (souterrainref07_Same.calls k1 _ _ t139 _ _ y154 t176 _ ?side1 ?side2 ?side3 ?side4 A107.out).mono ?_);(case side1=>repeat (first|exact (Kd.R_reads' HO141.out).2.2|(with_reducible refine Kd.C_alloc ?_ _)|(with_reducible refine Kd.C_drewN ?_ _)|(with_reducible refine Kd.C_drew ?_)));(case side2=>exact (Kd.R_reads' HO141.out).2.1);(case side3=>repeat (first|exact (Kd.R_reads' HO156.out).2.2|(with_reducible refine Kd.C_alloc ?_ _)|(with_reducible refine Kd.C_drewN ?_ _)|(with_reducible refine Kd.C_drew ?_)));(case side4=>exact (Kd.R_reads' HO156.out).2.1);rintro e w' ⟨rfl,⟨nd,rfl⟩⟩))
            go_ret
            exact ⟨by first|rfl|(simp [errW_none,errW_some] <;> rfl)|(simp [*,errW_none,errW_some] <;> rfl),by repeat (first|(with_reducible first|exact HB.out|apply below_alloc|apply pw_below_drewN|apply below_drew1)|exact HB.out)⟩
           ·replace c106:=Bool.eq_false_iff.mpr c106
            subst c106
            have H1:(some false)=some r:=by rw [if_neg (show ¬ (false=true) by decide)] at H;exact H
            clear H
            have H:=H1
            clear H1
            obtain rfl:=Option.some.inj H
            obtain ⟨Ao122,co122,eo122⟩:=Kd.R_slice HO_10.out
            subst eo122
            try go_wp2_with (first|((with_reducible refine gate_callee (f:=14) rfl ?_);refine goesL_ (some 52) rfl rfl Try.func14 (by kernel_rfl) rfl #[.slice Ao122 x10_1.length co122] rfl (by (try simp only [List.map_toArray,List.map_cons,List.map_nil]);first|done|rfl|(simp only [List.length_drop,List.length_take];rfl)) ?_;(with_reducible refine (span_Size.calls _ _ x10_1 t138 _ ?side1 ?side2 A14.out).mono ?_);(case side1=>repeat (first|exact (Kd.R_reads' HO_10.out).2.2|(with_reducible refine Kd.C_alloc ?_ _)|(with_reducible refine Kd.C_drewN ?_ _)|(with_reducible refine Kd.C_drew ?_)));(case side2=>exact (Kd.R_reads' HO_10.out).2.1);rintro e w123 ⟨rfl,hb⟩;refine ⟨_,rfl,?_⟩;have n0_:=Aside0.mk (Kd.R_below (by (with_reducible repeat (first|apply R_alloc|apply R_drewN|apply R_drew));exact HO_10.out) hb);have n1_:=Aside0.mk (below_step (by repeat (first|(with_reducible first|exact HB.out|apply below_alloc|apply pw_below_drewN|apply below_drew1)|exact HB.out)) hb);clear HO_10;clear HB;have HO_10:=n0_;have HB:=n1_;clear n0_ n1_;(try clear hb);(try clear hb2);(try clear hk);(try clear hi))|((with_reducible refine gate_callee (f:=12) rfl ?_);refine goesL_ (some 58) rfl rfl Try.func12 (by kernel_rfl) rfl #[.slice Ao122 x10_1.length co122,.int .i64 (wrap64 (a1)),.int .i64 (wrap64 (a2))] rfl (by (try simp only [List.map_toArray,List.map_cons,List.map_nil]);first|done|rfl|(simp only [List.length_drop,List.length_take];rfl)) ?_;(with_reducible refine (span_Parts.calls _ _ x10_1 (wrap64 (a1)) (wrap64 (a2)) t139 _ ?side1 ?side2 A18.out).mono ?_);(case side1=>repeat (first|exact (Kd.R_reads' HO_10.out).2.2|(with_reducible refine Kd.C_alloc ?_ _)|(with_reducible refine Kd.C_drewN ?_ _)|(with_reducible refine Kd.C_drew ?_)));(case side2=>exact (Kd.R_reads' HO_10.out).2.1);rintro e w124 ⟨v140,rfl,ho0,hb⟩;refine ⟨_,rfl,?_⟩;have n0_:=Aside0.mk (Kd.R_below (by (with_reducible repeat (first|apply R_alloc|apply R_drewN|apply R_drew));exact HO_10.out) hb);have n1_:=Aside0.mk (Kd.R_lower ho0 (below_size (by repeat (first|(with_reducible first|exact HB.out|apply below_alloc|apply pw_below_drewN|apply below_drew1)|exact HB.out))));have n2_:=Aside0.mk (below_step (by repeat (first|(with_reducible first|exact HB.out|apply below_alloc|apply pw_below_drewN|apply below_drew1)|exact HB.out)) hb);clear HO_10;clear HB;have HO_10:=n0_;have HO141:=n1_;have HB:=n2_;clear n0_ n1_ n2_;(try clear hb);(try clear hb2);(try clear hk);(try clear hi);(try clear ho0))|((with_reducible refine gate_callee (f:=12) rfl ?_);refine goesL_ (some 62) rfl rfl Try.func12 (by kernel_rfl) rfl #[.slice Ao122 x10_1.length co122,.int .i64 (wrap64 (a1)),.int .i64 (Int.tmod (wrap64 (a3)) (wrap64 ((wrap64 (a2))+1)))] rfl (by (try simp only [List.map_toArray,List.map_cons,List.map_nil]);first|done|rfl|(simp only [List.length_drop,List.length_take];rfl)) ?_;(with_reducible refine (span_Parts.calls _ _ x10_1 (wrap64 (a1)) (Int.tmod (wrap64 (a3)) (wrap64 ((wrap64 (a2))+1))) t142 _ ?side1 ?side2 A19.out).mono ?_);(case side1=>repeat (first|exact (Kd.R_reads' HO_10.out).2.2|(with_reducible refine Kd.C_alloc ?_ _)|(with_reducible refine Kd.C_drewN ?_ _)|(with_reducible refine Kd.C_drew ?_)));(case side2=>exact (Kd.R_reads' HO_10.out).2.1);rintro e w125 ⟨v143,rfl,ho0,hb⟩;refine ⟨_,rfl,?_⟩;have n0_:=Aside0.mk (Kd.R_below (by (with_reducible repeat (first|apply R_alloc|apply R_drewN|apply R_drew));exact HO_10.out) hb);have n1_:=Aside0.mk (Kd.R_elder' (by (with_reducible repeat (first|apply R_alloc|apply R_drewN|apply R_drew));exact HO141.out) (Kd.R_base ho0) hb);have n2_:=Aside0.mk (Kd.R_lower (Kd.R_new' ho0 (Kd.R_lt (by (with_reducible repeat (first|apply R_alloc|apply R_drewN|apply R_drew));exact HO141.out))) (below_size (by repeat (first|(with_reducible first|exact HB.out|apply below_alloc|apply pw_below_drewN|apply below_drew1)|exact HB.out))));have n3_:=Aside0.mk (below_step (by repeat (first|(with_reducible first|exact HB.out|apply below_alloc|apply pw_below_drewN|apply below_drew1)|exact HB.out)) hb);clear HO_10;clear HO141;clear HB;have HO_10:=n0_;have HO141:=n1_;have HO144:=n2_;have HB:=n3_;clear n0_ n1_ n2_ n3_;(try clear hb);(try clear hb2);(try clear hk);(try clear hi);(try clear ho0))|((with_reducible refine gate_callee (f:=12) rfl ?_);refine goesL_ (some 70) rfl rfl Try.func12 (by kernel_rfl) rfl #[.slice Ao122 x10_1.length co122,.int .i64 (wrap64 ((wrap64 (a1))+(Int.tmod (wrap64 (a3)) (wrap64 ((wrap64 (a2))+1))))),.int .i64 (wrap64 ((wrap64 (a2)) - (Int.tmod (wrap64 (a3)) (wrap64 ((wrap64 (a2))+1)))))] rfl (by (try simp only [List.map_toArray,List.map_cons,List.map_nil]);first|done|rfl|(simp only [List.length_drop,List.length_take];rfl)) ?_;(with_reducible refine (span_Parts.calls _ _ x10_1 (wrap64 ((wrap64 (a1))+(Int.tmod (wrap64 (a3)) (wrap64 ((wrap64 (a2))+1))))) (wrap64 ((wrap64 (a2)) - (Int.tmod (wrap64 (a3)) (wrap64 ((wrap64 (a2))+1))))) t145 _ ?side1 ?side2 A20.out).mono ?_);(case side1=>repeat (first|exact (Kd.R_reads' HO_10.out).2.2|(with_reducible refine Kd.C_alloc ?_ _)|(with_reducible refine Kd.C_drewN ?_ _)|(with_reducible refine Kd.C_drew ?_)));(case side2=>exact (Kd.R_reads' HO_10.out).2.1);rintro e w126 ⟨v146,rfl,ho0,hb⟩;refine ⟨_,rfl,?_⟩;have n0_:=Aside0.mk (Kd.R_below (by (with_reducible repeat (first|apply R_alloc|apply R_drewN|apply R_drew));exact HO_10.out) hb);have n1_:=Aside0.mk (Kd.R_elder' (by (with_reducible repeat (first|apply R_alloc|apply R_drewN|apply R_drew));exact HO141.out) (Kd.R_base ho0) hb);have n2_:=Aside0.mk (Kd.R_elder' (by (with_reducible repeat (first|apply R_alloc|apply R_drewN|apply R_drew));exact HO144.out) (Kd.R_base ho0) hb);have n3_:=Aside0.mk (Kd.R_lower (Kd.R_new' (Kd.R_new' ho0 (Kd.R_lt (by (with_reducible repeat (first|apply R_alloc|apply R_drewN|apply R_drew));exact HO141.out))) (Kd.R_lt (by (with_reducible repeat (first|apply R_alloc|apply R_drewN|apply R_drew));exact HO144.out))) (below_size (by repeat (first|(with_reducible first|exact HB.out|apply below_alloc|apply pw_below_drewN|apply below_drew1)|exact HB.out))));have n4_:=Aside0.mk (below_step (by repeat (first|(with_reducible first|exact HB.out|apply below_alloc|apply pw_below_drewN|apply below_drew1)|exact HB.out)) hb);clear HO_10;clear HO141;clear HO144;clear HB;have HO_10:=n0_;have HO141:=n1_;have HO144:=n2_;have HO147:=n3_;have HB:=n4_;clear n0_ n1_ n2_ n3_ n4_;(try clear hb);(try clear hb2);(try clear hk);(try clear hi);(try clear ho0))|((with_reducible refine gate_dst (N:=71) rfl ?_);(try (refine gate_guard (by rfl) ?_;dsimp only));refine Kd.R_lit k34 _ 34 ?hg (N:=71) ?hd (xs:=([]:List (S34))) (inner:=[]) (ok:=fun _=>True) (okp:=fun _=>True) ?hr ?hp (fun _ hk=>hk) trivial (Below.refl _ _) (Nat.le_refl _) (by simp) ?_;(case hd=>rfl);(case hg=>rfl);(case hr=>first|(go_simp;done)|(go_simp;rfl));(case hp=>exact (Reps.none _ _));intro v149 w127 ho128 hb hg_ hnew_;clear hg_ hnew_;(first|rw [← Ny148.out] at ho128|(simp only [Int.reduceToNat] at ho128;rw [← Ny148.out] at ho128));have n0_:=Aside0.mk (Kd.R_below (by (with_reducible repeat (first|apply R_alloc|apply R_drewN|apply R_drew));exact HO_10.out) hb);have n1_:=Aside0.mk (Kd.R_elder' (by (with_reducible repeat (first|apply R_alloc|apply R_drewN|apply R_drew));exact HO141.out) (Kd.R_base ho128) hb);have n2_:=Aside0.mk (Kd.R_elder' (by (with_reducible repeat (first|apply R_alloc|apply R_drewN|apply R_drew));exact HO144.out) (Kd.R_base ho128) hb);have n3_:=Aside0.mk (Kd.R_elder' (by (with_reducible repeat (first|apply R_alloc|apply R_drewN|apply R_drew));exact HO147.out) (Kd.R_base ho128) hb);have n4_:=Aside0.mk (Kd.R_lower (Kd.R_new' (Kd.R_new' (Kd.R_new' ho128 (Kd.R_lt (by (with_reducible repeat (first|apply R_alloc|apply R_drewN|apply R_drew));exact HO141.out))) (Kd.R_lt (by (with_reducible repeat (first|apply R_alloc|apply R_drewN|apply R_drew));exact HO144.out))) (Kd.R_lt (by (with_reducible repeat (first|apply R_alloc|apply R_drewN|apply R_drew));exact HO147.out))) (below_size (by repeat (first|(with_reducible first|exact HB.out|apply below_alloc|apply pw_below_drewN|apply below_drew1)|exact HB.out))));have n5_:=Aside0.mk (below_step (by repeat (first|(with_reducible first|exact HB.out|apply below_alloc|apply pw_below_drewN|apply below_drew1)|exact HB.out)) hb);clear HO_10;clear HO141;clear HO144;clear HO147;clear HB;have HO_10:=n0_;have HO141:=n1_;have HO144:=n2_;have HO147:=n3_;have HO150:=n4_;have HB:=n5_;clear n0_ n1_ n2_ n3_ n4_ n5_;clear hb ho128;obtain ⟨Ao130,co130,eo130⟩:=Kd.R_slice HO144.out;subst eo130)|((with_reducible refine gate_builtin (b:=.append) (xs:=#[.tmp 71,.tmp 72]) rfl ?_);(try (refine gate_guard (by rfl) ?_;dsimp only));at_builtin;refine Kd.R_append_rows k34 (w0:=w) w.heap.size rfl (.tmp 71) (.tmp 72) 27 34 (.agg #[(.int .i64 0),(.int .i64 0),(.int .i64 0)]) 24 rfl Try.underlying27 info34 rfl (by decide) (by omega) v149 y148 t142 _ _ _ (fun k_=>some k_ ≠ (v140:Value).ownBlock∧some k_ ≠ (.slice Ao130 t142.length co130:Value).ownBlock∧some k_ ≠ (v146:Value).ownBlock) (fun _=>False) rfl rfl ?aO ?aR (fun _ _ h=>h) (fun _ h=>h.elim) ?aF ?aB ?aS ?aL ?_;(case aR=>repeat (first|exact (Kd.R_reads' HO144.out).2.2|(with_reducible refine Kd.C_alloc ?_ _)|(with_reducible refine Kd.C_drewN ?_ _)|(with_reducible refine Kd.C_drew ?_)));(case aB=>exact (by repeat (first|(with_reducible first|exact HB.out|apply below_alloc|apply pw_below_drewN|apply below_drew1)|exact HB.out)));(case aF=>exact (fun k_ hk=>⟨Kd.fresh' (Kd.R_lt (by (with_reducible repeat (first|apply R_alloc|apply R_drewN|apply R_drew));exact HO141.out)) k_ hk,Kd.fresh' (Kd.R_lt (by (with_reducible repeat (first|apply R_alloc|apply R_drewN|apply R_drew));exact HO144.out)) k_ hk,Kd.fresh' (Kd.R_lt (by (with_reducible repeat (first|apply R_alloc|apply R_drewN|apply R_drew));exact HO147.out)) k_ hk⟩));(case aO=>exact (by (with_reducible repeat (first|apply R_alloc|apply R_drewN|apply R_drew));exact Kd.R_mono HO150.out (fun _ hk=>⟨hk.1.1.2,⟨hk.1.2,hk.2⟩⟩)));(case aS=>exact (below_size (by repeat (first|(with_reducible first|exact HB.out|apply below_alloc|apply pw_below_drewN|apply below_drew1)|exact HB.out))));(case aL=>have:=LMc21.out;omega);intro v152 w129 ho hb hg hat;rw [← Ny151.out] at ho;have n0_:=Aside0.mk (Kd.R_over' (by (with_reducible repeat (first|apply R_alloc|apply R_drewN|apply R_drew));exact HO_10.out) (Kd.R_typed (by (with_reducible repeat (first|apply R_alloc|apply R_drewN|apply R_drew));exact HO150.out)) (by decide) hg);have n1_:=Aside0.mk (Kd.R_after (ok:=(fun k_=>some k_ ≠ (.slice Ao130 t142.length co130:Value).ownBlock∧some k_ ≠ (v146:Value).ownBlock)) (by (with_reducible repeat (first|apply R_alloc|apply R_drewN|apply R_drew));exact Kd.R_mono HO141.out (fun _ hk=>⟨⟨hk.1.1.2,hk.1.2⟩,hk.2⟩)) hg hat);have n2_:=Aside0.mk (Kd.R_after (ok:=(fun k_=>some k_ ≠ (v140:Value).ownBlock∧some k_ ≠ (v146:Value).ownBlock)) (by (with_reducible repeat (first|apply R_alloc|apply R_drewN|apply R_drew));exact Kd.R_mono HO144.out (fun _ hk=>⟨⟨hk.1.1.2,hk.1.2⟩,hk.2⟩)) hg hat);have n3_:=Aside0.mk (Kd.R_after (ok:=(fun k_=>some k_ ≠ (v140:Value).ownBlock∧some k_ ≠ (.slice Ao130 t142.length co130:Value).ownBlock)) (by (with_reducible repeat (first|apply R_alloc|apply R_drewN|apply R_drew));exact Kd.R_mono HO147.out (fun _ hk=>⟨⟨hk.1.1.2,hk.1.2⟩,hk.2⟩)) hg hat);have n4_:=Aside0.mk (hb);have n5_:=Aside0.mk (ho);clear HO_10;clear HO141;clear HO144;clear HO147;clear HB;clear HO150;have HO_10:=n0_;have HO141:=n1_;have HO144:=n2_;have HO147:=n3_;have HB:=n4_;have HO153:=n5_;clear n0_ n1_ n2_ n3_ n4_ n5_;clear ho hb hg hat;obtain ⟨Ao132,co132,eo132⟩:=Kd.R_slice HO147.out;subst eo132)|((with_reducible refine gate_builtin (b:=.append) (xs:=#[.tmp 73,.tmp 74]) rfl ?_);(try (refine gate_guard (by rfl) ?_;dsimp only));at_builtin;refine Kd.R_append_rows k34 (w0:=w) w.heap.size rfl (.tmp 73) (.tmp 74) 27 34 (.agg #[(.int .i64 0),(.int .i64 0),(.int .i64 0)]) 24 rfl Try.underlying27 info34 rfl (by decide) (by omega) v152 y151 t145 _ _ _ (fun k_=>some k_ ≠ (v140:Value).ownBlock∧some k_ ≠ (.slice Ao130 t142.length co130:Value).ownBlock∧some k_ ≠ (.slice Ao132 t145.length co132:Value).ownBlock) (fun _=>False) rfl rfl ?aO ?aR (fun _ _ h=>h) (fun _ h=>h.elim) ?aF ?aB ?aS ?aL ?_;(case aR=>repeat (first|exact (Kd.R_reads' HO147.out).2.2|(with_reducible refine Kd.C_alloc ?_ _)|(with_reducible refine Kd.C_drewN ?_ _)|(with_reducible refine Kd.C_drew ?_)));(case aB=>exact (by repeat (first|(with_reducible first|exact HB.out|apply below_alloc|apply pw_below_drewN|apply below_drew1)|exact HB.out)));(case aF=>exact (fun k_ hk=>⟨Kd.fresh' (Kd.R_lt (by (with_reducible repeat (first|apply R_alloc|apply R_drewN|apply R_drew));exact HO141.out)) k_ hk,Kd.fresh' (Kd.R_lt (by (with_reducible repeat (first|apply R_alloc|apply R_drewN|apply R_drew));exact HO144.out)) k_ hk,Kd.fresh' (Kd.R_lt (by (with_reducible repeat (first|apply R_alloc|apply R_drewN|apply R_drew));exact HO147.out)) k_ hk⟩));(case aO=>exact (by (with_reducible repeat (first|apply R_alloc|apply R_drewN|apply R_drew));exact HO153.out));(case aS=>exact (below_size (by repeat (first|(with_reducible first|exact HB.out|apply below_alloc|apply pw_below_drewN|apply below_drew1)|exact HB.out))));(case aL=>have:=LMc22.out;omega);intro v155 w131 ho hb hg hat;rw [← Ny154.out] at ho;have n0_:=Aside0.mk (Kd.R_over' (by (with_reducible repeat (first|apply R_alloc|apply R_drewN|apply R_drew));exact HO_10.out) (Kd.R_typed (by (with_reducible repeat (first|apply R_alloc|apply R_drewN|apply R_drew));exact HO153.out)) (by decide) hg);have n1_:=Aside0.mk (Kd.R_after (ok:=(fun k_=>some k_ ≠ (.slice Ao130 t142.length co130:Value).ownBlock∧some k_ ≠ (.slice Ao132 t145.length co132:Value).ownBlock)) (by (with_reducible repeat (first|apply R_alloc|apply R_drewN|apply R_drew));exact HO141.out) hg hat);have n2_:=Aside0.mk (Kd.R_after (ok:=(fun k_=>some k_ ≠ (v140:Value).ownBlock∧some k_ ≠ (.slice Ao132 t145.length co132:Value).ownBlock)) (by (with_reducible repeat (first|apply R_alloc|apply R_drewN|apply R_drew));exact HO144.out) hg hat);have n3_:=Aside0.mk (Kd.R_after (ok:=(fun k_=>some k_ ≠ (v140:Value).ownBlock∧some k_ ≠ (.slice Ao130 t142.length co130:Value).ownBlock)) (by (with_reducible repeat (first|apply R_alloc|apply R_drewN|apply R_drew));exact HO147.out) hg hat);have n4_:=Aside0.mk (hb);have n5_:=Aside0.mk (ho);clear HO_10;clear HO141;clear HO144;clear HO147;clear HB;clear HO153;have HO_10:=n0_;have HO141:=n1_;have HO144:=n2_;have HO147:=n3_;have HB:=n4_;have HO156:=n5_;clear n0_ n1_ n2_ n3_ n4_ n5_;clear ho hb hg hat))
            have n0_:=Aside0.mk (Kd.R_drew HO_10.out)
            have n1_:=Aside0.mk (Kd.R_drew HO141.out)
            have n2_:=Aside0.mk (Kd.R_drew HO144.out)
            have n3_:=Aside0.mk (Kd.R_drew HO147.out)
            have n4_:=Aside0.mk (Kd.R_drew HO156.out)
            have n5_:=Aside0.mk (below_drew1 HB.out)
            clear HO_10
            clear HO141
            clear HO144
            clear HO147
            clear HO156
            clear HB
            have HO_10:=n0_
            have HO141:=n1_
            have HO144:=n2_
            have HO147:=n3_
            have HO156:=n4_
            have HB:=n5_
            clear n0_ n1_ n2_ n3_ n4_ n5_
            refine start_ (n:=22) (S:=fun w'=>True) (ds:=[]) #[z_,z_,z_,z_,z_,z_,z_,z_,z_,z_,z_,z_,z_,z_,z_,z_,z_,z_,z_,z_,z_,z_] (by kernel_rfl) rfl rfl trivial (fun hHeld=>?_);refine with_tabW souterrainlaw07_SpanParted.tab18 souterrainlaw07_SpanParted.bits18 (fun HT_ HW_=>?_)
            generalize w131.drew=w133 at HO_10 HO141 HO144 HO147 HO156 HB hHeld ⊢
            refine pure_ (i:=0) (N:=some 76) (v:=?_) (a':=?_) #[y_,z_,z_,z_,z_,z_,z_,z_,z_,z_,z_,z_,z_,z_,z_,z_,z_,z_,z_,z_,z_,z_] rfl rfl (any_of HT_.out (by kernel_rfl)) (fun _ _ _ h=>h) (Or.inl ⟨by rfl,?_⟩) ?_ ?_
            rotate_left;(intro w';go_simp;with_reducible rfl);rotate_left;(simp only [Act.put,q1_,q2_,q3_,i64_w,i32_w];rfl)
            refine pure_ (i:=1) (N:=some 77) (v:=?_) (a':=?_) #[y_,y_,z_,z_,z_,z_,z_,z_,z_,z_,z_,z_,z_,z_,z_,z_,z_,z_,z_,z_,z_,z_] rfl rfl (any_of HT_.out (by kernel_rfl)) (fun _ _ _ h=>h) (Or.inl ⟨by rfl,?_⟩) ?_ ?_
            rotate_left;(intro w';go_simp;with_reducible rfl);rotate_left;(simp only [Act.put,q1_,q2_,q3_,i64_w,i32_w];rfl)
            refine pure_ (i:=2) (N:=some 78) (v:=?_) (a':=?_) #[y_,y_,y_,z_,z_,z_,z_,z_,z_,z_,z_,z_,z_,z_,z_,z_,z_,z_,z_,z_,z_,z_] rfl rfl (any_of HT_.out (by kernel_rfl)) (fun _ _ _ h=>h) (Or.inl ⟨by rfl,?_⟩) ?_ ?_
            rotate_left;(intro w';go_simp;with_reducible rfl);rotate_left;(simp only [Act.put,q1_,q2_,q3_,i64_w,i32_w];rfl)
            refine pure_ (i:=3) (N:=some 79) (v:=?_) (a':=?_) #[y_,y_,y_,y_,z_,z_,z_,z_,z_,z_,z_,z_,z_,z_,z_,z_,z_,z_,z_,z_,z_,z_] rfl rfl (any_of HT_.out (by kernel_rfl)) (fun _ _ _ h=>h) (Or.inl ⟨by rfl,?_⟩) ?_ ?_
            rotate_left;(intro w';go_simp;with_reducible rfl);rotate_left;(simp only [Act.put,q1_,q2_,q3_,i64_w,i32_w];rfl)
            refine pure_ (i:=4) (N:=some 80) (v:=?_) (a':=?_) #[y_,y_,y_,y_,y_,z_,z_,z_,z_,z_,z_,z_,z_,z_,z_,z_,z_,z_,z_,z_,z_,z_] rfl rfl (any_of HT_.out (by kernel_rfl)) (fun _ _ _ h=>h) (Or.inl ⟨by rfl,?_⟩) ?_ ?_
            rotate_left;(intro w';go_simp;with_reducible rfl);rotate_left;(simp only [Act.put,q1_,q2_,q3_,i64_w,i32_w];rfl)
            refine pure_ (i:=5) (N:=some 81) (v:=?_) (a':=?_) #[y_,y_,y_,y_,y_,y_,z_,z_,z_,z_,z_,z_,z_,z_,z_,z_,z_,z_,z_,z_,z_,z_] rfl rfl (any_of HT_.out (by kernel_rfl)) (fun _ _ _ h=>h) (Or.inl ⟨by rfl,?_⟩) ?_ ?_
            rotate_left;(intro w';go_simp;with_reducible rfl);rotate_left;(simp only [Act.put,q1_,q2_,q3_,i64_w,i32_w];rfl)
            refine pure_ (i:=6) (N:=some 82) (v:=?_) (a':=?_) #[y_,y_,y_,y_,y_,y_,y_,z_,z_,z_,z_,z_,z_,z_,z_,z_,z_,z_,z_,z_,z_,z_] rfl rfl (any_of HT_.out (by kernel_rfl)) (fun _ _ _ h=>h) (Or.inl ⟨by rfl,?_⟩) ?_ ?_
            rotate_left;(intro w';go_simp;with_reducible rfl);rotate_left;(simp only [Act.put,q1_,q2_,q3_,i64_w,i32_w];rfl)
            refine pure_ (i:=7) (N:=some 83) (v:=?_) (a':=?_) #[y_,y_,y_,y_,y_,y_,y_,y_,z_,z_,z_,z_,z_,z_,z_,z_,z_,z_,z_,z_,z_,z_] rfl rfl (any_of HT_.out (by kernel_rfl)) (fun _ _ _ h=>h) (Or.inl ⟨by rfl,?_⟩) ?_ ?_
            rotate_left;(intro w';go_simp;with_reducible rfl);rotate_left;(simp only [Act.put,q1_,q2_,q3_,i64_w,i32_w];rfl)
            refine pure_ (i:=8) (N:=some 84) (v:=?_) (a':=?_) #[y_,y_,y_,y_,y_,y_,y_,y_,y_,z_,z_,z_,z_,z_,z_,z_,z_,z_,z_,z_,z_,z_] rfl rfl (any_of HT_.out (by kernel_rfl)) (fun _ _ _ h=>h) (Or.inl ⟨by rfl,?_⟩) ?_ ?_
            rotate_left;(intro w';go_simp;with_reducible rfl);rotate_left;(simp only [Act.put,q1_,q2_,q3_,i64_w,i32_w];rfl)
            refine pure_ (i:=9) (N:=some 85) (v:=undef) (a':=?_) #[y_,y_,y_,y_,y_,y_,y_,y_,y_,y_,z_,z_,z_,z_,z_,z_,z_,z_,z_,z_,z_,z_] rfl rfl (any_of HT_.out (by kernel_rfl)) (fun _ _ _ h=>h) (Or.inr ⟨by rfl,rfl⟩) ?_ ?_
            rotate_left;(simp only [Act.put,q1_,q2_,q3_,i64_w,i32_w];rfl)
            refine pure_ (i:=10) (N:=some 86) (v:=undef) (a':=?_) #[y_,y_,y_,y_,y_,y_,y_,y_,y_,y_,y_,z_,z_,z_,z_,z_,z_,z_,z_,z_,z_,z_] rfl rfl (any_of HT_.out (by kernel_rfl)) (fun _ _ _ h=>h) (Or.inr ⟨by rfl,rfl⟩) ?_ ?_
            rotate_left;(simp only [Act.put,q1_,q2_,q3_,i64_w,i32_w];rfl)
            refine pure_ (i:=11) (N:=some 87) (v:=undef) (a':=?_) #[y_,y_,y_,y_,y_,y_,y_,y_,y_,y_,y_,y_,z_,z_,z_,z_,z_,z_,z_,z_,z_,z_] rfl rfl (any_of HT_.out (by kernel_rfl)) (fun _ _ _ h=>h) (Or.inr ⟨by rfl,rfl⟩) ?_ ?_
            rotate_left;(simp only [Act.put,q1_,q2_,q3_,i64_w,i32_w];rfl)
            refine pure_ (i:=12) (N:=some 88) (v:=undef) (a':=?_) #[y_,y_,y_,y_,y_,y_,y_,y_,y_,y_,y_,y_,y_,z_,z_,z_,z_,z_,z_,z_,z_,z_] rfl rfl (any_of HT_.out (by kernel_rfl)) (fun _ _ _ h=>h) (Or.inr ⟨by rfl,rfl⟩) ?_ ?_
            rotate_left;(simp only [Act.put,q1_,q2_,q3_,i64_w,i32_w];rfl)
            refine pure_ (i:=13) (N:=some 89) (v:=undef) (a':=?_) #[y_,y_,y_,y_,y_,y_,y_,y_,y_,y_,y_,y_,y_,y_,z_,z_,z_,z_,z_,z_,z_,z_] rfl rfl (any_of HT_.out (by kernel_rfl)) (fun _ _ _ h=>h) (Or.inr ⟨by rfl,rfl⟩) ?_ ?_
            rotate_left;(simp only [Act.put,q1_,q2_,q3_,i64_w,i32_w];rfl)
            refine pure_ (i:=14) (N:=some 90) (v:=undef) (a':=?_) #[y_,y_,y_,y_,y_,y_,y_,y_,y_,y_,y_,y_,y_,y_,y_,z_,z_,z_,z_,z_,z_,z_] rfl rfl (any_of HT_.out (by kernel_rfl)) (fun _ _ _ h=>h) (Or.inr ⟨by rfl,rfl⟩) ?_ ?_
            rotate_left;(simp only [Act.put,q1_,q2_,q3_,i64_w,i32_w];rfl)
            refine pure_ (i:=15) (N:=some 91) (v:=undef) (a':=?_) #[y_,y_,y_,y_,y_,y_,y_,y_,y_,y_,y_,y_,y_,y_,y_,y_,z_,z_,z_,z_,z_,z_] rfl rfl (any_of HT_.out (by kernel_rfl)) (fun _ _ _ h=>h) (Or.inr ⟨by rfl,rfl⟩) ?_ ?_
            rotate_left;(simp only [Act.put,q1_,q2_,q3_,i64_w,i32_w];rfl)
            refine pure_ (i:=16) (N:=some 92) (v:=undef) (a':=?_) #[y_,y_,y_,y_,y_,y_,y_,y_,y_,y_,y_,y_,y_,y_,y_,y_,y_,z_,z_,z_,z_,z_] rfl rfl (any_of HT_.out (by kernel_rfl)) (fun _ _ _ h=>h) (Or.inr ⟨by rfl,rfl⟩) ?_ ?_
            rotate_left;(simp only [Act.put,q1_,q2_,q3_,i64_w,i32_w];rfl)
            refine pure_ (i:=17) (N:=some 93) (v:=undef) (a':=?_) #[y_,y_,y_,y_,y_,y_,y_,y_,y_,y_,y_,y_,y_,y_,y_,y_,y_,y_,z_,z_,z_,z_] rfl rfl (any_of HT_.out (by kernel_rfl)) (fun _ _ _ h=>h) (Or.inr ⟨by rfl,rfl⟩) ?_ ?_
            rotate_left;(simp only [Act.put,q1_,q2_,q3_,i64_w,i32_w];rfl)
            refine pure_ (i:=18) (N:=some 94) (v:=undef) (a':=?_) #[y_,y_,y_,y_,y_,y_,y_,y_,y_,y_,y_,y_,y_,y_,y_,y_,y_,y_,y_,z_,z_,z_] rfl rfl (any_of HT_.out (by kernel_rfl)) (fun _ _ _ h=>h) (Or.inr ⟨by rfl,rfl⟩) ?_ ?_
            rotate_left;(simp only [Act.put,q1_,q2_,q3_,i64_w,i32_w];rfl)
            refine pure_ (i:=19) (N:=some 95) (v:=undef) (a':=?_) #[y_,y_,y_,y_,y_,y_,y_,y_,y_,y_,y_,y_,y_,y_,y_,y_,y_,y_,y_,y_,z_,z_] rfl rfl (any_of HT_.out (by kernel_rfl)) (fun _ _ _ h=>h) (Or.inr ⟨by rfl,rfl⟩) ?_ ?_
            rotate_left;(simp only [Act.put,q1_,q2_,q3_,i64_w,i32_w];rfl)
            refine pure_ (i:=20) (N:=some 96) (v:=undef) (a':=?_) #[y_,y_,y_,y_,y_,y_,y_,y_,y_,y_,y_,y_,y_,y_,y_,y_,y_,y_,y_,y_,y_,z_] rfl rfl (any_of HT_.out (by kernel_rfl)) (fun _ _ _ h=>h) (Or.inr ⟨by rfl,rfl⟩) ?_ ?_
            rotate_left;(simp only [Act.put,q1_,q2_,q3_,i64_w,i32_w];rfl)
            refine pure_ (i:=21) (N:=some 97) (v:=?_) (a':=?_) #[y_,y_,y_,y_,y_,y_,y_,y_,y_,y_,y_,y_,y_,y_,y_,y_,y_,y_,y_,y_,y_,y_] rfl rfl (any_of HT_.out (by kernel_rfl)) (fun _ _ _ h=>h) (Or.inl ⟨by rfl,?_⟩) ?_ ?_
            rotate_left;(intro w';go_simp;with_reducible rfl);rotate_left;(simp only [Act.put,q1_,q2_,q3_,i64_w,i32_w];rfl)
            refine done_ (done_of HT_.out (by kernel_rfl)) ?_
            try go_wp2
            go_ret
            exact ⟨by first|rfl|(simp [errW_none,errW_some] <;> rfl)|(simp [*,errW_none,errW_some] <;> rfl),by repeat (first|(with_reducible first|exact HB.out|apply below_alloc|apply pw_below_drewN|apply below_drew1)|exact HB.out)⟩
         ·rw [if_neg c23] at H
          have c23b0:decide (0<(t142.length:Int))=false:=decide_eq_false c23
          have c23b1:decide (0<t142.length)=false:=decide_eq_false (by omega)
          clear c23
          by_cases c134:t133=true
          ·subst c134
           have H1:((souterrainref07_Same.f k1 t139 y154).bind fun t177=>(some t177))=some r:=by rw [if_pos rfl] at H;exact H
           clear H
           have H:=H1
           clear H1
           replace H:=Option.bind_eq_some_iff.mp H
           obtain ⟨t177,A1350,H⟩:=H
           replace H:(some t177)=some r:=H
           have A135:=Aside0.mk A1350
           clear A1350
           obtain rfl:=Option.some.inj H
           obtain ⟨Ao136,co136,eo136⟩:=Kd.R_slice HO_10.out
           subst eo136
           try go_wp2_with (first|((with_reducible refine gate_callee (f:=14) rfl ?_);refine goesL_ (some 52) rfl rfl Try.func14 (by kernel_rfl) rfl #[.slice Ao136 x10_1.length co136] rfl (by (try simp only [List.map_toArray,List.map_cons,List.map_nil]);first|done|rfl|(simp only [List.length_drop,List.length_take];rfl)) ?_;(with_reducible refine (span_Size.calls _ _ x10_1 t138 _ ?side1 ?side2 A14.out).mono ?_);(case side1=>repeat (first|exact (Kd.R_reads' HO_10.out).2.2|(with_reducible refine Kd.C_alloc ?_ _)|(with_reducible refine Kd.C_drewN ?_ _)|(with_reducible refine Kd.C_drew ?_)));(case side2=>exact (Kd.R_reads' HO_10.out).2.1);rintro e w137 ⟨rfl,hb⟩;refine ⟨_,rfl,?_⟩;have n0_:=Aside0.mk (Kd.R_below (by (with_reducible repeat (first|apply R_alloc|apply R_drewN|apply R_drew));exact HO_10.out) hb);have n1_:=Aside0.mk (below_step (by repeat (first|(with_reducible first|exact HB.out|apply below_alloc|apply pw_below_drewN|apply below_drew1)|exact HB.out)) hb);clear HO_10;clear HB;have HO_10:=n0_;have HB:=n1_;clear n0_ n1_;(try clear hb);(try clear hb2);(try clear hk);(try clear hi))|((with_reducible refine gate_callee (f:=12) rfl ?_);refine goesL_ (some 58) rfl rfl Try.func12 (by kernel_rfl) rfl #[.slice Ao136 x10_1.length co136,.int .i64 (wrap64 (a1)),.int .i64 (wrap64 (a2))] rfl (by (try simp only [List.map_toArray,List.map_cons,List.map_nil]);first|done|rfl|(simp only [List.length_drop,List.length_take];rfl)) ?_;(with_reducible refine (span_Parts.calls _ _ x10_1 (wrap64 (a1)) (wrap64 (a2)) t139 _ ?side1 ?side2 A18.out).mono ?_);(case side1=>repeat (first|exact (Kd.R_reads' HO_10.out).2.2|(with_reducible refine Kd.C_alloc ?_ _)|(with_reducible refine Kd.C_drewN ?_ _)|(with_reducible refine Kd.C_drew ?_)));(case side2=>exact (Kd.R_reads' HO_10.out).2.1);rintro e w138 ⟨v140,rfl,ho0,hb⟩;refine ⟨_,rfl,?_⟩;have n0_:=Aside0.mk (Kd.R_below (by (with_reducible repeat (first|apply R_alloc|apply R_drewN|apply R_drew));exact HO_10.out) hb);have n1_:=Aside0.mk (Kd.R_lower ho0 (below_size (by repeat (first|(with_reducible first|exact HB.out|apply below_alloc|apply pw_below_drewN|apply below_drew1)|exact HB.out))));have n2_:=Aside0.mk (below_step (by repeat (first|(with_reducible first|exact HB.out|apply below_alloc|apply pw_below_drewN|apply below_drew1)|exact HB.out)) hb);clear HO_10;clear HB;have HO_10:=n0_;have HO141:=n1_;have HB:=n2_;clear n0_ n1_ n2_;(try clear hb);(try clear hb2);(try clear hk);(try clear hi);(try clear ho0))|((with_reducible refine gate_callee (f:=12) rfl ?_);refine goesL_ (some 62) rfl rfl Try.func12 (by kernel_rfl) rfl #[.slice Ao136 x10_1.length co136,.int .i64 (wrap64 (a1)),.int .i64 (Int.tmod (wrap64 (a3)) (wrap64 ((wrap64 (a2))+1)))] rfl (by (try simp only [List.map_toArray,List.map_cons,List.map_nil]);first|done|rfl|(simp only [List.length_drop,List.length_take];rfl)) ?_;(with_reducible refine (span_Parts.calls _ _ x10_1 (wrap64 (a1)) (Int.tmod (wrap64 (a3)) (wrap64 ((wrap64 (a2))+1))) t142 _ ?side1 ?side2 A19.out).mono ?_);(case side1=>repeat (first|exact (Kd.R_reads' HO_10.out).2.2|(with_reducible refine Kd.C_alloc ?_ _)|(with_reducible refine Kd.C_drewN ?_ _)|(with_reducible refine Kd.C_drew ?_)));(case side2=>exact (Kd.R_reads' HO_10.out).2.1);rintro e w139 ⟨v143,rfl,ho0,hb⟩;refine ⟨_,rfl,?_⟩;have n0_:=Aside0.mk (Kd.R_below (by (with_reducible repeat (first|apply R_alloc|apply R_drewN|apply R_drew));exact HO_10.out) hb);have n1_:=Aside0.mk (Kd.R_elder' (by (with_reducible repeat (first|apply R_alloc|apply R_drewN|apply R_drew));exact HO141.out) (Kd.R_base ho0) hb);have n2_:=Aside0.mk (Kd.R_lower (Kd.R_new' ho0 (Kd.R_lt (by (with_reducible repeat (first|apply R_alloc|apply R_drewN|apply R_drew));exact HO141.out))) (below_size (by repeat (first|(with_reducible first|exact HB.out|apply below_alloc|apply pw_below_drewN|apply below_drew1)|exact HB.out))));have n3_:=Aside0.mk (below_step (by repeat (first|(with_reducible first|exact HB.out|apply below_alloc|apply pw_below_drewN|apply below_drew1)|exact HB.out)) hb);clear HO_10;clear HO141;clear HB;have HO_10:=n0_;have HO141:=n1_;have HO144:=n2_;have HB:=n3_;clear n0_ n1_ n2_ n3_;(try clear hb);(try clear hb2);(try clear hk);(try clear hi);(try clear ho0))|((with_reducible refine gate_callee (f:=12) rfl ?_);refine goesL_ (some 70) rfl rfl Try.func12 (by kernel_rfl) rfl #[.slice Ao136 x10_1.length co136,.int .i64 (wrap64 ((wrap64 (a1))+(Int.tmod (wrap64 (a3)) (wrap64 ((wrap64 (a2))+1))))),.int .i64 (wrap64 ((wrap64 (a2)) - (Int.tmod (wrap64 (a3)) (wrap64 ((wrap64 (a2))+1)))))] rfl (by (try simp only [List.map_toArray,List.map_cons,List.map_nil]);first|done|rfl|(simp only [List.length_drop,List.length_take];rfl)) ?_;(with_reducible refine (span_Parts.calls _ _ x10_1 (wrap64 ((wrap64 (a1))+(Int.tmod (wrap64 (a3)) (wrap64 ((wrap64 (a2))+1))))) (wrap64 ((wrap64 (a2)) - (Int.tmod (wrap64 (a3)) (wrap64 ((wrap64 (a2))+1))))) t145 _ ?side1 ?side2 A20.out).mono ?_);(case side1=>repeat (first|exact (Kd.R_reads' HO_10.out).2.2|(with_reducible refine Kd.C_alloc ?_ _)|(with_reducible refine Kd.C_drewN ?_ _)|(with_reducible refine Kd.C_drew ?_)));(case side2=>exact (Kd.R_reads' HO_10.out).2.1);rintro e w140 ⟨v146,rfl,ho0,hb⟩;refine ⟨_,rfl,?_⟩;have n0_:=Aside0.mk (Kd.R_below (by (with_reducible repeat (first|apply R_alloc|apply R_drewN|apply R_drew));exact HO_10.out) hb);have n1_:=Aside0.mk (Kd.R_elder' (by (with_reducible repeat (first|apply R_alloc|apply R_drewN|apply R_drew));exact HO141.out) (Kd.R_base ho0) hb);have n2_:=Aside0.mk (Kd.R_elder' (by (with_reducible repeat (first|apply R_alloc|apply R_drewN|apply R_drew));exact HO144.out) (Kd.R_base ho0) hb);have n3_:=Aside0.mk (Kd.R_lower (Kd.R_new' (Kd.R_new' ho0 (Kd.R_lt (by (with_reducible repeat (first|apply R_alloc|apply R_drewN|apply R_drew));exact HO141.out))) (Kd.R_lt (by (with_reducible repeat (first|apply R_alloc|apply R_drewN|apply R_drew));exact HO144.out))) (below_size (by repeat (first|(with_reducible first|exact HB.out|apply below_alloc|apply pw_below_drewN|apply below_drew1)|exact HB.out))));have n4_:=Aside0.mk (below_step (by repeat (first|(with_reducible first|exact HB.out|apply below_alloc|apply pw_below_drewN|apply below_drew1)|exact HB.out)) hb);clear HO_10;clear HO141;clear HO144;clear HB;have HO_10:=n0_;have HO141:=n1_;have HO144:=n2_;have HO147:=n3_;have HB:=n4_;clear n0_ n1_ n2_ n3_ n4_;(try clear hb);(try clear hb2);(try clear hk);(try clear hi);(try clear ho0))|((with_reducible refine gate_dst (N:=71) rfl ?_);(try (refine gate_guard (by rfl) ?_;dsimp only));refine Kd.R_lit k34 _ 34 ?hg (N:=71) ?hd (xs:=([]:List (S34))) (inner:=[]) (ok:=fun _=>True) (okp:=fun _=>True) ?hr ?hp (fun _ hk=>hk) trivial (Below.refl _ _) (Nat.le_refl _) (by simp) ?_;(case hd=>rfl);(case hg=>rfl);(case hr=>first|(go_simp;done)|(go_simp;rfl));(case hp=>exact (Reps.none _ _));intro v149 w141 ho142 hb hg_ hnew_;clear hg_ hnew_;(first|rw [← Ny148.out] at ho142|(simp only [Int.reduceToNat] at ho142;rw [← Ny148.out] at ho142));have n0_:=Aside0.mk (Kd.R_below (by (with_reducible repeat (first|apply R_alloc|apply R_drewN|apply R_drew));exact HO_10.out) hb);have n1_:=Aside0.mk (Kd.R_elder' (by (with_reducible repeat (first|apply R_alloc|apply R_drewN|apply R_drew));exact HO141.out) (Kd.R_base ho142) hb);have n2_:=Aside0.mk (Kd.R_elder' (by (with_reducible repeat (first|apply R_alloc|apply R_drewN|apply R_drew));exact HO144.out) (Kd.R_base ho142) hb);have n3_:=Aside0.mk (Kd.R_elder' (by (with_reducible repeat (first|apply R_alloc|apply R_drewN|apply R_drew));exact HO147.out) (Kd.R_base ho142) hb);have n4_:=Aside0.mk (Kd.R_lower (Kd.R_new' (Kd.R_new' (Kd.R_new' ho142 (Kd.R_lt (by (with_reducible repeat (first|apply R_alloc|apply R_drewN|apply R_drew));exact HO141.out))) (Kd.R_lt (by (with_reducible repeat (first|apply R_alloc|apply R_drewN|apply R_drew));exact HO144.out))) (Kd.R_lt (by (with_reducible repeat (first|apply R_alloc|apply R_drewN|apply R_drew));exact HO147.out))) (below_size (by repeat (first|(with_reducible first|exact HB.out|apply below_alloc|apply pw_below_drewN|apply below_drew1)|exact HB.out))));have n5_:=Aside0.mk (below_step (by repeat (first|(with_reducible first|exact HB.out|apply below_alloc|apply pw_below_drewN|apply below_drew1)|exact HB.out)) hb);clear HO_10;clear HO141;clear HO144;clear HO147;clear HB;have HO_10:=n0_;have HO141:=n1_;have HO144:=n2_;have HO147:=n3_;have HO150:=n4_;have HB:=n5_;clear n0_ n1_ n2_ n3_ n4_ n5_;clear hb ho142;obtain ⟨Ao144,co144,eo144⟩:=Kd.R_slice HO144.out;subst eo144)|((with_reducible refine gate_builtin (b:=.append) (xs:=#[.tmp 71,.tmp 72]) rfl ?_);(try (refine gate_guard (by rfl) ?_;dsimp only));at_builtin;refine Kd.R_append_rows k34 (w0:=w) w.heap.size rfl (.tmp 71) (.tmp 72) 27 34 (.agg #[(.int .i64 0),(.int .i64 0),(.int .i64 0)]) 24 rfl Try.underlying27 info34 rfl (by decide) (by omega) v149 y148 t142 _ _ _ (fun k_=>some k_ ≠ (v140:Value).ownBlock∧some k_ ≠ (.slice Ao144 t142.length co144:Value).ownBlock∧some k_ ≠ (v146:Value).ownBlock) (fun _=>False) rfl rfl ?aO ?aR (fun _ _ h=>h) (fun _ h=>h.elim) ?aF ?aB ?aS ?aL ?_;(case aR=>repeat (first|exact (Kd.R_reads' HO144.out).2.2|(with_reducible refine Kd.C_alloc ?_ _)|(with_reducible refine Kd.C_drewN ?_ _)|(with_reducible refine Kd.C_drew ?_)));(case aB=>exact (by repeat (first|(with_reducible first|exact HB.out|apply below_alloc|apply pw_below_drewN|apply below_drew1)|exact HB.out)));(case aF=>exact (fun k_ hk=>⟨Kd.fresh' (Kd.R_lt (by (with_reducible repeat (first|apply R_alloc|apply R_drewN|apply R_drew));exact HO141.out)) k_ hk,Kd.fresh' (Kd.R_lt (by (with_reducible repeat (first|apply R_alloc|apply R_drewN|apply R_drew));exact HO144.out)) k_ hk,Kd.fresh' (Kd.R_lt (by (with_reducible repeat (first|apply R_alloc|apply R_drewN|apply R_drew));exact HO147.out)) k_ hk⟩));(case aO=>exact (by (with_reducible repeat (first|apply R_alloc|apply R_drewN|apply R_drew));exact Kd.R_mono HO150.out (fun _ hk=>⟨hk.1.1.2,⟨hk.1.2,hk.2⟩⟩)));(case aS=>exact (below_size (by repeat (first|(with_reducible first|exact HB.out|apply below_alloc|apply pw_below_drewN|apply below_drew1)|exact HB.out))));(case aL=>have:=LMc21.out;omega);intro v152 w143 ho hb hg hat;rw [← Ny151.out] at ho;have n0_:=Aside0.mk (Kd.R_over' (by (with_reducible repeat (first|apply R_alloc|apply R_drewN|apply R_drew));exact HO_10.out) (Kd.R_typed (by (with_reducible repeat (first|apply R_alloc|apply R_drewN|apply R_drew));exact HO150.out)) (by decide) hg);have n1_:=Aside0.mk (Kd.R_after (ok:=(fun k_=>some k_ ≠ (.slice Ao144 t142.length co144:Value).ownBlock∧some k_ ≠ (v146:Value).ownBlock)) (by (with_reducible repeat (first|apply R_alloc|apply R_drewN|apply R_drew));exact Kd.R_mono HO141.out (fun _ hk=>⟨⟨hk.1.1.2,hk.1.2⟩,hk.2⟩)) hg hat);have n2_:=Aside0.mk (Kd.R_after (ok:=(fun k_=>some k_ ≠ (v140:Value).ownBlock∧some k_ ≠ (v146:Value).ownBlock)) (by (with_reducible repeat (first|apply R_alloc|apply R_drewN|apply R_drew));exact Kd.R_mono HO144.out (fun _ hk=>⟨⟨hk.1.1.2,hk.1.2⟩,hk.2⟩)) hg hat);have n3_:=Aside0.mk (Kd.R_after (ok:=(fun k_=>some k_ ≠ (v140:Value).ownBlock∧some k_ ≠ (.slice Ao144 t142.length co144:Value).ownBlock)) (by (with_reducible repeat (first|apply R_alloc|apply R_drewN|apply R_drew));exact Kd.R_mono HO147.out (fun _ hk=>⟨⟨hk.1.1.2,hk.1.2⟩,hk.2⟩)) hg hat);have n4_:=Aside0.mk (hb);have n5_:=Aside0.mk (ho);clear HO_10;clear HO141;clear HO144;clear HO147;clear HB;clear HO150;have HO_10:=n0_;have HO141:=n1_;have HO144:=n2_;have HO147:=n3_;have HB:=n4_;have HO153:=n5_;clear n0_ n1_ n2_ n3_ n4_ n5_;clear ho hb hg hat;obtain ⟨Ao146,co146,eo146⟩:=Kd.R_slice HO147.out;subst eo146)|((with_reducible refine gate_builtin (b:=.append) (xs:=#[.tmp 73,.tmp 74]) rfl ?_);(try (refine gate_guard (by rfl) ?_;dsimp only));at_builtin;refine Kd.R_append_rows k34 (w0:=w) w.heap.size rfl (.tmp 73) (.tmp 74) 27 34 (.agg #[(.int .i64 0),(.int .i64 0),(.int .i64 0)]) 24 rfl Try.underlying27 info34 rfl (by decide) (by omega) v152 y151 t145 _ _ _ (fun k_=>some k_ ≠ (v140:Value).ownBlock∧some k_ ≠ (.slice Ao144 t142.length co144:Value).ownBlock∧some k_ ≠ (.slice Ao146 t145.length co146:Value).ownBlock) (fun _=>False) rfl rfl ?aO ?aR (fun _ _ h=>h) (fun _ h=>h.elim) ?aF ?aB ?aS ?aL ?_;(case aR=>repeat (first|exact (Kd.R_reads' HO147.out).2.2|(with_reducible refine Kd.C_alloc ?_ _)|(with_reducible refine Kd.C_drewN ?_ _)|(with_reducible refine Kd.C_drew ?_)));(case aB=>exact (by repeat (first|(with_reducible first|exact HB.out|apply below_alloc|apply pw_below_drewN|apply below_drew1)|exact HB.out)));(case aF=>exact (fun k_ hk=>⟨Kd.fresh' (Kd.R_lt (by (with_reducible repeat (first|apply R_alloc|apply R_drewN|apply R_drew));exact HO141.out)) k_ hk,Kd.fresh' (Kd.R_lt (by (with_reducible repeat (first|apply R_alloc|apply R_drewN|apply R_drew));exact HO144.out)) k_ hk,Kd.fresh' (Kd.R_lt (by (with_reducible repeat (first|apply R_alloc|apply R_drewN|apply R_drew));exact HO147.out)) k_ hk⟩));(case aO=>exact (by (with_reducible repeat (first|apply R_alloc|apply R_drewN|apply R_drew));exact HO153.out));(case aS=>exact (below_size (by repeat (first|(with_reducible first|exact HB.out|apply below_alloc|apply pw_below_drewN|apply below_drew1)|exact HB.out))));(case aL=>have:=LMc22.out;omega);intro v155 w145 ho hb hg hat;rw [← Ny154.out] at ho;have n0_:=Aside0.mk (Kd.R_over' (by (with_reducible repeat (first|apply R_alloc|apply R_drewN|apply R_drew));exact HO_10.out) (Kd.R_typed (by (with_reducible repeat (first|apply R_alloc|apply R_drewN|apply R_drew));exact HO153.out)) (by decide) hg);have n1_:=Aside0.mk (Kd.R_after (ok:=(fun k_=>some k_ ≠ (.slice Ao144 t142.length co144:Value).ownBlock∧some k_ ≠ (.slice Ao146 t145.length co146:Value).ownBlock)) (by (with_reducible repeat (first|apply R_alloc|apply R_drewN|apply R_drew));exact HO141.out) hg hat);have n2_:=Aside0.mk (Kd.R_after (ok:=(fun k_=>some k_ ≠ (v140:Value).ownBlock∧some k_ ≠ (.slice Ao146 t145.length co146:Value).ownBlock)) (by (with_reducible repeat (first|apply R_alloc|apply R_drewN|apply R_drew));exact HO144.out) hg hat);have n3_:=Aside0.mk (Kd.R_after (ok:=(fun k_=>some k_ ≠ (v140:Value).ownBlock∧some k_ ≠ (.slice Ao144 t142.length co144:Value).ownBlock)) (by (with_reducible repeat (first|apply R_alloc|apply R_drewN|apply R_drew));exact HO147.out) hg hat);have n4_:=Aside0.mk (hb);have n5_:=Aside0.mk (ho);clear HO_10;clear HO141;clear HO144;clear HO147;clear HB;clear HO153;have HO_10:=n0_;have HO141:=n1_;have HO144:=n2_;have HO147:=n3_;have HB:=n4_;have HO156:=n5_;clear n0_ n1_ n2_ n3_ n4_ n5_;clear ho hb hg hat))
           have n0_:=Aside0.mk (Kd.R_drew HO_10.out)
           have n1_:=Aside0.mk (Kd.R_drew HO141.out)
           have n2_:=Aside0.mk (Kd.R_drew HO144.out)
           have n3_:=Aside0.mk (Kd.R_drew HO147.out)
           have n4_:=Aside0.mk (Kd.R_drew HO156.out)
           have n5_:=Aside0.mk (below_drew1 HB.out)
           clear HO_10
           clear HO141
           clear HO144
           clear HO147
           clear HO156
           clear HB
           have HO_10:=n0_
           have HO141:=n1_
           have HO144:=n2_
           have HO147:=n3_
           have HO156:=n4_
           have HB:=n5_
           clear n0_ n1_ n2_ n3_ n4_ n5_
           refine start_ (n:=22) (S:=fun w'=>True) (ds:=[]) #[z_,z_,z_,z_,z_,z_,z_,z_,z_,z_,z_,z_,z_,z_,z_,z_,z_,z_,z_,z_,z_,z_] (by kernel_rfl) rfl rfl trivial (fun hHeld=>?_);refine with_tabW souterrainlaw07_SpanParted.tab18 souterrainlaw07_SpanParted.bits18 (fun HT_ HW_=>?_)
           generalize w145.drew=w147 at HO_10 HO141 HO144 HO147 HO156 HB hHeld ⊢
           refine pure_ (i:=0) (N:=some 76) (v:=?_) (a':=?_) #[y_,z_,z_,z_,z_,z_,z_,z_,z_,z_,z_,z_,z_,z_,z_,z_,z_,z_,z_,z_,z_,z_] rfl rfl (any_of HT_.out (by kernel_rfl)) (fun _ _ _ h=>h) (Or.inl ⟨by rfl,?_⟩) ?_ ?_
           rotate_left;(intro w';go_simp;with_reducible rfl);rotate_left;(simp only [Act.put,q1_,q2_,q3_,i64_w,i32_w];rfl)
           refine pure_ (i:=1) (N:=some 77) (v:=?_) (a':=?_) #[y_,y_,z_,z_,z_,z_,z_,z_,z_,z_,z_,z_,z_,z_,z_,z_,z_,z_,z_,z_,z_,z_] rfl rfl (any_of HT_.out (by kernel_rfl)) (fun _ _ _ h=>h) (Or.inl ⟨by rfl,?_⟩) ?_ ?_
           rotate_left;(intro w';go_simp;with_reducible rfl);rotate_left;(simp only [Act.put,q1_,q2_,q3_,i64_w,i32_w];rfl)
           refine pure_ (i:=2) (N:=some 78) (v:=?_) (a':=?_) #[y_,y_,y_,z_,z_,z_,z_,z_,z_,z_,z_,z_,z_,z_,z_,z_,z_,z_,z_,z_,z_,z_] rfl rfl (any_of HT_.out (by kernel_rfl)) (fun _ _ _ h=>h) (Or.inl ⟨by rfl,?_⟩) ?_ ?_
           rotate_left;(intro w';go_simp;with_reducible rfl);rotate_left;(simp only [Act.put,q1_,q2_,q3_,i64_w,i32_w];rfl)
           refine pure_ (i:=3) (N:=some 79) (v:=?_) (a':=?_) #[y_,y_,y_,y_,z_,z_,z_,z_,z_,z_,z_,z_,z_,z_,z_,z_,z_,z_,z_,z_,z_,z_] rfl rfl (any_of HT_.out (by kernel_rfl)) (fun _ _ _ h=>h) (Or.inl ⟨by rfl,?_⟩) ?_ ?_
           rotate_left;(intro w';go_simp;with_reducible rfl);rotate_left;(simp only [Act.put,q1_,q2_,q3_,i64_w,i32_w];rfl)
           refine pure_ (i:=4) (N:=some 80) (v:=undef) (a':=?_) #[y_,y_,y_,y_,y_,z_,z_,z_,z_,z_,z_,z_,z_,z_,z_,z_,z_,z_,z_,z_,z_,z_] rfl rfl (any_of HT_.out (by kernel_rfl)) (fun _ _ _ h=>h) (Or.inr ⟨by rfl,rfl⟩) ?_ ?_
           rotate_left;(simp only [Act.put,q1_,q2_,q3_,i64_w,i32_w];rfl)
           refine pure_ (i:=5) (N:=some 81) (v:=undef) (a':=?_) #[y_,y_,y_,y_,y_,y_,z_,z_,z_,z_,z_,z_,z_,z_,z_,z_,z_,z_,z_,z_,z_,z_] rfl rfl (any_of HT_.out (by kernel_rfl)) (fun _ _ _ h=>h) (Or.inr ⟨by rfl,rfl⟩) ?_ ?_
           rotate_left;(simp only [Act.put,q1_,q2_,q3_,i64_w,i32_w];rfl)
           refine pure_ (i:=6) (N:=some 82) (v:=undef) (a':=?_) #[y_,y_,y_,y_,y_,y_,y_,z_,z_,z_,z_,z_,z_,z_,z_,z_,z_,z_,z_,z_,z_,z_] rfl rfl (any_of HT_.out (by kernel_rfl)) (fun _ _ _ h=>h) (Or.inr ⟨by rfl,rfl⟩) ?_ ?_
           rotate_left;(simp only [Act.put,q1_,q2_,q3_,i64_w,i32_w];rfl)
           refine pure_ (i:=7) (N:=some 83) (v:=?_) (a':=?_) #[y_,y_,y_,y_,y_,y_,y_,y_,z_,z_,z_,z_,z_,z_,z_,z_,z_,z_,z_,z_,z_,z_] rfl rfl (any_of HT_.out (by kernel_rfl)) (fun _ _ _ h=>h) (Or.inl ⟨by rfl,?_⟩) ?_ ?_
           rotate_left;(intro w';go_simp;with_reducible rfl);rotate_left;(simp only [Act.put,q1_,q2_,q3_,i64_w,i32_w];rfl)
           refine pure_ (i:=8) (N:=some 84) (v:=?_) (a':=?_) #[y_,y_,y_,y_,y_,y_,y_,y_,y_,z_,z_,z_,z_,z_,z_,z_,z_,z_,z_,z_,z_,z_] rfl rfl (any_of HT_.out (by kernel_rfl)) (fun _ _ _ h=>h) (Or.inl ⟨by rfl,?_⟩) ?_ ?_
           rotate_left;(intro w';go_simp;with_reducible rfl);rotate_left;(simp only [Act.put,q1_,q2_,q3_,i64_w,i32_w];rfl)
           refine pure_ (i:=9) (N:=some 85) (v:=undef) (a':=?_) #[y_,y_,y_,y_,y_,y_,y_,y_,y_,y_,z_,z_,z_,z_,z_,z_,z_,z_,z_,z_,z_,z_] rfl rfl (any_of HT_.out (by kernel_rfl)) (fun _ _ _ h=>h) (Or.inr ⟨by rfl,rfl⟩) ?_ ?_
           rotate_left;(simp only [Act.put,q1_,q2_,q3_,i64_w,i32_w];rfl)
           refine pure_ (i:=10) (N:=some 86) (v:=undef) (a':=?_) #[y_,y_,y_,y_,y_,y_,y_,y_,y_,y_,y_,z_,z_,z_,z_,z_,z_,z_,z_,z_,z_,z_] rfl rfl (any_of HT_.out (by kernel_rfl)) (fun _ _ _ h=>h) (Or.inr ⟨by rfl,rfl⟩) ?_ ?_
           rotate_left;(simp only [Act.put,q1_,q2_,q3_,i64_w,i32_w];rfl)
           refine pure_ (i:=11) (N:=some 87) (v:=undef) (a':=?_) #[y_,y_,y_,y_,y_,y_,y_,y_,y_,y_,y_,y_,z_,z_,z_,z_,z_,z_,z_,z_,z_,z_] rfl rfl (any_of HT_.out (by kernel_rfl)) (fun _ _ _ h=>h) (Or.inr ⟨by rfl,rfl⟩) ?_ ?_
           rotate_left;(simp only [Act.put,q1_,q2_,q3_,i64_w,i32_w];rfl)
           refine pure_ (i:=12) (N:=some 88) (v:=undef) (a':=?_) #[y_,y_,y_,y_,y_,y_,y_,y_,y_,y_,y_,y_,y_,z_,z_,z_,z_,z_,z_,z_,z_,z_] rfl rfl (any_of HT_.out (by kernel_rfl)) (fun _ _ _ h=>h) (Or.inr ⟨by rfl,rfl⟩) ?_ ?_
           rotate_left;(simp only [Act.put,q1_,q2_,q3_,i64_w,i32_w];rfl)
           refine pure_ (i:=13) (N:=some 89) (v:=undef) (a':=?_) #[y_,y_,y_,y_,y_,y_,y_,y_,y_,y_,y_,y_,y_,y_,z_,z_,z_,z_,z_,z_,z_,z_] rfl rfl (any_of HT_.out (by kernel_rfl)) (fun _ _ _ h=>h) (Or.inr ⟨by rfl,rfl⟩) ?_ ?_
           rotate_left;(simp only [Act.put,q1_,q2_,q3_,i64_w,i32_w];rfl)
           refine pure_ (i:=14) (N:=some 90) (v:=undef) (a':=?_) #[y_,y_,y_,y_,y_,y_,y_,y_,y_,y_,y_,y_,y_,y_,y_,z_,z_,z_,z_,z_,z_,z_] rfl rfl (any_of HT_.out (by kernel_rfl)) (fun _ _ _ h=>h) (Or.inr ⟨by rfl,rfl⟩) ?_ ?_
           rotate_left;(simp only [Act.put,q1_,q2_,q3_,i64_w,i32_w];rfl)
           refine pure_ (i:=15) (N:=some 91) (v:=undef) (a':=?_) #[y_,y_,y_,y_,y_,y_,y_,y_,y_,y_,y_,y_,y_,y_,y_,y_,z_,z_,z_,z_,z_,z_] rfl rfl (any_of HT_.out (by kernel_rfl)) (fun _ _ _ h=>h) (Or.inr ⟨by rfl,rfl⟩) ?_ ?_
           rotate_left;(simp only [Act.put,q1_,q2_,q3_,i64_w,i32_w];rfl)
           refine pure_ (i:=16) (N:=some 92) (v:=undef) (a':=?_) #[y_,y_,y_,y_,y_,y_,y_,y_,y_,y_,y_,y_,y_,y_,y_,y_,y_,z_,z_,z_,z_,z_] rfl rfl (any_of HT_.out (by kernel_rfl)) (fun _ _ _ h=>h) (Or.inr ⟨by rfl,rfl⟩) ?_ ?_
           rotate_left;(simp only [Act.put,q1_,q2_,q3_,i64_w,i32_w];rfl)
           refine pure_ (i:=17) (N:=some 93) (v:=undef) (a':=?_) #[y_,y_,y_,y_,y_,y_,y_,y_,y_,y_,y_,y_,y_,y_,y_,y_,y_,y_,z_,z_,z_,z_] rfl rfl (any_of HT_.out (by kernel_rfl)) (fun _ _ _ h=>h) (Or.inr ⟨by rfl,rfl⟩) ?_ ?_
           rotate_left;(simp only [Act.put,q1_,q2_,q3_,i64_w,i32_w];rfl)
           refine pure_ (i:=18) (N:=some 94) (v:=undef) (a':=?_) #[y_,y_,y_,y_,y_,y_,y_,y_,y_,y_,y_,y_,y_,y_,y_,y_,y_,y_,y_,z_,z_,z_] rfl rfl (any_of HT_.out (by kernel_rfl)) (fun _ _ _ h=>h) (Or.inr ⟨by rfl,rfl⟩) ?_ ?_
           rotate_left;(simp only [Act.put,q1_,q2_,q3_,i64_w,i32_w];rfl)
           refine pure_ (i:=19) (N:=some 95) (v:=undef) (a':=?_) #[y_,y_,y_,y_,y_,y_,y_,y_,y_,y_,y_,y_,y_,y_,y_,y_,y_,y_,y_,y_,z_,z_] rfl rfl (any_of HT_.out (by kernel_rfl)) (fun _ _ _ h=>h) (Or.inr ⟨by rfl,rfl⟩) ?_ ?_
           rotate_left;(simp only [Act.put,q1_,q2_,q3_,i64_w,i32_w];rfl)
           refine pure_ (i:=20) (N:=some 96) (v:=undef) (a':=?_) #[y_,y_,y_,y_,y_,y_,y_,y_,y_,y_,y_,y_,y_,y_,y_,y_,y_,y_,y_,y_,y_,z_] rfl rfl (any_of HT_.out (by kernel_rfl)) (fun _ _ _ h=>h) (Or.inr ⟨by rfl,rfl⟩) ?_ ?_
           rotate_left;(simp only [Act.put,q1_,q2_,q3_,i64_w,i32_w];rfl)
           refine pure_ (i:=21) (N:=some 97) (v:=?_) (a':=?_) #[y_,y_,y_,y_,y_,y_,y_,y_,y_,y_,y_,y_,y_,y_,y_,y_,y_,y_,y_,y_,y_,y_] rfl rfl (any_of HT_.out (by kernel_rfl)) (fun _ _ _ h=>h) (Or.inl ⟨by rfl,?_⟩) ?_ ?_
           rotate_left;(intro w';go_simp;with_reducible rfl);rotate_left;(simp only [Act.put,q1_,q2_,q3_,i64_w,i32_w];rfl)
           refine done_ (done_of HT_.out (by kernel_rfl)) ?_
           obtain ⟨Ao148,co148,eo148⟩:=Kd.R_slice HO141.out
           subst eo148
           obtain ⟨Ao149,co149,eo149⟩:=Kd.R_slice HO156.out
           subst eo149
           try go_wp2_with (first|(go_at_call 11;(with_reducible refine (souterrainref07_Same.calls k1 _ _ t139 _ _ y154 t177 _ ?side1 ?side2 ?side3 ?side4 A135.out).mono ?_);(case side1=>repeat (first|exact (Kd.R_reads' HO141.out).2.2|(with_reducible refine Kd.C_alloc ?_ _)|(with_reducible refine Kd.C_drewN ?_ _)|(with_reducible refine Kd.C_drew ?_)));(case side2=>exact (Kd.R_reads' HO141.out).2.1);(case side3=>repeat (first|exact (Kd.R_reads' HO156.out).2.2|(with_reducible refine Kd.C_alloc ?_ _)|(with_reducible refine Kd.C_drewN ?_ _)|(with_reducible refine Kd.C_drew ?_)));(case side4=>exact (Kd.R_reads' HO156.out).2.1);rintro e w' ⟨rfl,⟨nd,rfl⟩⟩))
           go_ret
           exact ⟨by first|rfl|(simp [errW_none,errW_some] <;> rfl)|(simp [*,errW_none,errW_some] <;> rfl),by repeat (first|(with_reducible first|exact HB.out|apply below_alloc|apply pw_below_drewN|apply below_drew1)|exact HB.out)⟩
          ·replace c134:=Bool.eq_false_iff.mpr c134
           subst c134
           have H1:(some false)=some r:=by rw [if_neg (show ¬ (false=true) by decide)] at H;exact H
           clear H
           have H:=H1
           clear H1
           obtain rfl:=Option.some.inj H
           obtain ⟨Ao150,co150,eo150⟩:=Kd.R_slice HO_10.out
           subst eo150
           try go_wp2_with (first|((with_reducible refine gate_callee (f:=14) rfl ?_);refine goesL_ (some 52) rfl rfl Try.func14 (by kernel_rfl) rfl #[.slice Ao150 x10_1.length co150] rfl (by (try simp only [List.map_toArray,List.map_cons,List.map_nil]);first|done|rfl|(simp only [List.length_drop,List.length_take];rfl)) ?_;(with_reducible refine (span_Size.calls _ _ x10_1 t138 _ ?side1 ?side2 A14.out).mono ?_);(case side1=>repeat (first|exact (Kd.R_reads' HO_10.out).2.2|(with_reducible refine Kd.C_alloc ?_ _)|(with_reducible refine Kd.C_drewN ?_ _)|(with_reducible refine Kd.C_drew ?_)));(case side2=>exact (Kd.R_reads' HO_10.out).2.1);rintro e w151 ⟨rfl,hb⟩;refine ⟨_,rfl,?_⟩;have n0_:=Aside0.mk (Kd.R_below (by (with_reducible repeat (first|apply R_alloc|apply R_drewN|apply R_drew));exact HO_10.out) hb);have n1_:=Aside0.mk (below_step (by repeat (first|(with_reducible first|exact HB.out|apply below_alloc|apply pw_below_drewN|apply below_drew1)|exact HB.out)) hb);clear HO_10;clear HB;have HO_10:=n0_;have HB:=n1_;clear n0_ n1_;(try clear hb);(try clear hb2);(try clear hk);(try clear hi))|((with_reducible refine gate_callee (f:=12) rfl ?_);refine goesL_ (some 58) rfl rfl Try.func12 (by kernel_rfl) rfl #[.slice Ao150 x10_1.length co150,.int .i64 (wrap64 (a1)),.int .i64 (wrap64 (a2))] rfl (by (try simp only [List.map_toArray,List.map_cons,List.map_nil]);first|done|rfl|(simp only [List.length_drop,List.length_take];rfl)) ?_;(with_reducible refine (span_Parts.calls _ _ x10_1 (wrap64 (a1)) (wrap64 (a2)) t139 _ ?side1 ?side2 A18.out).mono ?_);(case side1=>repeat (first|exact (Kd.R_reads' HO_10.out).2.2|(with_reducible refine Kd.C_alloc ?_ _)|(with_reducible refine Kd.C_drewN ?_ _)|(with_reducible refine Kd.C_drew ?_)));(case side2=>exact (Kd.R_reads' HO_10.out).2.1);rintro e w152 ⟨v140,rfl,ho0,hb⟩;refine ⟨_,rfl,?_⟩;have n0_:=Aside0.mk (Kd.R_below (by (with_reducible repeat (first|apply R_alloc|apply R_drewN|apply R_drew));exact HO_10.out) hb);have n1_:=Aside0.mk (Kd.R_lower ho0 (below_size (by repeat (first|(with_reducible first|exact HB.out|apply below_alloc|apply pw_below_drewN|apply below_drew1)|exact HB.out))));have n2_:=Aside0.mk (below_step (by repeat (first|(with_reducible first|exact HB.out|apply below_alloc|apply pw_below_drewN|apply below_drew1)|exact HB.out)) hb);clear HO_10;clear HB;have HO_10:=n0_;have HO141:=n1_;have HB:=n2_;clear n0_ n1_ n2_;(try clear hb);(try clear hb2);(try clear hk);(try clear hi);(try clear ho0))|((with_reducible refine gate_callee (f:=12) rfl ?_);refine goesL_ (some 62) rfl rfl Try.func12 (by kernel_rfl) rfl #[.slice Ao150 x10_1.length co150,.int .i64 (wrap64 (a1)),.int .i64 (Int.tmod (wrap64 (a3)) (wrap64 ((wrap64 (a2))+1)))] rfl (by (try simp only [List.map_toArray,List.map_cons,List.map_nil]);first|done|rfl|(simp only [List.length_drop,List.length_take];rfl)) ?_;(with_reducible refine (span_Parts.calls _ _ x10_1 (wrap64 (a1)) (Int.tmod (wrap64 (a3)) (wrap64 ((wrap64 (a2))+1))) t142 _ ?side1 ?side2 A19.out).mono ?_);(case side1=>repeat (first|exact (Kd.R_reads' HO_10.out).2.2|(with_reducible refine Kd.C_alloc ?_ _)|(with_reducible refine Kd.C_drewN ?_ _)|(with_reducible refine Kd.C_drew ?_)));(case side2=>exact (Kd.R_reads' HO_10.out).2.1);rintro e w153 ⟨v143,rfl,ho0,hb⟩;refine ⟨_,rfl,?_⟩;have n0_:=Aside0.mk (Kd.R_below (by (with_reducible repeat (first|apply R_alloc|apply R_drewN|apply R_drew));exact HO_10.out) hb);have n1_:=Aside0.mk (Kd.R_elder' (by (with_reducible repeat (first|apply R_alloc|apply R_drewN|apply R_drew));exact HO141.out) (Kd.R_base ho0) hb);have n2_:=Aside0.mk (Kd.R_lower (Kd.R_new' ho0 (Kd.R_lt (by (with_reducible repeat (first|apply R_alloc|apply R_drewN|apply R_drew));exact HO141.out))) (below_size (by repeat (first|(with_reducible first|exact HB.out|apply below_alloc|apply pw_below_drewN|apply below_drew1)|exact HB.out))));have n3_:=Aside0.mk (below_step (by repeat (first|(with_reducible first|exact HB.out|apply below_alloc|apply pw_below_drewN|apply below_drew1)|exact HB.out)) hb);clear HO_10;clear HO141;clear HB;have HO_10:=n0_;have HO141:=n1_;have HO144:=n2_;have HB:=n3_;clear n0_ n1_ n2_ n3_;(try clear hb);(try clear hb2);(try clear hk);(try clear hi);(try clear ho0))|((with_reducible refine gate_callee (f:=12) rfl ?_);refine goesL_ (some 70) rfl rfl Try.func12 (by kernel_rfl) rfl #[.slice Ao150 x10_1.length co150,.int .i64 (wrap64 ((wrap64 (a1))+(Int.tmod (wrap64 (a3)) (wrap64 ((wrap64 (a2))+1))))),.int .i64 (wrap64 ((wrap64 (a2)) - (Int.tmod (wrap64 (a3)) (wrap64 ((wrap64 (a2))+1)))))] rfl (by (try simp only [List.map_toArray,List.map_cons,List.map_nil]);first|done|rfl|(simp only [List.length_drop,List.length_take];rfl)) ?_;(with_reducible refine (span_Parts.calls _ _ x10_1 (wrap64 ((wrap64 (a1))+(Int.tmod (wrap64 (a3)) (wrap64 ((wrap64 (a2))+1))))) (wrap64 ((wrap64 (a2)) - (Int.tmod (wrap64 (a3)) (wrap64 ((wrap64 (a2))+1))))) t145 _ ?side1 ?side2 A20.out).mono ?_);(case side1=>repeat (first|exact (Kd.R_reads' HO_10.out).2.2|(with_reducible refine Kd.C_alloc ?_ _)|(with_reducible refine Kd.C_drewN ?_ _)|(with_reducible refine Kd.C_drew ?_)));(case side2=>exact (Kd.R_reads' HO_10.out).2.1);rintro e w154 ⟨v146,rfl,ho0,hb⟩;refine ⟨_,rfl,?_⟩;have n0_:=Aside0.mk (Kd.R_below (by (with_reducible repeat (first|apply R_alloc|apply R_drewN|apply R_drew));exact HO_10.out) hb);have n1_:=Aside0.mk (Kd.R_elder' (by (with_reducible repeat (first|apply R_alloc|apply R_drewN|apply R_drew));exact HO141.out) (Kd.R_base ho0) hb);have n2_:=Aside0.mk (Kd.R_elder' (by (with_reducible repeat (first|apply R_alloc|apply R_drewN|apply R_drew));exact HO144.out) (Kd.R_base ho0) hb);have n3_:=Aside0.mk (Kd.R_lower (Kd.R_new' (Kd.R_new' ho0 (Kd.R_lt (by (with_reducible repeat (first|apply R_alloc|apply R_drewN|apply R_drew));exact HO141.out))) (Kd.R_lt (by (with_reducible repeat (first|apply R_alloc|apply R_drewN|apply R_drew));exact HO144.out))) (below_size (by repeat (first|(with_reducible first|exact HB.out|apply below_alloc|apply pw_below_drewN|apply below_drew1)|exact HB.out))));have n4_:=Aside0.mk (below_step (by repeat (first|(with_reducible first|exact HB.out|apply below_alloc|apply pw_below_drewN|apply below_drew1)|exact HB.out)) hb);clear HO_10;clear HO141;clear HO144;clear HB;have HO_10:=n0_;have HO141:=n1_;have HO144:=n2_;have HO147:=n3_;have HB:=n4_;clear n0_ n1_ n2_ n3_ n4_;(try clear hb);(try clear hb2);(try clear hk);(try clear hi);(try clear ho0))|((with_reducible refine gate_dst (N:=71) rfl ?_);(try (refine gate_guard (by rfl) ?_;dsimp only));refine Kd.R_lit k34 _ 34 ?hg (N:=71) ?hd (xs:=([]:List (S34))) (inner:=[]) (ok:=fun _=>True) (okp:=fun _=>True) ?hr ?hp (fun _ hk=>hk) trivial (Below.refl _ _) (Nat.le_refl _) (by simp) ?_;(case hd=>rfl);(case hg=>rfl);(case hr=>first|(go_simp;done)|(go_simp;rfl));(case hp=>exact (Reps.none _ _));intro v149 w155 ho156 hb hg_ hnew_;clear hg_ hnew_;(first|rw [← Ny148.out] at ho156|(simp only [Int.reduceToNat] at ho156;rw [← Ny148.out] at ho156));have n0_:=Aside0.mk (Kd.R_below (by (with_reducible repeat (first|apply R_alloc|apply R_drewN|apply R_drew));exact HO_10.out) hb);have n1_:=Aside0.mk (Kd.R_elder' (by (with_reducible repeat (first|apply R_alloc|apply R_drewN|apply R_drew));exact HO141.out) (Kd.R_base ho156) hb);have n2_:=Aside0.mk (Kd.R_elder' (by (with_reducible repeat (first|apply R_alloc|apply R_drewN|apply R_drew));exact HO144.out) (Kd.R_base ho156) hb);have n3_:=Aside0.mk (Kd.R_elder' (by (with_reducible repeat (first|apply R_alloc|apply R_drewN|apply R_drew));exact HO147.out) (Kd.R_base ho156) hb);have n4_:=Aside0.mk (Kd.R_lower (Kd.R_new' (Kd.R_new' (Kd.R_new' ho156 (Kd.R_lt (by (with_reducible repeat (first|apply R_alloc|apply R_drewN|apply R_drew));exact HO141.out))) (Kd.R_lt (by (with_reducible repeat (first|apply R_alloc|apply R_drewN|apply R_drew));exact HO144.out))) (Kd.R_lt (by (with_reducible repeat (first|apply R_alloc|apply R_drewN|apply R_drew));exact HO147.out))) (below_size (by repeat (first|(with_reducible first|exact HB.out|apply below_alloc|apply pw_below_drewN|apply below_drew1)|exact HB.out))));have n5_:=Aside0.mk (below_step (by repeat (first|(with_reducible first|exact HB.out|apply below_alloc|apply pw_below_drewN|apply below_drew1)|exact HB.out)) hb);clear HO_10;clear HO141;clear HO144;clear HO147;clear HB;have HO_10:=n0_;have HO141:=n1_;have HO144:=n2_;have HO147:=n3_;have HO150:=n4_;have HB:=n5_;clear n0_ n1_ n2_ n3_ n4_ n5_;clear hb ho156;obtain ⟨Ao158,co158,eo158⟩:=Kd.R_slice HO144.out;subst eo158)|((with_reducible refine gate_builtin (b:=.append) (xs:=#[.tmp 71,.tmp 72]) rfl ?_);(try (refine gate_guard (by rfl) ?_;dsimp only));at_builtin;refine Kd.R_append_rows k34 (w0:=w) w.heap.size rfl (.tmp 71) (.tmp 72) 27 34 (.agg #[(.int .i64 0),(.int .i64 0),(.int .i64 0)]) 24 rfl Try.underlying27 info34 rfl (by decide) (by omega) v149 y148 t142 _ _ _ (fun k_=>some k_ ≠ (v140:Value).ownBlock∧some k_ ≠ (.slice Ao158 t142.length co158:Value).ownBlock∧some k_ ≠ (v146:Value).ownBlock) (fun _=>False) rfl rfl ?aO ?aR (fun _ _ h=>h) (fun _ h=>h.elim) ?aF ?aB ?aS ?aL ?_;(case aR=>repeat (first|exact (Kd.R_reads' HO144.out).2.2|(with_reducible refine Kd.C_alloc ?_ _)|(with_reducible refine Kd.C_drewN ?_ _)|(with_reducible refine Kd.C_drew ?_)));(case aB=>exact (by repeat (first|(with_reducible first|exact HB.out|apply below_alloc|apply pw_below_drewN|apply below_drew1)|exact HB.out)));(case aF=>exact (fun k_ hk=>⟨Kd.fresh' (Kd.R_lt (by (with_reducible repeat (first|apply R_alloc|apply R_drewN|apply R_drew));exact HO141.out)) k_ hk,Kd.fresh' (Kd.R_lt (by (with_reducible repeat (first|apply R_alloc|apply R_drewN|apply R_drew));exact HO144.out)) k_ hk,Kd.fresh' (Kd.R_lt (by (with_reducible repeat (first|apply R_alloc|apply R_drewN|apply R_drew));exact HO147.out)) k_ hk⟩));(case aO=>exact (by (with_reducible repeat (first|apply R_alloc|apply R_drewN|apply R_drew));exact Kd.R_mono HO150.out (fun _ hk=>⟨hk.1.1.2,⟨hk.1.2,hk.2⟩⟩)));(case aS=>exact (below_size (by repeat (first|(with_reducible first|exact HB.out|apply below_alloc|apply pw_below_drewN|apply below_drew1)|exact HB.out))));(case aL=>have:=LMc21.out;omega);intro v152 w157 ho hb hg hat;rw [← Ny151.out] at ho;have n0_:=Aside0.mk (Kd.R_over' (by (with_reducible repeat (first|apply R_alloc|apply R_drewN|apply R_drew));exact HO_10.out) (Kd.R_typed (by (with_reducible repeat (first|apply R_alloc|apply R_drewN|apply R_drew));exact HO150.out)) (by decide) hg);have n1_:=Aside0.mk (Kd.R_after (ok:=(fun k_=>some k_ ≠ (.slice Ao158 t142.length co158:Value).ownBlock∧some k_ ≠ (v146:Value).ownBlock)) (by (with_reducible repeat (first|apply R_alloc|apply R_drewN|apply R_drew));exact Kd.R_mono HO141.out (fun _ hk=>⟨⟨hk.1.1.2,hk.1.2⟩,hk.2⟩)) hg hat);have n2_:=Aside0.mk (Kd.R_after (ok:=(fun k_=>some k_ ≠ (v140:Value).ownBlock∧some k_ ≠ (v146:Value).ownBlock)) (by (with_reducible repeat (first|apply R_alloc|apply R_drewN|apply R_drew));exact Kd.R_mono HO144.out (fun _ hk=>⟨⟨hk.1.1.2,hk.1.2⟩,hk.2⟩)) hg hat);have n3_:=Aside0.mk (Kd.R_after (ok:=(fun k_=>some k_ ≠ (v140:Value).ownBlock∧some k_ ≠ (.slice Ao158 t142.length co158:Value).ownBlock)) (by (with_reducible repeat (first|apply R_alloc|apply R_drewN|apply R_drew));exact Kd.R_mono HO147.out (fun _ hk=>⟨⟨hk.1.1.2,hk.1.2⟩,hk.2⟩)) hg hat);have n4_:=Aside0.mk (hb);have n5_:=Aside0.mk (ho);clear HO_10;clear HO141;clear HO144;clear HO147;clear HB;clear HO150;have HO_10:=n0_;have HO141:=n1_;have HO144:=n2_;have HO147:=n3_;have HB:=n4_;have HO153:=n5_;clear n0_ n1_ n2_ n3_ n4_ n5_;clear ho hb hg hat;obtain ⟨Ao160,co160,eo160⟩:=Kd.R_slice HO147.out;subst eo160)|((with_reducible refine gate_builtin (b:=.append) (xs:=#[.tmp 73,.tmp 74]) rfl ?_);(try (refine gate_guard (by rfl) ?_;dsimp only));at_builtin;refine Kd.R_append_rows k34 (w0:=w) w.heap.size rfl (.tmp 73) (.tmp 74) 27 34 (.agg #[(.int .i64 0),(.int .i64 0),(.int .i64 0)]) 24 rfl Try.underlying27 info34 rfl (by decide) (by omega) v152 y151 t145 _ _ _ (fun k_=>some k_ ≠ (v140:Value).ownBlock∧some k_ ≠ (.slice Ao158 t142.length co158:Value).ownBlock∧some k_ ≠ (.slice Ao160 t145.length co160:Value).ownBlock) (fun _=>False) rfl rfl ?aO ?aR (fun _ _ h=>h) (fun _ h=>h.elim) ?aF ?aB ?aS ?aL ?_;(case aR=>repeat (first|exact (Kd.R_reads' HO147.out).2.2|(with_reducible refine Kd.C_alloc ?_ _)|(with_reducible refine Kd.C_drewN ?_ _)|(with_reducible refine Kd.C_drew ?_)));(case aB=>exact (by repeat (first|(with_reducible first|exact HB.out|apply below_alloc|apply pw_below_drewN|apply below_drew1)|exact HB.out)));(case aF=>exact (fun k_ hk=>⟨Kd.fresh' (Kd.R_lt (by (with_reducible repeat (first|apply R_alloc|apply R_drewN|apply R_drew));exact HO141.out)) k_ hk,Kd.fresh' (Kd.R_lt (by (with_reducible repeat (first|apply R_alloc|apply R_drewN|apply R_drew));exact HO144.out)) k_ hk,Kd.fresh' (Kd.R_lt (by (with_reducible repeat (first|apply R_alloc|apply R_drewN|apply R_drew));exact HO147.out)) k_ hk⟩));(case aO=>exact (by (with_reducible repeat (first|apply R_alloc|apply R_drewN|apply R_drew));exact HO153.out));(case aS=>exact (below_size (by repeat (first|(with_reducible first|exact HB.out|apply below_alloc|apply pw_below_drewN|apply below_drew1)|exact HB.out))));(case aL=>have:=LMc22.out;omega);intro v155 w159 ho hb hg hat;rw [← Ny154.out] at ho;have n0_:=Aside0.mk (Kd.R_over' (by (with_reducible repeat (first|apply R_alloc|apply R_drewN|apply R_drew));exact HO_10.out) (Kd.R_typed (by (with_reducible repeat (first|apply R_alloc|apply R_drewN|apply R_drew));exact HO153.out)) (by decide) hg);have n1_:=Aside0.mk (Kd.R_after (ok:=(fun k_=>some k_ ≠ (.slice Ao158 t142.length co158:Value).ownBlock∧some k_ ≠ (.slice Ao160 t145.length co160:Value).ownBlock)) (by (with_reducible repeat (first|apply R_alloc|apply R_drewN|apply R_drew));exact HO141.out) hg hat);have n2_:=Aside0.mk (Kd.R_after (ok:=(fun k_=>some k_ ≠ (v140:Value).ownBlock∧some k_ ≠ (.slice Ao160 t145.length co160:Value).ownBlock)) (by (with_reducible repeat (first|apply R_alloc|apply R_drewN|apply R_drew));exact HO144.out) hg hat);have n3_:=Aside0.mk (Kd.R_after (ok:=(fun k_=>some k_ ≠ (v140:Value).ownBlock∧some k_ ≠ (.slice Ao158 t142.length co158:Value).ownBlock)) (by (with_reducible repeat (first|apply R_alloc|apply R_drewN|apply R_drew));exact HO147.out) hg hat);have n4_:=Aside0.mk (hb);have n5_:=Aside0.mk (ho);clear HO_10;clear HO141;clear HO144;clear HO147;clear HB;clear HO153;have HO_10:=n0_;have HO141:=n1_;have HO144:=n2_;have HO147:=n3_;have HB:=n4_;have HO156:=n5_;clear n0_ n1_ n2_ n3_ n4_ n5_;clear ho hb hg hat))
           have n0_:=Aside0.mk (Kd.R_drew HO_10.out)
           have n1_:=Aside0.mk (Kd.R_drew HO141.out)
           have n2_:=Aside0.mk (Kd.R_drew HO144.out)
           have n3_:=Aside0.mk (Kd.R_drew HO147.out)
           have n4_:=Aside0.mk (Kd.R_drew HO156.out)
           have n5_:=Aside0.mk (below_drew1 HB.out)
           clear HO_10
           clear HO141
           clear HO144
           clear HO147
           clear HO156
           clear HB
           have HO_10:=n0_
           have HO141:=n1_
           have HO144:=n2_
           have HO147:=n3_
           have HO156:=n4_
           have HB:=n5_
           clear n0_ n1_ n2_ n3_ n4_ n5_
           refine start_ (n:=22) (S:=fun w'=>True) (ds:=[]) #[z_,z_,z_,z_,z_,z_,z_,z_,z_,z_,z_,z_,z_,z_,z_,z_,z_,z_,z_,z_,z_,z_] (by kernel_rfl) rfl rfl trivial (fun hHeld=>?_);refine with_tabW souterrainlaw07_SpanParted.tab18 souterrainlaw07_SpanParted.bits18 (fun HT_ HW_=>?_)
           generalize w159.drew=w161 at HO_10 HO141 HO144 HO147 HO156 HB hHeld ⊢
           refine pure_ (i:=0) (N:=some 76) (v:=?_) (a':=?_) #[y_,z_,z_,z_,z_,z_,z_,z_,z_,z_,z_,z_,z_,z_,z_,z_,z_,z_,z_,z_,z_,z_] rfl rfl (any_of HT_.out (by kernel_rfl)) (fun _ _ _ h=>h) (Or.inl ⟨by rfl,?_⟩) ?_ ?_
           rotate_left;(intro w';go_simp;with_reducible rfl);rotate_left;(simp only [Act.put,q1_,q2_,q3_,i64_w,i32_w];rfl)
           refine pure_ (i:=1) (N:=some 77) (v:=?_) (a':=?_) #[y_,y_,z_,z_,z_,z_,z_,z_,z_,z_,z_,z_,z_,z_,z_,z_,z_,z_,z_,z_,z_,z_] rfl rfl (any_of HT_.out (by kernel_rfl)) (fun _ _ _ h=>h) (Or.inl ⟨by rfl,?_⟩) ?_ ?_
           rotate_left;(intro w';go_simp;with_reducible rfl);rotate_left;(simp only [Act.put,q1_,q2_,q3_,i64_w,i32_w];rfl)
           refine pure_ (i:=2) (N:=some 78) (v:=?_) (a':=?_) #[y_,y_,y_,z_,z_,z_,z_,z_,z_,z_,z_,z_,z_,z_,z_,z_,z_,z_,z_,z_,z_,z_] rfl rfl (any_of HT_.out (by kernel_rfl)) (fun _ _ _ h=>h) (Or.inl ⟨by rfl,?_⟩) ?_ ?_
           rotate_left;(intro w';go_simp;with_reducible rfl);rotate_left;(simp only [Act.put,q1_,q2_,q3_,i64_w,i32_w];rfl)
           refine pure_ (i:=3) (N:=some 79) (v:=?_) (a':=?_) #[y_,y_,y_,y_,z_,z_,z_,z_,z_,z_,z_,z_,z_,z_,z_,z_,z_,z_,z_,z_,z_,z_] rfl rfl (any_of HT_.out (by kernel_rfl)) (fun _ _ _ h=>h) (Or.inl ⟨by rfl,?_⟩) ?_ ?_
           rotate_left;(intro w';go_simp;with_reducible rfl);rotate_left;(simp only [Act.put,q1_,q2_,q3_,i64_w,i32_w];rfl)
           refine pure_ (i:=4) (N:=some 80) (v:=undef) (a':=?_) #[y_,y_,y_,y_,y_,z_,z_,z_,z_,z_,z_,z_,z_,z_,z_,z_,z_,z_,z_,z_,z_,z_] rfl rfl (any_of HT_.out (by kernel_rfl)) (fun _ _ _ h=>h) (Or.inr ⟨by rfl,rfl⟩) ?_ ?_
           rotate_left;(simp only [Act.put,q1_,q2_,q3_,i64_w,i32_w];rfl)
           refine pure_ (i:=5) (N:=some 81) (v:=undef) (a':=?_) #[y_,y_,y_,y_,y_,y_,z_,z_,z_,z_,z_,z_,z_,z_,z_,z_,z_,z_,z_,z_,z_,z_] rfl rfl (any_of HT_.out (by kernel_rfl)) (fun _ _ _ h=>h) (Or.inr ⟨by rfl,rfl⟩) ?_ ?_
           rotate_left;(simp only [Act.put,q1_,q2_,q3_,i64_w,i32_w];rfl)
           refine pure_ (i:=6) (N:=some 82) (v:=undef) (a':=?_) #[y_,y_,y_,y_,y_,y_,y_,z_,z_,z_,z_,z_,z_,z_,z_,z_,z_,z_,z_,z_,z_,z_] rfl rfl (any_of HT_.out (by kernel_rfl)) (fun _ _ _ h=>h) (Or.inr ⟨by rfl,rfl⟩) ?_ ?_
           rotate_left;(simp only [Act.put,q1_,q2_,q3_,i64_w,i32_w];rfl)
           refine pure_ (i:=7) (N:=some 83) (v:=?_) (a':=?_) #[y_,y_,y_,y_,y_,y_,y_,y_,z_,z_,z_,z_,z_,z_,z_,z_,z_,z_,z_,z_,z_,z_] rfl rfl (any_of HT_.out (by kernel_rfl)) (fun _ _ _ h=>h) (Or.inl ⟨by rfl,?_⟩) ?_ ?_
           rotate_left;(intro w';go_simp;with_reducible rfl);rotate_left;(simp only [Act.put,q1_,q2_,q3_,i64_w,i32_w];rfl)
           refine pure_ (i:=8) (N:=some 84) (v:=?_) (a':=?_) #[y_,y_,y_,y_,y_,y_,y_,y_,y_,z_,z_,z_,z_,z_,z_,z_,z_,z_,z_,z_,z_,z_] rfl rfl (any_of HT_.out (by kernel_rfl)) (fun _ _ _ h=>h) (Or.inl ⟨by rfl,?_⟩) ?_ ?_
           rotate_left;(intro w';go_simp;with_reducible rfl);rotate_left;(simp only [Act.put,q1_,q2_,q3_,i64_w,i32_w];rfl)
           refine pure_ (i:=9) (N:=some 85) (v:=undef) (a':=?_) #[y_,y_,y_,y_,y_,y_,y_,y_,y_,y_,z_,z_,z_,z_,z_,z_,z_,z_,z_,z_,z_,z_] rfl rfl (any_of HT_.out (by kernel_rfl)) (fun _ _ _ h=>h) (Or.inr ⟨by rfl,rfl⟩) ?_ ?_
           rotate_left;(simp only [Act.put,q1_,q2_,q3_,i64_w,i32_w];rfl)
           refine pure_ (i:=10) (N:=some 86) (v:=undef) (a':=?_) #[y_,y_,y_,y_,y_,y_,y_,y_,y_,y_,y_,z_,z_,z_,z_,z_,z_,z_,z_,z_,z_,z_] rfl rfl (any_of HT_.out (by kernel_rfl)) (fun _ _ _ h=>h) (Or.inr ⟨by rfl,rfl⟩) ?_ ?_
           rotate_left;(simp only [Act.put,q1_,q2_,q3_,i64_w,i32_w];rfl)
           refine pure_ (i:=11) (N:=some 87) (v:=undef) (a':=?_) #[y_,y_,y_,y_,y_,y_,y_,y_,y_,y_,y_,y_,z_,z_,z_,z_,z_,z_,z_,z_,z_,z_] rfl rfl (any_of HT_.out (by kernel_rfl)) (fun _ _ _ h=>h) (Or.inr ⟨by rfl,rfl⟩) ?_ ?_
           rotate_left;(simp only [Act.put,q1_,q2_,q3_,i64_w,i32_w];rfl)
           refine pure_ (i:=12) (N:=some 88) (v:=undef) (a':=?_) #[y_,y_,y_,y_,y_,y_,y_,y_,y_,y_,y_,y_,y_,z_,z_,z_,z_,z_,z_,z_,z_,z_] rfl rfl (any_of HT_.out (by kernel_rfl)) (fun _ _ _ h=>h) (Or.inr ⟨by rfl,rfl⟩) ?_ ?_
           rotate_left;(simp only [Act.put,q1_,q2_,q3_,i64_w,i32_w];rfl)
           refine pure_ (i:=13) (N:=some 89) (v:=undef) (a':=?_) #[y_,y_,y_,y_,y_,y_,y_,y_,y_,y_,y_,y_,y_,y_,z_,z_,z_,z_,z_,z_,z_,z_] rfl rfl (any_of HT_.out (by kernel_rfl)) (fun _ _ _ h=>h) (Or.inr ⟨by rfl,rfl⟩) ?_ ?_
           rotate_left;(simp only [Act.put,q1_,q2_,q3_,i64_w,i32_w];rfl)
           refine pure_ (i:=14) (N:=some 90) (v:=undef) (a':=?_) #[y_,y_,y_,y_,y_,y_,y_,y_,y_,y_,y_,y_,y_,y_,y_,z_,z_,z_,z_,z_,z_,z_] rfl rfl (any_of HT_.out (by kernel_rfl)) (fun _ _ _ h=>h) (Or.inr ⟨by rfl,rfl⟩) ?_ ?_
           rotate_left;(simp only [Act.put,q1_,q2_,q3_,i64_w,i32_w];rfl)
           refine pure_ (i:=15) (N:=some 91) (v:=undef) (a':=?_) #[y_,y_,y_,y_,y_,y_,y_,y_,y_,y_,y_,y_,y_,y_,y_,y_,z_,z_,z_,z_,z_,z_] rfl rfl (any_of HT_.out (by kernel_rfl)) (fun _ _ _ h=>h) (Or.inr ⟨by rfl,rfl⟩) ?_ ?_
           rotate_left;(simp only [Act.put,q1_,q2_,q3_,i64_w,i32_w];rfl)
           refine pure_ (i:=16) (N:=some 92) (v:=undef) (a':=?_) #[y_,y_,y_,y_,y_,y_,y_,y_,y_,y_,y_,y_,y_,y_,y_,y_,y_,z_,z_,z_,z_,z_] rfl rfl (any_of HT_.out (by kernel_rfl)) (fun _ _ _ h=>h) (Or.inr ⟨by rfl,rfl⟩) ?_ ?_
           rotate_left;(simp only [Act.put,q1_,q2_,q3_,i64_w,i32_w];rfl)
           refine pure_ (i:=17) (N:=some 93) (v:=undef) (a':=?_) #[y_,y_,y_,y_,y_,y_,y_,y_,y_,y_,y_,y_,y_,y_,y_,y_,y_,y_,z_,z_,z_,z_] rfl rfl (any_of HT_.out (by kernel_rfl)) (fun _ _ _ h=>h) (Or.inr ⟨by rfl,rfl⟩) ?_ ?_
           rotate_left;(simp only [Act.put,q1_,q2_,q3_,i64_w,i32_w];rfl)
           refine pure_ (i:=18) (N:=some 94) (v:=undef) (a':=?_) #[y_,y_,y_,y_,y_,y_,y_,y_,y_,y_,y_,y_,y_,y_,y_,y_,y_,y_,y_,z_,z_,z_] rfl rfl (any_of HT_.out (by kernel_rfl)) (fun _ _ _ h=>h) (Or.inr ⟨by rfl,rfl⟩) ?_ ?_
           rotate_left;(simp only [Act.put,q1_,q2_,q3_,i64_w,i32_w];rfl)
           refine pure_ (i:=19) (N:=some 95) (v:=undef) (a':=?_) #[y_,y_,y_,y_,y_,y_,y_,y_,y_,y_,y_,y_,y_,y_,y_,y_,y_,y_,y_,y_,z_,z_] rfl rfl (any_of HT_.out (by kernel_rfl)) (fun _ _ _ h=>h) (Or.inr ⟨by rfl,rfl⟩) ?_ ?_
           rotate_left;(simp only [Act.put,q1_,q2_,q3_,i64_w,i32_w];rfl)
           refine pure_ (i:=20) (N:=some 96) (v:=undef) (a':=?_) #[y_,y_,y_,y_,y_,y_,y_,y_,y_,y_,y_,y_,y_,y_,y_,y_,y_,y_,y_,y_,y_,z_] rfl rfl (any_of HT_.out (by kernel_rfl)) (fun _ _ _ h=>h) (Or.inr ⟨by rfl,rfl⟩) ?_ ?_
           rotate_left;(simp only [Act.put,q1_,q2_,q3_,i64_w,i32_w];rfl)
           refine pure_ (i:=21) (N:=some 97) (v:=?_) (a':=?_) #[y_,y_,y_,y_,y_,y_,y_,y_,y_,y_,y_,y_,y_,y_,y_,y_,y_,y_,y_,y_,y_,y_] rfl rfl (any_of HT_.out (by kernel_rfl)) (fun _ _ _ h=>h) (Or.inl ⟨by rfl,?_⟩) ?_ ?_
           rotate_left;(intro w';go_simp;with_reducible rfl);rotate_left;(simp only [Act.put,q1_,q2_,q3_,i64_w,i32_w];rfl)
           refine done_ (done_of HT_.out (by kernel_rfl)) ?_
           try go_wp2
           go_ret
           exact ⟨by first|rfl|(simp [errW_none,errW_some] <;> rfl)|(simp [*,errW_none,errW_some] <;> rfl),by repeat (first|(with_reducible first|exact HB.out|apply below_alloc|apply pw_below_drewN|apply below_drew1)|exact HB.out)⟩
        ·rw [if_neg c22] at H
         exact absurd H (by simp)
       ·rw [if_neg c21] at H
        exact absurd H (by simp)

/-- THE ONE PURE STATEMENT of souterrainlaw07_SpanParted: yours. -/
def souterrainlaw07_SpanParted.Pure : Prop := ∀ (l0 : List Int) (a1 : Int) (a2 : Int) (a3 : Int), l0.length ≤ maxLen → l0.length * 1 ≤ 140737488351232 → (∀ x ∈ l0, (Lit.int .u8 x).wf = true) → (Lit.int .u16 a1).wf = true → (Lit.int .u16 a2).wf = true → (Lit.int .u16 a3).wf = true → ∃ k, souterrainlaw07_SpanParted.f k l0 a1 a2 a3 = some true
theorem souterrainlaw07_SpanParted.walk (P : souterrainlaw07_SpanParted.Pure) (a0 : Option Addr) (len0 cap0 : Nat) (z0 : List Int) (a1 : Int) (a2 : Int) (a3 : Int) (w : World) (w0 : (a0 = none ∧ len0 = 0 ∧ cap0 = 0 ∧ z0 = []) ∨ ∃ x, a0 = some x ∧ len0 ≤ cap0 ∧ cap0 ≤ maxLen ∧ z0.length = cap0 ∧ (∀ i, i < z0.length → w.cell? (x.add i) = some (.int .u8 (z0.getD i 0))) ∧ ∀ n ∈ z0, (Lit.int .u8 n).wf = true) (y0 : len0 * 1 ≤ 140737488351232) (w1 : (Lit.int .u16 a1).wf = true) (w2 : (Lit.int .u16 a2).wf = true) (w3 : (Lit.int .u16 a3).wf = true) :
  Calls Try.prog 5 #[.slice a0 len0 cap0,.int .u16 a1,.int .u16 a2,.int .u16 a3] w fun e w'=>e=.returned (.bool true)∧Below w.heap.size w w':=by
 obtain ⟨l0,rfl,hr0,hm0,hw0,hc0⟩:=ReadsInt.ofRowC w0
 obtain ⟨k,h⟩:=P l0 a1 a2 a3 hm0 y0 hw0 w1 w2 w3
 refine (souterrainlaw07_SpanParted.calls k _ _ l0 a1 a2 a3 true w (Kd.C_of_reads (d:=(0:Int)) (h1:=fun _=>rfl) hr0) hc0 h).mono ?_
 rintro e w' ⟨rfl,hd⟩
 exact ⟨rfl,hd⟩

end Go.Proofs.Ytbadkblofihjhaa.PSpanParted
