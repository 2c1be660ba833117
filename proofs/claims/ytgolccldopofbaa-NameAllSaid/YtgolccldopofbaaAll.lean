/-
  Layer 5: NameAll's function.
-/
import Derived.Test.YtgolccldopofbaaBits
import Derived.RegionTactic
import Derived.Deep.RegionWith
import Derived.Deep.RegionLaw
import Derived.Deep.QuietTactic
namespace Go.Proofs.Ytgolccldopofbaa
set_option linter.unusedVariables false
set_option linter.unusedSimpArgs false
open Go.RowKit Go.Proofs.YtgolccldopofbaaW.PrintWords

theorem hHead (w : World) : Calls Try.prog 8 #[] w fun e w' => e = .returned (.bool true) ∧ Below w.heap.size w w' :=
  PNameTells.souterrainlaw05_head.calls 8 true w Pure.NameTells_.head_ok
theorem hOf (a n : Int) (w : World) : Calls Try.prog 11 #[.int .i64 a, .int .i64 n] w fun e w' => e = .returned (.string (nm a n)) ∧ Below w.heap.size w w' :=
  PNameTells.name_Of.calls 1 a n _ w (Pure.NameTells_.name_of 0 a n)
def ss (l : List ByteArray) : List Value := l.map Value.string
theorem info9 : (Try.prog.info? 9).map (fun i => (i.zero, i.size, i.bytes)) = some (some (.string ByteArray.empty), 1, 16) := by kernel_rfl

/-- What holds of a world between two statements. -/
structure Inv (w : World) (H : Nat) (v : Value) (N : List ByteArray) (seen : List Int) (W : World) : Prop where
  own : W.ownsRow (H + 1) 9 1 v N.length (ss N)
  bel : Below w.heap.size w W
  bits : Bits W H seen
  size : H + 1 ≤ W.heap.size
  low : w.heap.size ≤ H
theorem Inv.below {w W W' : World} {H : Nat} {v : Value} {N : List ByteArray} {seen : List Int} (h : Inv w H v N seen W) (hb : Below W.heap.size W W') : Inv w H v N seen W' :=
  ⟨pw_own_below h.own hb, below_then h.bel h.bel.size hb, h.bits.below hb h.size, Nat.le_trans h.size hb.size, h.low⟩
theorem Inv.drew {w W : World} {H : Nat} {v : Value} {N : List ByteArray} {seen : List Int} (h : Inv w H v N seen W) : Inv w H v N seen W.drew := h.below (below_drew (Below.refl _ _))
theorem Inv.set {w W : World} {H : Nat} {v : Value} {N : List ByteArray} {seen : List Int} (h : Inv w H v N seen W) (x : Int) (h0 : 0 ≤ x) (h1 : x < 65536) : Inv w H v N (seen ++ [x]) (W.setCell ⟨H, x.toNat, none⟩ (.bool true)) :=
  ⟨ownsRow_setCell_below h.own (Nat.lt_succ_self H) _, h.bel.setCell h.low _, h.bits.set x h0 h1, by rw [World.size_setCell]; exact h.size, h.low⟩
theorem Inv.news {w W w1 : World} {H : Nat} {v v1 : Value} {N N' : List ByteArray} {seen : List Int} {news : List Value} (h : Inv w H v N seen W) (hown : w1.ownsRow (H + 1) 9 1 v1 (ss N ++ news).length (ss N ++ news)) (e : ss N ++ news = ss N') (hb : Below (H + 1) W w1) : Inv w H v1 N' seen w1 := by
  refine ⟨?_, ⟨hb.os.trans h.bel.os, hb.tape.trans h.bel.tape, hb.output.trans h.bel.output, Nat.le_trans h.bel.size hb.size, fun i hi => (hb.block i (by have := h.low; omega)).trans (h.bel.block i hi)⟩, h.bits.below hb (Nat.lt_succ_self H), Nat.le_trans h.size hb.size, h.low⟩
  rw [e] at hown
  rwa [show (ss N').length = N'.length by simp [ss]] at hown
/-- append of a literal of strings, at a step of a region that draws. -/
theorem step_news {ops : Array Oper} {o : Oper} {a : Act} {W : World} {K : Act → World → Prop} {Q : Exit → Act → World → Prop} {E : Prop} (B : Nat) (s x : Operand) (hgd : o.guard = none)
    (ho : o.op = .call { callee := .builtin .append, args := #[s, x], argTypes := #[22, 22] }) (cs news : List Value) {v : Value} {g m : Nat} (hs : a.eval s = v) (hx : a.eval x = .slice (some ⟨g, 0, none⟩) m m)
    (HO : W.ownsRow B 9 1 v cs.length cs) (hblk : W.heap[g]? = some (.cells news.toArray 9 (0, 0))) (hm : news.length = m) (h1 : ∀ u ∈ news, u.oneCell' = true) (hB : B ≤ W.heap.size) (hl : (cs.length + m) * 16 ≤ 140737488355328)
    (h : ∀ v1 w1, w1.ownsRow B 9 1 v1 (cs ++ news).length (cs ++ news) → Below B W w1 → K (a.put o.dst v1) w1) :
    if Region.wanted o (yielded ops a.tmps) = true then Oper.wp Try.prog o a W K Q else E := by
  have hw : Region.wanted o (yielded ops a.tmps) = true := by simp [Region.wanted, hgd]
  rw [if_pos hw]
  obtain ⟨i0, hi, hz0, hz1, hz2⟩ := info_parts info9
  obtain ⟨v1, w1, hr, h2, h3, _, h5⟩ := run_append_own_at (P := Try.prog) W B 22 o.type 9 i0 (.string ByteArray.empty) 1 16 Try.underlying22 hi hz0 hz1 hz2 rfl (by omega) v cs.length cs HO ⟨g, 0, none⟩ m m news (by omega)
    (World.news_of_block (cs := news.toArray) (t := 9) (fr := (0, 0)) hblk) h1 (by simp only [maxLen]; omega) hl hB
  unfold Oper.wp execOp
  simp only [ho, resolve, invoke, builtin, Sem.run_bind, Sem.run_pure, Result.andThen_ok, List.map_toArray, List.map_cons, List.map_nil, hs, hx, hr]
  exact h v1 w1 (by rwa [List.length_append, hm]) ((Below.refl B W).grown h3 hB (fun k hk => (HO.lt k hk).1))
theorem at_k {W : World} {ad : Addr} {n k : Nat} {l : List Int} (h : ReadsInt W .u16 (some ad) n l) (hk : k < n) : W.cell? (ad.add k) = some (.int .u16 (rd l k)) := by
  obtain ⟨ad', e, hc⟩ := h.at_ (k : Int) (by omega) (by omega)
  injection e with e
  subst e
  rwa [Int.toNat_natCast] at hc
theorem rd_lt {l : List Int} (h : l.Pairwise (· < ·)) {k : Nat} (hk : k + 1 < l.length) : rd l (k : Int) < rd l ((k + 1 : Nat) : Int) := by
  have e1 : rd l (k : Int) = l[k] := by simp [rd, List.getD_eq_getElem?_getD, List.getElem?_eq_getElem (show k < l.length by omega)]
  have e2 : rd l ((k + 1 : Nat) : Int) = l[k + 1] := by
    have : ((k + 1 : Nat) : Int).toNat = k + 1 := Int.toNat_natCast _
    simp [rd, this, List.getD_eq_getElem?_getD, List.getElem?_eq_getElem hk]
  rw [e1, e2]
  exact List.pairwise_iff_getElem.1 h k (k + 1) (by omega) hk (by omega)
theorem rd_mem {l : List Int} {k : Nat} (h : k < l.length) : rd l k ∈ l := by
  have : rd l (k : Int) = l[k] := by simp [rd, List.getD_eq_getElem?_getD, List.getElem?_eq_getElem h]
  rw [this]; exact List.getElem_mem h
theorem take_rd {l : List Int} {k : Nat} (h : k < l.length) : l.take (k + 1) = l.take k ++ [rd l k] := by
  have : rd l (k : Int) = l[k] := by simp [rd, List.getD_eq_getElem?_getD, List.getElem?_eq_getElem h]
  rw [this, List.take_add_one, List.getElem?_eq_getElem h]; rfl

set_option maxRecDepth 100000 in
set_option maxHeartbeats 1000000 in
theorem all_calls (A0 : Option Addr) (n0 c0 : Nat) (l : List Int) (A1 : Option Addr) (n1 c1 : Nat) (m : List ByteArray) (w : World) (hr0 : ReadsInt w .u16 A0 n0 l) (hb : ∀ x ∈ l, 0 ≤ x ∧ x < 65536) (hr1 : Kd.string.C w A1 n1 m) :
    Calls Try.prog 6 #[.slice A0 n0 c0, .slice A1 n1 c1] w fun e w' => e = .returned (.bool true) ∧ Below w.heap.size w w' := by
  have HR0 := Aside0.mk hr0
  have HR1 := Aside0.mk hr1
  have HBD := Aside0.mk hb
  have HL0 := Aside0.mk hr0.1
  have HL1 := Aside0.mk hr1.1
  have hm0 : n0 ≤ 9223372036854775807 := hr0.2.1
  have hm1 := hr1.2.1
  have HB0 := Aside0.mk (Below.refl w.heap.size w)
  clear hr0 hr1 hb
  go_enter Try.func6, Try.ntmps6
  by_cases g0 : n0 > 200
  · go_wp2_with (go_at_call 8; refine (hHead _).mono ?_; rintro e w1 ⟨rfl, hb1⟩; have HB1 := Aside0.mk hb1; clear hb1)
    go_ret
    exact ⟨rfl, HB1.out⟩
  by_cases g1 : n1 > 200
  · go_wp2_with (go_at_call 8; refine (hHead _).mono ?_; rintro e w1 ⟨rfl, hb1⟩; have HB1 := Aside0.mk hb1; clear hb1)
    go_ret
    exact ⟨rfl, HB1.out⟩
  go_wp2_with (first | (go_at_call 8; refine (hHead _).mono ?_; rintro e w1 ⟨rfl, hb1⟩; have HB1 := Aside0.mk hb1; clear hb1) | (refine wpList_alloc35 rfl rfl ?_; intro w2 hbits hsz hbel; have HBITS := Aside0.mk hbits; have HSZ := Aside0.mk hsz; have HB2 := Aside0.mk (below_then HB1.out HB1.out.size hbel); clear hbits hsz hbel))
  have HI0 := Aside0.mk (show Inv w w1.heap.size (.slice none 0 0) [] [] w2 from ⟨own_nil _ _ _ _, HB2.out, HBITS.out, by rw [HSZ.out]; exact Nat.le_refl _, HB1.out.size⟩)
  clear HBITS HSZ HB2
  generalize w1.heap.size = H at HI0
  clear HB1
  go_loopg [6, 8, 9] n0 (fun g v6 v8 v9 wr => ∃ (k : Nat), Aside0 (g + k = n0) ∧ k ≤ n0 ∧ v9 = .int .i64 k ∧ v8 = .int .i64 (setOf (l.take k)).length ∧ Aside0 (Inv w H v6 (namesF (l.take k)) (l.take k) wr))
  case atStart => exact ⟨0, ⟨rfl⟩, by omega, rfl, rfl, by rw [List.take_zero]; exact HI0⟩
  case round =>
    obtain ⟨k, HK, hk, rfl, rfl, HI⟩ := hrel
    by_cases hlt : k < n0
    · have HC := Aside0.mk (HR0.out.below HI.out.bel)
      obtain ⟨ad, hA, hcell⟩ := HC.out.at_ (k : Int) (by omega) (by omega)
      have HTK := Aside0.mk (take_rd (l := l) (k := k) (by have := HL0.out; omega))
      have hx := HBD.out _ (rd_mem (l := l) (k := k) (by have := HL0.out; omega))
      subst hA
      rw [Int.toNat_natCast] at hcell
      have HCELL := Aside0.mk (show ∀ W, Below w.heap.size w W → W.cell? (ad.add k) = some (.int .u16 (rd l k)) from fun W hB => at_k (HR0.out.below hB) hlt)
      generalize rd l (k : Int) = x at hcell HTK hx HCELL
      obtain ⟨hx0, hx1⟩ := hx
      have hwx : IntKind.i64.wrap x = x := by rw [IntKind.wrap_i64]; omega
      have hfree := HI.out.bits.free x.toNat
      have HSET := Aside0.mk (HI.out.set x hx0 hx1)
      have HLN := Aside0.mk (show ((ss (namesF (l.take k))).length + 2) * 16 ≤ 140737488355328 by
        have := namesF_len (l.take k)
        have := List.length_take_le k l
        simp [ss]; omega)
      have HNM := Aside0.mk (show ss (namesF (l.take k)) ++ [.string (nm 1 x), .string (nm 2 x)] = ss (namesF (l.take k ++ [x])) by rw [namesF_snoc]; simp [ss])
      by_cases hseen : x ∈ l.take k
      · have hbit : wr.cell? ⟨H, x.toNat, none⟩ = some (.bool true) := by rw [HI.out.bits.cell x hx0 hx1]; simp [hseen]
        have HW8 := Aside0.mk (show wrap64 (((setOf (l.take k)).length : Int) + 1) = ((setOf (l.take k)).length : Int) + 1 from IntWalk.wrap64_in _ (by have := setOf_len (l.take k); have := List.length_take_le k l; constructor <;> omega))
        go_upto_region 13 with fail
        generalize wr.setCell ⟨H, x.toNat, none⟩ (.bool true) = W3 at HSET ⊢
        have hc3 := HCELL.out W3 HSET.out.bel
        have HI3 := Aside0.mk HSET.out.drew
        go_region_law (first
          | (refine step_news (H + 1) (.tmp 43) (.tmp 56) rfl rfl (ss (namesF (l.take k))) [.string (nm 1 x), .string (nm 2 x)] (m := 2) rfl rfl (by rw [show (ss (namesF (l.take k))).length = (namesF (l.take k)).length by simp [ss]]; exact (HI3.out.below (below_alloc (Below.refl _ _) _)).own) (heap_alloc_new _ _) rfl (by simp [Value.oneCell']) (HI3.out.below (below_alloc (Below.refl _ _) _)).size HLN.out ?_
             intro v6 W6 HO6 HB6
             replace HO6 := Aside0.mk ((HI3.out.below (below_alloc (Below.refl _ _) _)).news HO6 HNM.out HB6)
             clear HB6)
          | (go_simp
             go_at_call 11
             refine (hOf _ _ _).mono ?_
             rintro e w4 ⟨rfl, hb4⟩
             replace HI3 := Aside0.mk (HI3.out.below hb4)
             have hc4 := HCELL.out w4 HI3.out.bel
             clear hb4))
        all_goals go_wp2
        all_goals (
          go_roundg (n0 - (k + 1))
          case measure => have := HK.out; omega
          case rel => exact ⟨k + 1, ⟨by omega⟩, by omega, by go_num, by rw [HTK.out, setOf_snoc, if_pos hseen], ⟨by rw [HTK.out]; exact HO6.out⟩⟩)
      · have hbit : wr.cell? ⟨H, x.toNat, none⟩ = some (.bool false) := by rw [HI.out.bits.cell x hx0 hx1]; simp [hseen]
        have HW8 := Aside0.mk (show wrap64 (((setOf (l.take k)).length : Int) + 1) = ((setOf (l.take k)).length : Int) + 1 from IntWalk.wrap64_in _ (by have := setOf_len (l.take k); have := List.length_take_le k l; constructor <;> omega))
        go_upto_region 13 with fail
        generalize wr.setCell ⟨H, x.toNat, none⟩ (.bool true) = W3 at HSET ⊢
        have hc3 := HCELL.out W3 HSET.out.bel
        have HI3 := Aside0.mk HSET.out.drew
        go_region_law (first
          | (refine step_news (H + 1) (.tmp 43) (.tmp 56) rfl rfl (ss (namesF (l.take k))) [.string (nm 1 x), .string (nm 2 x)] (m := 2) rfl rfl (by rw [show (ss (namesF (l.take k))).length = (namesF (l.take k)).length by simp [ss]]; exact (HI3.out.below (below_alloc (Below.refl _ _) _)).own) (heap_alloc_new _ _) rfl (by simp [Value.oneCell']) (HI3.out.below (below_alloc (Below.refl _ _) _)).size HLN.out ?_
             intro v6 W6 HO6 HB6
             replace HO6 := Aside0.mk ((HI3.out.below (below_alloc (Below.refl _ _) _)).news HO6 HNM.out HB6)
             clear HB6)
          | (go_simp
             go_at_call 11
             refine (hOf _ _ _).mono ?_
             rintro e w4 ⟨rfl, hb4⟩
             replace HI3 := Aside0.mk (HI3.out.below hb4)
             have hc4 := HCELL.out w4 HI3.out.bel
             clear hb4))
        all_goals go_wp2
        all_goals (
          go_roundg (n0 - (k + 1))
          case measure => have := HK.out; omega
          case rel => exact ⟨k + 1, ⟨by omega⟩, by omega, by go_num, by rw [HTK.out, setOf_snoc, if_neg hseen, HW8.out]; rfl, ⟨by rw [HTK.out]; exact HO6.out⟩⟩)
    · have e : k = n0 := by omega
      subst e
      have HALL := Aside0.mk (show l.take k = l from List.take_of_length_le (by have := HL0.out; omega))
      rw [HALL.out] at HI
      go_wp2
      go_loopg [6, 10] n1 (fun g v6 v10 wq => ∃ (j : Nat), Aside0 (g + j = n1) ∧ j ≤ n1 ∧ v10 = .int .i64 j ∧ Aside0 (Inv w H v6 (namesF l ++ moreF (m.take j)) l wq))
      case atStart => exact ⟨0, ⟨rfl⟩, by omega, rfl, ⟨by simpa [moreF] using HI.out⟩⟩
      case round =>
        obtain ⟨j, HK2, hj, rfl, HI2⟩ := hrel
        by_cases hlt2 : j < n1
        · obtain ⟨ad1, hA1, hcell⟩ := Kd.at_string (Kd.C_below HR1.out HI2.out.bel) (j : Int) (by omega) (by omega)
          subst hA1
          rw [Int.toNat_natCast] at hcell
          have HTK := Aside0.mk (take_succ_rd m j (by have := HL1.out; omega))
          generalize rdOf ByteArray.empty m j = s at hcell HTK
          by_cases h9 : s.size = 9
          · have h9' : ((s.size : Int) != 9) = false := by simp [h9]
            have HMN := Aside0.mk (show moreF (m.take j ++ [s]) = moreF (m.take j) by simp [moreF, List.filter_append, h9])
            go_wp2
            go_roundg (n1 - (j + 1))
            case measure => have := HK2.out; omega
            case rel => exact ⟨j + 1, ⟨by omega⟩, by omega, by go_num, ⟨by rw [HTK.out, HMN.out]; exact HI2.out⟩⟩
          · have h9' : ((s.size : Int) != 9) = true := by simp; omega
            have HMN := Aside0.mk (show moreF (m.take j ++ [s]) = moreF (m.take j) ++ [s] by simp [moreF, List.filter_append, h9])
            have HOW := HI2.out.own
            have HLE := Aside0.mk (show (ss (namesF l ++ moreF (m.take j))).length = (namesF l ++ moreF (m.take j)).length by simp [ss])
            have HOW2 := Aside0.mk (show wr.ownsRow (H + 1) 9 1 u6 (ss (namesF l ++ moreF (m.take j))).length (ss (namesF l ++ moreF (m.take j))) by rw [HLE.out]; exact HI2.out.own)
            clear HOW
            have HLN := Aside0.mk (show ((ss (namesF l ++ moreF (m.take j))).length + 1) * 16 ≤ 140737488355328 by
              have h1 := namesF_len l
              have h2 := moreF_len (m.take j)
              have h3 := List.length_take_le j m
              have h4 := HL0.out
              rw [HLE.out, List.length_append]; omega)
            have HNM := Aside0.mk (show ss (namesF l ++ moreF (m.take j)) ++ [.string s] = ss (namesF l ++ moreF (m.take (j + 1))) by rw [HTK.out, HMN.out]; simp [ss])
            go_wp2_with (at_builtin; refine print_append (w0 := wr) (H + 1) rfl (.tmp 70) (.tmp 75) 22 9 (.string ByteArray.empty) 16 rfl Try.underlying22 info9 rfl (by omega) u6 (ss (namesF l ++ moreF (m.take j))) (.string s) rfl rfl rfl HOW2.out (Below.refl _ _) HI2.out.size HLN.out ?_; intro v1 w5 hown hb5 _ _; have HO5 := Aside0.mk (HI2.out.news hown HNM.out hb5); clear hown hb5)
            go_roundg (n1 - (j + 1))
            case measure => have := HK2.out; omega
            case rel => exact ⟨j + 1, ⟨by omega⟩, by omega, by go_num, ⟨HO5.out⟩⟩
        · have e2 : j = n1 := by omega
          subst e2
          have HALL2 := Aside0.mk (show m.take j = m from List.take_of_length_le (by have := HL1.out; omega))
          rw [HALL2.out] at HI2
          have HN5 := Aside0.mk (show (namesF l ++ moreF m).length < 17592186044416 by
            have h1 := namesF_len l
            have h2 := moreF_len m
            have h3 := HL0.out
            have h4 := HL1.out
            rw [List.length_append]; omega)
          have HSEG := Aside0.mk (segs_all l m HBD.out)
          generalize namesF l ++ moreF m = N at HI2 HN5 HSEG
          obtain ⟨A5, c5, rfl, hreads⟩ := own_reads_of (enc := Value.string) (d := ByteArray.empty) HI2.out.own
          have hle5 := own_le HI2.out.own
          have HRD := Aside0.mk (Kd.C_of_reads (h1 := fun _ => rfl) hreads)
          clear hreads
          go_wp2_with (go_at_call 14; refine (segments_calls A5 _ c5 N wr HRD.out hle5 HN5.out).mono ?_; rintro e w7 ⟨v7, rfl, hown7, hb7⟩; rw [HSEG.out] at hown7; have HO7 := Aside0.mk hown7; have HI7 := Aside0.mk (HI2.out.below hb7); clear hown7 hb7)
          obtain ⟨A8, c8, rfl, hr8⟩ := own_reads HO7.out
          have HR8 := Aside0.mk hr8
          have hm8 : (setOf l).length ≤ 9223372036854775807 := hr8.2.1
          clear hr8
          obtain ⟨hs1, hs2⟩ := setOf_ok l
          have HS1 := Aside0.mk hs1
          have HS2 := Aside0.mk (show ∀ z ∈ setOf l, z ∈ l from fun z hz => (hs2 z).1 hz)
          clear hs1 hs2
          go_loopg [12] (setOf l).length (fun g v12 wz => ∃ (i : Nat), Aside0 (g + i = (setOf l).length) ∧ i ≤ (setOf l).length ∧ v12 = .int .i64 i ∧ Aside0 (Below w7.heap.size w7 wz))
          case atStart => exact ⟨0, ⟨rfl⟩, by omega, rfl, ⟨Below.refl _ _⟩⟩
          case round =>
            obtain ⟨i, HK3, hi, rfl, HB3⟩ := hrel
            by_cases hlt3 : i < (setOf l).length
            · obtain ⟨ad8, hA8, hc8⟩ := (HR8.out.below HB3.out).at_ (i : Int) (by omega) (by omega)
              subst hA8
              rw [Int.toNat_natCast] at hc8
              have HYM := Aside0.mk (HS2.out _ (rd_mem hlt3))
              have HYL := Aside0.mk (show ∀ j : Nat, i = j + 1 → rd (setOf l) (j : Int) < rd (setOf l) (i : Int) from fun j hj => by subst hj; exact rd_lt HS1.out hlt3)
              have HCJ := Aside0.mk (show ∀ j : Nat, i = j + 1 → wr.cell? (ad8.add j) = some (.int .i64 (rd (setOf l) (j : Int))) from fun j hj => by
                obtain ⟨ad', e, hc⟩ := (HR8.out.below HB3.out).at_ (j : Int) (by omega) (by omega)
                injection e with e
                subst e
                rwa [Int.toNat_natCast] at hc)
              generalize rd (setOf l) (i : Int) = y at hc8 HYM HYL
              obtain ⟨hy0, hy1⟩ := HBD.out y HYM.out
              have hbit : wr.cell? ⟨H, y.toNat, none⟩ = some (.bool true) := by
                rw [(HI7.out.bits.below HB3.out (Bits.lt HI7.out.bits)).cell y hy0 hy1]
                simp [HYM.out]
              have hd1 : decide (y < 0) = false := by simp; omega
              have hd2 : decide (y > 65535) = false := by simp; omega
              have hd2' : decide (65535 < y) = false := by simp; omega
              by_cases hi0 : i = 0
              · have hd4 : decide ((i : Int) > 0) = false := by simp; omega
                have hd4' : decide (0 < (i : Int)) = false := by simp; omega
                have hi1 : ¬ (0 < (i : Int)) := by omega
                have hd5 : decide (0 < i) = false := by simp; omega
                have hi2 : ¬ (0 < i) := by omega
                clear hi0
                go_upto_region 23 with fail
                go_quiet (fail)
                go_wp2
                go_roundg ((setOf l).length - (i + 1))
                case measure => have := HK3.out; omega
                case rel => exact ⟨i + 1, ⟨by omega⟩, by omega, by go_num, ⟨pw_below_drewN HB3.out _⟩⟩
              · obtain ⟨j, hj⟩ : ∃ j, i = j + 1 := ⟨i - 1, by omega⟩
                have hcj := HCJ.out j hj
                have hlj := HYL.out j hj
                generalize rd (setOf l) (j : Int) = y2 at hcj hlj
                have hd3 : decide (y ≤ y2) = false := by simp; omega
                have hj1 : wrap64 ((i : Int) - 1) = (j : Int) := by rw [IntWalk.wrap64_in _ ⟨by omega, by omega⟩]; omega
                have hj2 : IntKind.i64.wrap ((i : Int) - 1) = (j : Int) := by rw [IntKind.wrap_i64]; omega
                have hjl : (j : Int) < ((setOf l).length : Int) := by omega
                have hi1 : 0 < (i : Int) := by omega
                have hd4 : decide ((i : Int) > 0) = true := by simp; omega
                have hd4' : decide (0 < (i : Int)) = true := by simp; omega
                have HJ := Aside0.mk hj
                have hd5 : decide (0 < i) = true := by simp; omega
                have hi2 : 0 < i := by omega
                clear hj hi0
                go_upto_region 23 with fail
                go_quiet (fail)
                go_wp2
                go_roundg ((setOf l).length - (i + 1))
                case measure => have := HK3.out; omega
                case rel => exact ⟨i + 1, ⟨by omega⟩, by omega, by go_num, ⟨pw_below_drewN HB3.out _⟩⟩
            · have e3 : i = (setOf l).length := by omega
              subst e3
              go_wp2
              go_ret
              refine ⟨?_, below_then HI7.out.bel HI7.out.bel.size HB3.out⟩
              show Ending.returned (Value.bool (((setOf l).length : Int) == ((setOf (l.take k)).length : Int))) = _
              rw [HALL.out]
              simp
end Go.Proofs.Ytgolccldopofbaa
