/-
  Layer 17: a handle is there no more.
-/
import Derived.Test.YtdfjacpfmjgfiaaPin
namespace Go.Proofs.Ytdfjacpfmjgfiaa
set_option linter.unusedVariables false
set_option linter.unusedSimpArgs false
open Go.Shelf Go.RowKit Go.Proofs.YtdfjacpfmjgfiaaW.PrintWords Go.Proofs.YtdfjacpfmjgfiaaW.PrintMore
attribute [local go_sem] max2_int
theorem rises_nodup {l : List Int} (h : Rises l) : l.Nodup := List.Pairwise.imp (fun h => by omega) h
theorem count_rise {l : List Int} (h : Rises l) (m : Int) : l.count m = if l.contains m then 1 else 0 := by
  rw [List.Nodup.count (rises_nodup h)]; simp
theorem adel_split : ∀ {A B : List Hd} {x : Hd}, (∀ y ∈ A, y.key ≠ x.key) → adel (entS (A ++ x :: B)) x.key = entS (A ++ B)
  | [], B, x, h => by
    show (if x.key = x.key then entS B else _) = _
    rw [if_pos rfl]; rfl
  | a :: A, B, x, h => by
    show (if a.key = x.key then _ else _ :: adel (entS (A ++ x :: B)) x.key) = _
    rw [if_neg (h a (by simp)), adel_split fun y hy => h y (List.mem_cons_of_mem _ hy)]
    rfl
theorem Tab.segsTo {W W' : World} {B t S P : Nat} {most next : Int} {hs hs' : List Hd} {ps : List (Int × Int)} (h : Tab W B t S P most next hs ps) (hg : W.grownBy W' (some S)) (hm : IMap W' S (entS hs')) (hsub : List.Sublist hs' hs) : Tab W' B t S P most next hs' ps := by
  have hne : ∀ (k : Nat) (cs : Array Value) (T : TypeId) (fr : Nat × Nat), W.heap[k]? = some (.cells cs T fr) → k ≠ S := fun k cs T fr ho e => map_not_cells h.segs (show W.heap[S]? = some (.cells cs T fr) by rw [← e]; exact ho)
  refine ⟨(hg.block t (lt_heap h.blk) (fun e => hne t _ _ _ h.blk (Option.some.inj e))).trans h.blk, hm, h.pins.keep (hg.block P h.pins.lt (fun e => h.SP (Option.some.inj e).symm)), fun x hx => ?_, List.Pairwise.sublist hsub h.apart, h.SP⟩
  have hb := h.box x (hsub.subset hx)
  refine ⟨(hg.block _ (lt_heap hb.1) (fun e => hne _ _ _ _ hb.1 (Option.some.inj e))).trans hb.1, own_move hb.2 fun k hk => ?_⟩
  obtain ⟨cs, hcs⟩ := own_typed hb.2 k hk
  exact hg.block k (lt_heap hcs) (fun e => hne _ _ _ _ hcs (Option.some.inj e))
/-- The pins when so many of a handle's segments are loose. -/
structure Loose (ps : List (Int × Int)) (hl : HL) (l : List Int) (k : Nat) : Prop where
  keys : (ps.map (·.1)).Nodup
  cnt : ∀ m, pinOf ps m = (cnt hl m : Int) - ((l.take k).count m : Int)
theorem own_cell {W : World} {B : Nat} {v : Value} {xs : List Int} (ho : W.ownsRow B 3 1 v xs.length (nums .i64 xs)) {i : Nat} (hi : i < xs.length) : ∃ b c, v = .slice (some ⟨b, 0, none⟩) xs.length c ∧ xs.length ≤ c ∧ W.cell? ⟨b, i, none⟩ = some (.int .i64 xs[i]) := by
  rcases ho.2 with ⟨_, h0⟩ | ⟨b, cap, cur, rfl, hBb, hb, hc, hcm, hcs, hcur⟩
  · omega
  · refine ⟨b, cap, rfl, hc, ?_⟩
    rw [Nat.mul_one] at hcur
    rw [cell_of_row W b i cur 3 (0, 0) hb, ← Array.getElem?_toList]
    have h2 : (cur.toList.take xs.length)[i]? = cur.toList[i]? := by rw [List.getElem?_take, if_pos hi]
    rw [← h2, hcur]
    simp [nums, List.getElem?_eq_getElem hi]
set_option maxRecDepth 100000 in
set_option maxHeartbeats 1000000 in
theorem close_calls {W : World} {O : Nat → Prop} {t : Nat} {most next : Int} {hl : HL} (h : TabA W O t most next hl) (hb : ∀ x ∈ hl, x.2.length ≤ 100000) (hb2 : hl.length ≤ 100000) (k : Int) :
    Calls Try.prog 15 #[.pointer (some ⟨t, 0, none⟩), .int .i64 k] W (TPost W O t most next (delL hl k) (.bool (getL hl k).isSome)) := by
  have hh := h
  obtain ⟨S, P, hs, ps, h1, h2, h3, h4, h5⟩ := hh
  have c2 := h1.c2
  have hlk := run_lookok_i Try.underlying48 Try.underlying3 zero55 h1.segs k
  cases hk : getL hl k with
  | none =>
    have hd : hdOf hs k = none := by
      rw [← h2, hdOf_abs] at hk
      cases hd : hdOf hs k with
      | none => rfl
      | some x => rw [hd] at hk; cases hk
    rw [look_S, hd] at hlk
    simp only [Option.map_none, Option.getD_none, Option.isSome_none] at hlk
    have H := Aside0.mk h
    rw [delL_none hk]
    clear h h1 h2 h3 h4 h5 hd hk hb hb2
    go_enter Try.func15, Try.ntmps15
    go_wp2
    go_ret
    exact ⟨rfl, O, H.out, KeepS.refl _ _, fun k hk => .inl hk⟩
  | some l =>
    obtain ⟨x, hd, hxl⟩ : ∃ x, hdOf hs k = some x ∧ x.l = l := by
      rw [← h2, hdOf_abs] at hk
      exact Option.map_eq_some_iff.1 hk
    subst hxl
    rw [look_S, hd] at hlk
    simp only [Option.map_some, Option.getD_some, Option.isSome_some] at hlk
    have hx := (hdOf_mem hd).1
    have e0 := h1.boxCell hx
    have hxm : (x.key, x.l) ∈ hl := by rw [← h2]; exact List.mem_map_of_mem hx
    have hlen : x.l.length ≤ 100000 := hb _ hxm
    have hkd : Keyed' (absH hs) := by rw [h2]; exact h4.keyed
    obtain ⟨A, B, hAB, hxk, hA1, hB1⟩ := split_hd hkd hd
    obtain ⟨Ad, cc, ev, hcc⟩ := own_slice (h1.box x hx).2
    have H1 := Aside0.mk h1
    have H2 := Aside0.mk h2
    have H3 := Aside0.mk h3
    have H4 := Aside0.mk h4
    have H5 := Aside0.mk h5
    have HK := Aside0.mk hk
    have HX := Aside0.mk hx
    have HAB := Aside0.mk (And.intro hAB (And.intro hxk (And.intro hA1 hB1)))
    have HR := Aside0.mk (h4.rise _ hxm)
    clear h h1 h2 h3 h4 h5 hk hx hxm hb hkd hAB hxk hA1 hB1 hd
    obtain ⟨xk, xb, xv, xl⟩ := x
    simp only at hlk e0 hlen HR ev ⊢
    subst ev
    go_enter Try.func15, Try.ntmps15
    go_wp2
    go_loopg [24] xl.length (fun f v24 wr => ∃ i : Nat, Aside0 (f + i = xl.length) ∧ i ≤ xl.length ∧ v24 = .int .i64 i ∧ Aside0 (∃ ps', Tab wr 0 t S P most next hs ps' ∧ Loose ps' hl xl i ∧ W.grownBy wr (some P)))
    case atStart =>
      exact ⟨0, ⟨by omega⟩, by omega, rfl, ⟨ps, H1.out, ⟨H3.out.keys, fun m => by rw [H3.out.cnt]; simp⟩, World.grownBy.refl _ _⟩⟩
    case round =>
      obtain ⟨i, HF, hi, rfl, HS⟩ := hrel
      obtain ⟨ps', hT, hL, hG⟩ := HS.out
      by_cases hlt : i < xl.length
      · obtain ⟨b, c, ev2, _, hcell⟩ := own_cell (hT.box _ HX.out).2 hlt
        injection ev2 with ev2 _ ev3
        subst ev2
        subst ev3
        have hbd : -1000000 ≤ pinOf ps' xl[i] ∧ pinOf ps' xl[i] ≤ 1000000 := by
          rw [hL.cnt]
          have h1 := cnt_le hl xl[i]
          have h2 := List.count_le_length (a := xl[i]) (l := xl.take i)
          have h3 := List.length_take_le i xl
          omega
        have HC := Aside0.mk (loose_calls hT hL.keys xl[i] hbd.1 hbd.2)
        have HL := Aside0.mk hL
        have HG := Aside0.mk hG
        have hts := List.take_succ_eq_append_getElem hlt
        obtain ⟨n, hn⟩ : ∃ n, xl[i] = n := ⟨_, rfl⟩
        rw [hn] at hcell HC hts
        have HT := Aside0.mk hts
        clear HS hT hL hG hbd hn hts
        go_wp2_with (go_at_call 34; refine HC.out.mono ?_; clear HC; rintro e w1 ⟨rfl, ps2, hT2, hk2, hp2, hg2⟩; have HT2 := Aside0.mk hT2; have HK2 := Aside0.mk hk2; have HP2 := Aside0.mk hp2; have HG2 := Aside0.mk hg2; clear hT2 hk2 hp2 hg2)
        go_roundg (xl.length - (i + 1))
        case measure => have := HF.out; omega
        case rel =>
          refine ⟨i + 1, ⟨by omega⟩, by omega, by go_num, ⟨ps2, HT2.out, ⟨HK2.out, fun m => ?_⟩, grown_trans HG.out HG2.out⟩⟩
          rw [HP2.out, HT.out, List.count_append, HL.out.cnt, HL.out.cnt]
          by_cases hm : m = n
          · rw [if_pos hm, hm, List.count_singleton_self]; omega
          · rw [if_neg hm, List.count_singleton, if_neg (by simpa using fun e : n = m => hm e.symm)]; omega
      · obtain rfl : i = xl.length := by omega
        have c2' := hT.c2
        obtain ⟨W2, hdel, hm2, hg2⟩ := run_del_i (P := Try.prog) (T := 48) (K := 3) (E := 55) Try.underlying48 Try.underlying3 0 hT.segs k
        obtain ⟨hAB, hxk, hA1, hB1⟩ := HAB.out
        have ha : adel (entS hs) k = entS (A ++ B) := by
          rw [hAB, ← hxk]
          exact adel_split fun y hy => by rw [hxk]; exact hA1 y hy
        rw [ha] at hm2
        have hT2 := hT.segsTo hg2 hm2 (by rw [hAB]; exact List.Sublist.append_left (List.sublist_cons_self _ _) _)
        have habs : absH (A ++ B) = delL hl k := by
          rw [← H2.out, hAB, absH_app, absH_app, ← hxk]
          exact (delL_split (absH_ne fun y hy => by rw [hxk]; exact hA1 y hy) (absH_ne fun y hy => by rw [hxk]; exact hB1 y hy)).symm
        have hpin : PinsOk ps' (delL hl k) := ⟨hL.keys, fun m => by
          have h1 := cnt_del H4.out.keyed HK.out m
          rw [hL.cnt, List.take_length, count_rise HR.out, h1]
          show _ = ((cnt (delL hl k) m : Nat) : Int)
          show ((cnt (delL hl k) m + (if xl.contains m = true then 1 else 0) : Nat) : Int) - _ = _
          split <;> omega⟩
        have HF := Aside0.mk (show TPost W O t most next (delL hl k) (.bool true) (.returned (.bool true)) W2 from
          ⟨rfl, O, ⟨S, P, A ++ B, ps', hT2, habs, hpin, H4.out.del k, fun q hq => H5.out q (by
            rcases hq with rfl | rfl | rfl | ⟨y, hy, hq⟩
            · exact .inl rfl
            · exact .inr (.inl rfl)
            · exact .inr (.inr (.inl rfl))
            · refine .inr (.inr (.inr ⟨y, ?_, hq⟩))
              rw [hAB]
              rcases List.mem_append.1 hy with hy | hy
              · simp [hy]
              · simp [hy])⟩, KeepS.trans (KeepS.of_grown (S := O) hG fun q e => H5.out q (.inr (.inr (.inl (by injection e with e; exact e.symm))))) (KeepS.of_grown (S := O) hg2 fun q e => H5.out q (.inr (.inl (by injection e with e; exact e.symm)))), fun q hq => .inl hq⟩)
        clear HS hT hL hG hm2 hg2 hT2 habs hpin ha hAB hxk hA1 hB1
        go_wp2
        go_ret
        exact HF.out
end Go.Proofs.Ytdfjacpfmjgfiaa
