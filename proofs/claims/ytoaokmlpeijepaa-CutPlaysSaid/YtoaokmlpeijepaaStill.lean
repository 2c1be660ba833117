/-
  Layer 6: CutStill's function.
-/
import Derived.Test.YtoaokmlpeijepaaRowsAt
namespace Go.Proofs.Ytoaokmlpeijepaa
set_option linter.unusedVariables false
set_option linter.unusedSimpArgs false
open Go.RowKit Go.Proofs.YtoaokmlpeijepaaW.PrintWords

theorem str_size (xs : List Int) : (strOfNums xs).size = xs.length := by simp [strOfNums, ByteArray.size]
theorem str_append (xs ys : List Int) : strOfNums xs ++ strOfNums ys = strOfNums (xs ++ ys) := by
  apply ByteArray.ext
  simp [strOfNums]

/-- The bytes that were handed in, as they lie. -/
def XRow (W : World) (B : Nat) (v : Value) (n : Nat) : Prop := ∃ xs : List Int, xs.length = n ∧ W.ownsRow B 5 1 v n (nums .u8 xs)
/-- What is left of p, i pieces being told. -/
structure Told (W : World) (n1 : Nat) (v : Value) (each : Nat) (xs : List (Nat × Nat)) (L : List Int) (i : Nat) : Prop where
  rows : ∃ chs, RowsAt W n1 v each xs chs ∧ ∀ j, i ≤ j → j < xs.length → chs[j]? = some (chunk L each j)
  rise : (xs.map Prod.fst).Pairwise (· < ·)
theorem Told.cell {W : World} {n1 each i : Nat} {v : Value} {xs : List (Nat × Nat)} {L : List Int} (h : Told W n1 v each xs L i) {k : Nat} (hk : k < xs.length) :
    ∃ ad c x, v = .slice (some ad) xs.length c ∧ xs[k]? = some x ∧ W.cell? (ad.add k) = some (hdr each x) := by
  obtain ⟨chs, hr, _⟩ := h.rows
  have hx : xs[k]? = some xs[k] := List.getElem?_eq_getElem hk
  obtain ⟨A, c, rfl, hc⟩ := hr.row.slice
  obtain ⟨g, rfl, _, _, hcell⟩ := hr.row.cells k (hdr each xs[k]) (by rw [List.getElem?_map, hx]; rfl)
  exact ⟨⟨g, 0, none⟩, c, xs[k], rfl, hx, by rw [add_plain]; exact hcell⟩
theorem Told.piece {W : World} {n1 each i : Nat} {v : Value} {xs : List (Nat × Nat)} {L : List Int} (h : Told W n1 v each xs L i) {k : Nat} {x : Nat × Nat} (hx : xs[k]? = some x) : ∃ ch, Piece W n1 x ch ∧ ch.length = each ∧ (i ≤ k → ch = chunk L each k) := by
  obtain ⟨chs, hr, hc⟩ := h.rows
  have hk : k < xs.length := by
    rcases Nat.lt_or_ge k xs.length with h | h
    · exact h
    · rw [List.getElem?_eq_none h] at hx; cases hx
  have hcx : chs[k]? = some (chs[k]'(by rw [← hr.len]; exact hk)) := List.getElem?_eq_getElem _
  obtain ⟨h1, h2⟩ := hr.piece k x _ hx hcx
  refine ⟨_, h1, h2, fun hi => ?_⟩
  have := hc k hi hk
  rw [hcx] at this
  exact Option.some.inj this

theorem pair_ne {xs : List (Nat × Nat)} (h : (xs.map Prod.fst).Pairwise (· < ·)) {i j : Nat} {x y : Nat × Nat} (hi : xs[i]? = some x) (hj : xs[j]? = some y) (hne : i ≠ j) : x.1 ≠ y.1 := by
  have key : ∀ {i j : Nat} {x y : Nat × Nat}, xs[i]? = some x → xs[j]? = some y → i < j → x.1 < y.1 := by
    intro i j x y hi hj hlt
    obtain ⟨h1, e1⟩ := List.getElem?_eq_some_iff.1 hi
    obtain ⟨h2, e2⟩ := List.getElem?_eq_some_iff.1 hj
    have := List.pairwise_iff_getElem.1 h i j (by simpa using h1) (by simpa using h2) hlt
    simpa [e1, e2] using this
  rcases Nat.lt_or_ge i j with h | h
  · have := key hi hj h; omega
  · have := key hj hi (by omega); omega
theorem set_other (W : World) (b k : Nat) (u : Value) {c : Nat} {o : Obj} (hc : W.heap[c]? = some o) (hne : c ≠ b) : (W.setCell ⟨b, k, none⟩ u).heap[c]? = some o := (Below.heap_setCell W ⟨b, k, none⟩ u c hne).trans hc
theorem Told.store {W : World} {n1 each i : Nat} {v : Value} {xs : List (Nat × Nat)} {L : List Int} (h : Told W n1 v each xs L i) {j : Nat} {x : Nat × Nat} (hx : xs[j]? = some x) (hji : j < i) (k : Nat) (z : Int) :
    Told (W.setCell ⟨x.1, k, none⟩ (.int .u8 z)) n1 v each xs L i := by
  obtain ⟨ch, hp, hl, _⟩ := h.piece hx
  obtain ⟨_, cs0, hcs0⟩ := hp.blk
  refine ⟨?_, h.rise⟩
  obtain ⟨chs, hr, hc⟩ := h.rows
  have hjx : j < xs.length := by
    rcases Nat.lt_or_ge j xs.length with h | h
    · exact h
    · rw [List.getElem?_eq_none h] at hx; cases hx
  obtain ⟨ch1, hch1⟩ : ∃ ch1, chs[j]? = some ch1 := ⟨chs[j]'(by rw [← hr.len]; exact hjx), List.getElem?_eq_getElem _⟩
  obtain ⟨hp1, hl1⟩ := hr.piece j x ch1 hx hch1
  refine ⟨chs.set j (ch1.set k z), ⟨hr.row.keep fun g cs hg hcs => set_other W _ k _ hcs (fun e => by
    subst e
    rw [hcs0] at hcs
    injection hcs with hcs
    injection hcs with _ hcs
    cases hcs), by rw [hr.len]; simp, fun j' y ch' e1 e2 => ?_⟩, fun j' hj1 hj2 => ?_⟩
  · by_cases hjj : j' = j
    · subst hjj
      rw [hx] at e1
      obtain rfl := Option.some.inj e1
      rw [List.getElem?_set_self (by rw [← hr.len]; exact hjx)] at e2
      obtain rfl := Option.some.inj e2
      refine ⟨?_, by simpa using hl1⟩
      have := (World.ownsRow.stored hp1 k (.int .u8 z)).1
      have e3 : (nums .u8 ch1).set k (.int .u8 z) = nums .u8 (ch1.set k z) := by simp [nums, List.map_set]
      unfold Piece
      rw [List.length_set, ← e3]
      exact this
    · rw [List.getElem?_set_ne (fun e => hjj e.symm)] at e2
      obtain ⟨h1, h2⟩ := hr.piece j' y ch' e1 e2
      exact ⟨h1.step fun cs hcs => set_other W _ k _ hcs (pair_ne h.rise e1 hx hjj), h2⟩
  · rw [List.getElem?_set_ne (by omega)]
    exact hc j' hj1 hj2
theorem CutAt.store {W : World} {g : Nat} {each all : Int} {A : Option Addr} {c : Nat} {M : List Int} (h : CutAt W g each all A c M) {b : Nat} {cs : Array Value} (hb : W.heap[b]? = some (.cells cs 5 (0, 0))) (hA : ∀ ad, A = some ad → ad.block ≠ b) (k : Nat) (u : Value) : CutAt (W.setCell ⟨b, k, none⟩ u) g each all A c M := by
  refine ⟨set_other W b k u h.blk (fun e => ?_), h.le, ?_⟩
  · subst e
    have := h.blk
    rw [hb] at this
    injection this with this
    injection this with _ this
    cases this
  · rcases h.left with h | ⟨b', off, cs', rfl, hb', hc⟩
    · exact .inl h
    · exact .inr ⟨b', off, cs', rfl, set_other W b k u hb' (hA _ rfl), hc⟩
theorem XRow.store {W : World} {B n : Nat} {A : Option Addr} {c : Nat} (h : XRow W B (.slice A n c) n) {b : Nat} (hA : ∀ ad, A = some ad → ad.block ≠ b) (k : Nat) (u : Value) : XRow (W.setCell ⟨b, k, none⟩ u) B (.slice A n c) n := by
  obtain ⟨ys, h1, ho⟩ := h
  refine ⟨ys, h1, ?_⟩
  rcases ho.2 with h0 | ⟨g, cap, cur, e1, h2, h3, h4⟩
  · exact ⟨ho.1, .inl h0⟩
  · refine ⟨ho.1, .inr ⟨g, cap, cur, e1, h2, set_other W b k u h3 ?_, h4⟩⟩
    injection e1 with e1
    exact hA ⟨g, 0, none⟩ e1
theorem Piece.at_ {W : World} {n0 k : Nat} {x : Nat × Nat} {ch : List Int} (h : Piece W n0 x ch) (hk : k < ch.length) : (∃ u, W.cell? ⟨x.1, k, none⟩ = some u) ∧ W.frozen? ⟨x.1, k, none⟩ = false := by
  refine ⟨⟨.int .u8 ch[k], ?_⟩, h.frozenAt k⟩
  rw [World.ownsRow.cellAt h k (by omega)]
  simp [nums, List.getElem?_eq_getElem hk]

theorem XRow.at_ {W : World} {B n k : Nat} {A : Option Addr} {c : Nat} (h : XRow W B (.slice A n c) n) (hk : k < n) : ∃ gx q, A = some ⟨gx, 0, none⟩ ∧ W.cell? ⟨gx, k, none⟩ = some (.int .u8 q) ∧ W.frozen? ⟨gx, k, none⟩ = false ∧ (∃ cs, W.heap[gx]? = some (Obj.cells cs 5 (0, 0))) ∧ B ≤ gx := by
  obtain ⟨ys, h1, ho⟩ := h
  have hv := ho
  rcases ho.2 with ⟨_, h0⟩ | ⟨g, cap, cur, e1, h2, h3, h4⟩
  · omega
  · injection e1 with e1 e2 e3
    subst e1
    refine ⟨g, ys[k]'(by omega), rfl, ?_, hv.frozenAt k, ⟨cur, h3⟩, h2⟩
    rw [World.ownsRow.cellAt hv k (by omega)]
    simp [nums, List.getElem?_eq_getElem (show k < ys.length by omega)]
theorem XRow.put {W : World} {B n : Nat} {gx c : Nat} (h : XRow W B (.slice (some ⟨gx, 0, none⟩) n c) n) (k : Nat) (z : Int) : XRow (W.setCell ⟨gx, k, none⟩ (.int .u8 z)) B (.slice (some ⟨gx, 0, none⟩) n c) n := by
  obtain ⟨ys, h1, ho⟩ := h
  refine ⟨ys.set k z, by simpa using h1, ?_⟩
  have := (World.ownsRow.stored ho k (.int .u8 z)).1
  have e3 : (nums .u8 ys).set k (.int .u8 z) = nums .u8 (ys.set k z) := by simp [nums, List.map_set]
  rw [← e3]; exact this

set_option maxRecDepth 100000 in
set_option maxHeartbeats 4000000 in
theorem still_calls (A0 : Option Addr) (n0 c0 : Nat) (L : List Int) (A1 : Option Addr) (n1 c1 : Nat) (b : List Int) (w : World) (hr : ReadsInt w .u8 A0 n0 L) (hrb : ReadsInt w .u8 A1 n1 b) (hs0 : n0 ≤ 140737488351232) (hs1 : n1 ≤ 140737488351232) :
    Calls Try.prog 6 #[.slice A0 n0 c0, .slice A1 n1 c1] w fun e w' => e = .returned (.bool true) ∧ Below w.heap.size w w' := by
  have HR := Aside0.mk hr
  have HRB := Aside0.mk hrb
  have hm0 := hr.2.1
  have hm1 := hrb.2.1
  have HLN := Aside0.mk hr.1
  have HLB := Aside0.mk hrb.1
  clear hr hrb
  go_enter Try.func6, Try.ntmps6
  go_upto_region 2 with (go_at_call 8; refine (head_calls _).mono ?_; rintro e w1 ⟨rfl, hb1⟩; have HB1 := Aside0.mk hb1; clear hb1)
  go_upto_region 3 with (go_at_call 10; refine (new_calls 3 _ (by omega) (by omega)).mono ?_; rintro e w2 ⟨g, rfl, hg0, hc2, hb2⟩; have HG0 := Aside0.mk (show w.heap.size ≤ g from hg0 ▸ HB1.out.size); have HC2 := Aside0.mk hc2; have HB2 := Aside0.mk (below_then HB1.out HB1.out.size hb2); clear hg0 hc2 hb2)
  by_cases hn : (n0 : Int) + n1 > 9000
  · go_wp2
    go_ret
    exact ⟨rfl, HB2.out⟩
  have hn' : n0 + n1 ≤ 9000 := by omega
  have hd : decide ((n0 : Int) + (n1 : Int) > 9000) = false := by simp; omega
  have hca := conv_str (HR.out.below HB2.out) c0
  have hcb := conv_str (HRB.out.below HB2.out) c1
  have hss : ¬ 9223372036854775807 < (strOfNums L).size + (strOfNums b).size := by rw [str_size, str_size, HLN.out, HLB.out]; omega
  go_upto_region 6 with fail
  clear hca hcb hss
  rw [str_append]
  go_upto_region 7 with (refine wpList_bytes w2.heap.size (.tmp 38) (.tmp 39) rfl rfl [] L rfl rfl (World.ownsRow_made w2 #[] 0 (Nat.le_refl _) (Nat.zero_le _) rfl) (HR.out.below (below_then HB2.out HB2.out.size (below_alloc (Below.refl _ _) _))) (below_alloc (Below.refl _ _) _).size (by simp only [List.length_nil]; omega) ?_; intro v3 w3 hown hb3 hg; have HX := Aside0.mk hown; have HB3 := Aside0.mk hb3; clear hown hb3 hg)
  have HB3' := Aside0.mk (show Below w.heap.size w w3 from below_then HB2.out HB2.out.size ((below_alloc (Below.refl w2.heap.size w2) _).trans HB3.out))
  have HC3 := Aside0.mk (HC2.out.below ((below_alloc (Below.refl w2.heap.size w2) (.cells #[] 5)).trans HB3.out))
  obtain ⟨Ax, cx, rfl, hrx⟩ := own_reads HX.out
  have HXR := Aside0.mk (show ReadsInt w3 .u8 Ax n0 L from HLN.out ▸ hrx)
  have hxl : ([] ++ L).length = n0 := HLN.out
  have HX3 := Aside0.mk (show XRow w3 w2.heap.size (.slice Ax n0 cx) n0 from ⟨L, HLN.out, hxl ▸ HX.out⟩)
  have HXA := Aside0.mk (show ∀ ad, Ax = some ad → ad.block < w3.heap.size from fun ad e => by
    subst e
    rcases HX.out.2 with ⟨e, _⟩ | ⟨g, cap, cur, e, _, h2, _⟩
    · cases e
    · injection e with e1 e2 e3
      injection e1 with e1
      rw [e1]; exact lt_heap h2)
  rw [hxl]
  clear HX HB3 HC2 hrx
  go_upto_region 8 with (go_at_call 14; refine (write_calls g 3 0 none 0 [] Ax n0 cx L w3 HC3.out HXR.out (by omega) (by omega) (by simp only [List.length_nil]; omega) (by omega) (by omega)).mono ?_; rintro e w4 ⟨v4, xs, rfl, hrow, hout, hlt4, hg4⟩; have HROW := Aside0.mk hrow; have HOUT := Aside0.mk hout; have HLT := Aside0.mk hlt4; have HG4 := Aside0.mk hg4; clear hrow hout hlt4 hg4)
  have hgx : ∀ ad, Ax = some ad → ad.block ≠ g := by
    intro ad e e2
    subst e
    obtain ⟨ys, _, ho⟩ := HX3.out
    obtain ⟨cs, hcs⟩ := own_typed ho ad.block rfl
    rw [e2, HC3.out.blk] at hcs
    injection hcs with h
    injection h with _ h
    cases h
  have HB4 := Aside0.mk (below_far HB3'.out HG4.out HG0.out)
  have HX4 := Aside0.mk (show XRow w4 w2.heap.size (.slice Ax n0 cx) n0 from by
    obtain ⟨ys, h1, ho⟩ := HX3.out
    refine ⟨ys, h1, ho.kept HG4.out ?_⟩
    cases Ax with
    | none => exact .inl rfl
    | some ad => exact .inr fun e => hgx ad rfl (by simpa [Value.ownBlock] using e))
  have HB3s := HB3'.out.size
  clear hgx HX3 HXR HC3 HB3'
  obtain ⟨A4, c4, hc4, hf4, ha4⟩ := HOUT.out.cut
  have HC4 := Aside0.mk hc4
  have HF4 := Aside0.mk hf4
  have HA4 := Aside0.mk ha4
  have HT4 := Aside0.mk (show Told w4 w3.heap.size v4 3 xs L 0 from ⟨⟨_, RowsAt.of HROW.out HOUT.out, fun j _ hj => by rw [List.getElem?_map, List.getElem?_range hj]; rfl⟩, HOUT.out.rise⟩)
  have hle4 : 3 * xs.length ≤ n0 := by have := HOUT.out.le; rw [List.nil_append, HLN.out] at this; exact this
  obtain ⟨Av, cv, rfl⟩ := own_slice HROW.out
  have hw34 := HG4.out.size
  clear hc4 hf4 ha4 HROW HOUT HG4
  have HN34 := Aside0.mk (show w.heap.size ≤ w3.heap.size from HB3s)
  generalize w3.heap.size = N3 at HT4 HF4 HXA hw34 HN34
  go_upto_block 1 with fail
  go_loopg [10, 11, 12] xs.length (fun f v10 v11 v12 wz => ∃ i : Nat, Aside0 (f + i = xs.length) ∧ i ≤ xs.length ∧ v10 = .string (strOfNums (L.take (3 * i))) ∧ v11 = .int .i64 i ∧ Aside0 (Told wz N3 (.slice Av xs.length cv) 3 xs L i) ∧ Aside0 (CutAt wz g 3 (n0 : Int) A4 c4 (List.drop (3 * xs.length) L)) ∧ Aside0 (XRow wz w2.heap.size (.slice Ax n0 cx) n0) ∧ Aside0 (Below w.heap.size w wz) ∧ Aside0 (N3 ≤ wz.heap.size))
  case atStart => exact ⟨0, ⟨rfl⟩, by omega, rfl, rfl, HT4, ⟨by have := HC4.out; rw [Int.zero_add, List.nil_append] at this; exact this⟩, HX4, HB4, ⟨hw34⟩⟩
  case round =>
    obtain ⟨i, HF, hi, rfl, rfl, HT, HC, HX, HB, HN⟩ := hrel
    by_cases hlt : i < xs.length
    · obtain ⟨ad, c', x, e, hx, hcell⟩ := HT.out.cell hlt
      injection e with e1 e2 e3
      subst e1
      obtain ⟨ch, hp, hl, hch⟩ := HT.out.piece hx
      have hch := hch (Nat.le_refl _)
      subst hch
      have HP := Aside0.mk hp
      have HXI := Aside0.mk hx
      have hcs := conv_str ((Left.of_own hp).2.reads (by rw [hl]; omega)) x.2
      rw [hl] at hcs
      have HCL := Aside0.mk hl
      clear hp hl hx e3 c' e2
      unfold hdr at hcell
      have hss : ¬ 9223372036854775807 < (strOfNums (List.take (3 * i) L)).size + (strOfNums (chunk L 3 i)).size := by
        rw [str_size, str_size, HCL.out, List.length_take, HLN.out]; omega
      go_upto_block 3 with fail
      clear hss hcs hcell
      rw [str_append, show List.take (3 * i) L ++ chunk L 3 i = List.take (3 * (i + 1)) L from (by unfold chunk; rw [Nat.mul_succ, List.take_add])]
      have HT1 := Aside0.mk (show Told wr N3 (.slice (some ad) xs.length cv) 3 xs L (i + 1) from ⟨HT.out.rows.elim fun chs h => ⟨chs, h.1, fun j hj => h.2 j (by omega)⟩, HT.out.rise⟩)
      clear HT HP
      obtain ⟨wo, rfl⟩ : ∃ wo : World, wo = wr := ⟨_, rfl⟩
      go_loopg [12] 3 (fun f v12 wz => ∃ k : Nat, Aside0 (f + k = 3) ∧ k ≤ 3 ∧ v12 = .int .i64 k ∧ Aside0 (Told wz N3 (.slice (some ad) xs.length cv) 3 xs L (i + 1)) ∧ Aside0 (CutAt wz g 3 (n0 : Int) A4 c4 (List.drop (3 * xs.length) L)) ∧ Aside0 (XRow wz w2.heap.size (.slice Ax n0 cx) n0) ∧ Aside0 (Below w.heap.size w wz) ∧ Aside0 (N3 ≤ wz.heap.size))
      case atStart => exact ⟨0, ⟨rfl⟩, by omega, rfl, HT1, HC, HX, HB, HN⟩
      case round =>
        obtain ⟨k, HFk, hk3, rfl, HT, HC, HX, HB, HN⟩ := hrel
        obtain ⟨ad', c', x', e, hx', hcell⟩ := HT.out.cell hlt
        injection e with e1 e2 e3
        injection e1 with e1
        subst e1
        rw [HXI.out] at hx'
        obtain rfl := Option.some.inj hx'
        unfold hdr at hcell
        obtain ⟨ch, hp, hl, _⟩ := HT.out.piece HXI.out
        have hge := hp.blk.1
        clear hx' e3 c' e2
        by_cases hlk : k < 3
        · obtain ⟨⟨u, hu⟩, hfz⟩ := hp.at_ (k := k) (by omega)
          have HBK := Aside0.mk hp.blk.2
          clear hp hl
          go_wp2
          go_roundg (3 - (k + 1))
          case measure => have := HFk.out; omega
          case rel =>
            obtain ⟨cs5, hcs5⟩ := HBK.out
            have hxm := List.mem_of_getElem? HXI.out
            exact ⟨k + 1, ⟨by omega⟩, by omega, by go_num, ⟨HT.out.store HXI.out (by omega) k 0⟩, ⟨HC.out.store hcs5 (fun ad' e => by have := HA4.out ad' e x hxm; omega) k _⟩, ⟨HX.out.store (fun ad' e => by have := HXA.out ad' e; omega) k _⟩, ⟨HB.out.setCell (by show w.heap.size ≤ x.1; have := HB4.out.size; have := HN34.out; omega) _⟩, ⟨by rw [World.size_setCell]; exact HN.out⟩⟩
        · obtain rfl : k = 3 := by omega
          clear hp hl
          go_wp2
          go_roundg (xs.length - (i + 1))
          case measure => have := HF.out; omega
          case rel => exact ⟨i + 1, ⟨by have := HF.out; omega⟩, by omega, rfl, by go_num, HT, HC, HX, HB, HN⟩
    · obtain rfl : i = xs.length := by omega
      go_upto_block 5 with fail
      clear HT HF HN hi
      obtain ⟨wp, rfl⟩ : ∃ wp : World, wp = wr := ⟨_, rfl⟩
      go_loopg [13] n0 (fun f v13 wz => ∃ k : Nat, Aside0 (f + k = n0) ∧ k ≤ n0 ∧ v13 = .int .i64 k ∧ Aside0 (CutAt wz g 3 (n0 : Int) A4 c4 (List.drop (3 * xs.length) L)) ∧ Aside0 (XRow wz w2.heap.size (.slice Ax n0 cx) n0) ∧ Aside0 (Below w.heap.size w wz))
      case atStart => exact ⟨0, ⟨rfl⟩, by omega, rfl, HC, HX, HB⟩
      case round =>
        obtain ⟨k, HFk, hkn, rfl, HC, HX, HB⟩ := hrel
        by_cases hlk : k < n0
        · obtain ⟨gx, q, rfl, hcell, hfz, hblk, hgx⟩ := HX.out.at_ hlk
          have HBK := Aside0.mk hblk
          clear hblk
          go_wp2
          go_roundg (n0 - (k + 1))
          case measure => have := HFk.out; omega
          case rel =>
            obtain ⟨cs5, hcs5⟩ := HBK.out
            exact ⟨k + 1, ⟨by have := HFk.out; omega⟩, by omega, by go_num, ⟨HC.out.store hcs5 (fun ad' e => by have h1 := HF4.out ad' e; have h2 := HXA.out _ rfl; intro e2; rw [e2] at h1; exact absurd h2 (by show ¬ gx < N3; omega)) k _⟩, ⟨HX.out.put k _⟩, ⟨HB.out.setCell (by show w.heap.size ≤ gx; have := HB2.out.size; omega) _⟩⟩
        · obtain rfl : k = n0 := by omega
          have HRB' := Aside0.mk (HRB.out.below HB.out)
          have hLn := HLN.out
          have HL3 := Aside0.mk (show (List.drop (3 * xs.length) L).length ≤ 9000 by rw [List.length_drop]; omega)
          clear hLn
          go_upto_region 22 with (go_at_call 14; refine (write_calls g 3 (k : Int) A4 c4 _ A1 n1 c1 b _ HC.out HRB'.out (by omega) (by omega) (by have := HL3.out; omega) (by omega) (by omega)).mono ?_; rintro e w5 ⟨v5, ys, rfl, hrow, hout, hlt5, hg5⟩; have HROW := Aside0.mk hrow; have HOUT := Aside0.mk hout; have HLT5 := Aside0.mk hlt5; have HG5 := Aside0.mk hg5; clear hrow hout hlt5 hg5)
          have HB5 := Aside0.mk (below_far HB.out HG5.out HG0.out)
          obtain ⟨A6, c6, hc6, -, -⟩ := HOUT.out.cut
          have HC6 := Aside0.mk hc6
          have HT5 := Aside0.mk (show Told w5 wr.heap.size v5 3 ys (List.drop (3 * xs.length) L ++ b) 0 from ⟨⟨_, RowsAt.of HROW.out HOUT.out, fun j _ hj => by rw [List.getElem?_map, List.getElem?_range hj]; rfl⟩, HOUT.out.rise⟩)
          have HML := Aside0.mk (show (List.drop (3 * xs.length) L ++ b).length ≤ 18000 by rw [List.length_append, HLB.out]; have := HL3.out; omega)
          have HLE5 := Aside0.mk HOUT.out.le
          obtain ⟨Aw, cw, rfl⟩ := own_slice HROW.out
          have HTM := Aside0.mk (show List.take (3 * xs.length) L ++ (List.drop (3 * xs.length) L ++ b) = L ++ b by rw [← List.append_assoc, List.take_append_drop])
          have HTL := Aside0.mk (show (List.take (3 * xs.length) L).length ≤ 9000 by rw [List.length_take, HLN.out]; omega)
          clear hc6 HROW HOUT HX HC HB HT4 HC4 HX4 HA4 HF4 HXA HL3
          generalize List.drop (3 * xs.length) L ++ b = M at HT5 HC6 HML HTM HLT5 HLE5
          generalize List.take (3 * xs.length) L = T at HTM HTL ⊢
          have hyl : ys.length ≤ 6000 := by have := HLE5.out; have := HML.out; omega
          go_upto_block 7 with fail
          go_loopg [10, 15] ys.length (fun f v10 v15 wz => ∃ i : Nat, Aside0 (f + i = ys.length) ∧ i ≤ ys.length ∧ v10 = .string (strOfNums (T ++ M.take (3 * i))) ∧ v15 = .int .i64 i ∧ w5 = wz)
          case atStart => exact ⟨0, ⟨rfl⟩, by omega, by simp, rfl, rfl⟩
          case round =>
            obtain ⟨i, HF, hi, rfl, rfl, rfl⟩ := hrel
            by_cases hlt : i < ys.length
            · obtain ⟨ad, c', x, e, hx, hcell⟩ := HT5.out.cell hlt
              injection e with e1 e2 e3
              subst e1
              obtain ⟨ch, hp, hl, hch⟩ := HT5.out.piece hx
              have hch := hch (Nat.zero_le _)
              subst hch
              have hcs := conv_str ((Left.of_own hp).2.reads (by rw [hl]; omega)) x.2
              rw [hl] at hcs
              have HCL := Aside0.mk hl
              clear hp hl hx e3 c' e2
              unfold hdr at hcell
              have hss : ¬ 9223372036854775807 < (strOfNums (T ++ M.take (3 * i))).size + (strOfNums (chunk M 3 i)).size := by
                rw [str_size, str_size, HCL.out, List.length_append, List.length_take]
                have := HTL.out
                have := HML.out
                omega
              go_wp2
              go_roundg (ys.length - (i + 1))
              case measure => have := HF.out; omega
              case rel => exact ⟨i + 1, ⟨by have := HF.out; omega⟩, by omega, by rw [str_append, List.append_assoc, show M.take (3 * i) ++ chunk M 3 i = M.take (3 * (i + 1)) from (by unfold chunk; rw [Nat.mul_succ, List.take_add])], by go_num, rfl⟩
            · obtain rfl : i = ys.length := by omega
              have hss : ¬ 9223372036854775807 < (strOfNums (T ++ M.take (3 * ys.length))).size + (strOfNums (M.drop (3 * ys.length))).size := by
                rw [str_size, str_size, List.length_append, List.length_take, List.length_drop]
                have := HTL.out
                have := HML.out
                omega
              have hcat : strOfNums (T ++ M.take (3 * ys.length)) ++ strOfNums (M.drop (3 * ys.length)) = strOfNums (L ++ b) := by
                rw [str_append, List.append_assoc, List.take_append_drop, HTM.out]
              have hRL : (M.drop (3 * ys.length)).length ≤ 18000 := by rw [List.length_drop]; have := HML.out; omega
              generalize M.drop (3 * ys.length) = R at HC6 hss hcat hRL
              go_wp2_with (go_at_call 12; refine (rest_calls g _ _ A6 c6 _ _ HC6.out).mono ?_; rintro e w6 ⟨rfl, -, hg6, hl6⟩; have hcr := conv_str (hl6.reads (by omega)) c6; have HG6 := Aside0.mk hg6; clear hg6 hl6)
              go_ret
              exact ⟨rfl, below_far HB5.out HG6.out HG0.out⟩
end Go.Proofs.Ytoaokmlpeijepaa
