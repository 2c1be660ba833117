/-
  Layer 17: the document's Open.
-/
import Derived.Test.YtdfjacpfmjgfiaaRMut
namespace Go.Proofs.Ytdfjacpfmjgfiaa
set_option linter.unusedVariables false
set_option linter.unusedSimpArgs false
open Go.Shelf Go.RowKit Go.Proofs.YtdfjacpfmjgfiaaW.PrintWords Go.Proofs.YtdfjacpfmjgfiaaW.PrintMore PPinPlays
attribute [local go_sem] max2_int
theorem segRow_of {W : World} {B : Nat} {v : Value} {l : List Int} (h : OwnE W B 3 1 v l.length (nums .i64 l)) (hl : l.length ≤ 1000000) : SegRow W (fun k => B ≤ k) v l := by
  rcases h with ⟨a, rfl, h0, _⟩ | h
  · obtain rfl : l = [] := List.eq_nil_of_length_eq_zero h0
    exact ⟨a, 0, rfl, Nat.le_refl _, ⟨rfl, by decide, fun h => absurd h (Nat.lt_irrefl 0)⟩, fun ad _ h => absurd h (Nat.lt_irrefl 0)⟩
  · obtain ⟨A, c, rfl, hc⟩ := own_slice h
    refine ⟨A, c, rfl, hc, own_reads' h, fun ad e h0 => ?_⟩
    subst e
    obtain ⟨cs, hcs⟩ := own_typed h ad.block rfl
    exact ⟨own_base h _ rfl, cs, (0, 0), hcs⟩
theorem SegRow.nil (W : World) (O : Nat → Prop) : SegRow W O (.slice none 0 0) [] := ⟨none, 0, rfl, Nat.le_refl _, ⟨rfl, by decide, fun h => absurd h (Nat.lt_irrefl 0)⟩, fun ad h => (by cases h)⟩
theorem SegRow.grows {W W' : World} {O : Nat → Prop} {v : Value} {l : List Int} (h : SegRow W O v l) (hg : Grows W W') : SegRow W' O v l := h.keep (fun k cs fr _ hc => hg.block k (lt_heap hc)) fun k hk _ => hk
theorem SegRow.more {W : World} {O O' : Nat → Prop} {v : Value} {l : List Int} (h : SegRow W O v l) (hO : ∀ k, O k → O' k) : SegRow W O' v l := h.keep (fun k cs fr _ hc => rfl) fun k hk _ => hO k hk
/-- The table has another row of handles. -/
theorem RTb.turn {W3 w6 W9 : World} {O O' : Nat → Prop} {g : Nat} {most next next' : Int} {rs rs' : List RH} {vL v6 : Value} (h : RTb W3 O g most next rs vL) (hk : ∀ (k : Nat) (cs : Array Value) (T : TypeId) (fr : Nat × Nat), W3.heap[k]? = some (Obj.cells cs T fr) → T ≠ 62 → w6.heap[k]? = W3.heap[k]?)
    (ho6 : w6.ownsRow 0 62 2 v6 rs'.length (flat rs')) (hm : ∀ k, v6.ownBlock = some k → O' k) (hs : ∀ r ∈ rs', SegRow W3 O' r.2.2 r.2.1) (hO : ∀ k, O k → O' k)
    (h9 : ∀ k, k ≠ g → W9.heap[k]? = w6.heap[k]?) (hb9 : W9.heap[g]? = some (.cells #[.int .i64 most, v6, .int .i64 next'] 54 (0, 0))) : RTb W9 O' g most next' rs' v6 := by
  refine ⟨hb9, own_move ho6 fun k e => h9 k fun eg => ?_, hm, fun r hr => (hs r hr).keep (fun k cs fr _ hc => ?_) fun k hk _ => hk, hO g h.og⟩
  · subst eg
    obtain ⟨cs2, h2⟩ := own_typed ho6 k e
    have h3 := (hk k _ _ _ h.blk (by decide)).trans h.blk
    rw [h2] at h3; injection h3 with h3; injection h3 with _ h3; cases h3
  · have hne : k ≠ g := fun eg => by
      subst eg
      rw [h.blk] at hc; injection hc with hc; injection hc with _ hc; cases hc
    exact (h9 k hne).trans (hk k _ _ _ hc (by decide))
theorem grown62 {W w6 : World} {B n : Nat} {v : Value} {xs : List Value} (ho : W.ownsRow B 62 2 v n xs) (hg : W.grownBy w6 v.ownBlock) : ∀ (k : Nat) (cs : Array Value) (T : TypeId) (fr : Nat × Nat), W.heap[k]? = some (Obj.cells cs T fr) → T ≠ 62 → w6.heap[k]? = W.heap[k]? := fun k cs T fr hc hT => hg.block k (lt_heap hc) fun e => by
  obtain ⟨cs2, h2⟩ := own_typed ho k e.symm
  rw [h2] at hc; injection hc with hc; injection hc with _ hc; exact hT hc.symm
set_option maxRecDepth 100000 in
set_option maxHeartbeats 1000000 in
theorem ropen_full {W : World} {O : Nat → Prop} {g : Nat} {most next : Int} {hl : HL} (h : RTA W O g most next hl) (hf : most ≤ hl.length) (hb : hl.length ≤ 100000) (v : Value) :
    Calls Try.prog 18 #[.pointer (some ⟨g, 0, none⟩), v] W (RPost W O g most next hl (.tuple #[.int .i64 0, .int .i64 5])) := by
  have hh := h
  obtain ⟨rs, vL, h1, h2⟩ := hh
  have c0 := h1.c0
  have c1 := h1.c1
  have c2 := h1.c2
  have hl2 : rs.length = hl.length := by rw [← h2]; simp [absR]
  obtain ⟨Av, cv, ev, hcv⟩ := own_slice h1.row
  subst ev
  have hd : decide (most ≤ (rs.length : Int)) = true := by simp; omega
  have H := Aside0.mk h
  clear h h1 h2 hl2 hf
  go_enter Try.func18, Try.ntmps18
  go_wp2
  go_quiet (fail)
  go_wp2
  go_ret2
  exact ⟨rfl, O, H.out.keep fun k _ _ => rfl, ⟨rfl, rfl, rfl, Nat.le_refl _, fun _ _ _ => rfl⟩, fun k hk => .inl hk⟩
set_option maxRecDepth 100000 in
set_option maxHeartbeats 2000000 in
theorem ropen_calls {W : World} {O : Nat → Prop} {g : Nat} {most next : Int} {hl : HL} (h : RTA W O g most next hl) (hf : hl.length < most) (hb : hl.length ≤ 50000) (h1n : 1 ≤ next) (hn40 : next ≤ 1000000) {A : Option Addr} {m c : Nat} {xs : List Int} (hr : ReadsInt W .i64 A m xs) (hm : m ≤ 40000) :
    Calls Try.prog 18 #[.pointer (some ⟨g, 0, none⟩), .slice A m c] W (RPost W O g most (next + 1) (hl ++ [(next, insAll [] xs)]) (.tuple #[.int .i64 next, .int .i64 0])) := by
  obtain ⟨rs, vL, h1, h2⟩ := h
  have c0 := h1.c0
  have c1 := h1.c1
  have c2 := h1.c2
  have hl2 : rs.length = hl.length := by rw [← h2]; simp [absR]
  obtain ⟨Av, cv, ev, hcv⟩ := own_slice h1.row
  subst ev
  have hd : decide (most ≤ (rs.length : Int)) = false := by simp; omega
  have hd2 : decide (1099511627776 < next) = false := by simp; omega
  obtain rfl := hr.1
  have H1 := Aside0.mk h1
  have H2 := Aside0.mk h2
  have HR := Aside0.mk hr
  have hrl : rs.length ≤ 50000 := by omega
  clear h1 h2 hl2 hr hf
  go_enter Try.func18, Try.ntmps18
  go_wp2
  go_quiet (fail)
  go_wp2
  go_loopg [6, 7] xs.length (fun f v6 v7 wr => ∃ i : Nat, Aside0 (f + i = xs.length) ∧ i ≤ xs.length ∧ v7 = .int .i64 i ∧ Aside0 (SegRow wr (fun k => W.heap.size ≤ k) v6 (insAll [] (xs.take i)) ∧ Grows W wr))
  case atStart => exact ⟨0, ⟨by omega⟩, by omega, rfl, ⟨SegRow.nil _ _, ⟨rfl, rfl, rfl, Nat.le_refl _, fun _ _ => rfl⟩⟩⟩
  case round =>
    obtain ⟨i, HF, hi, rfl, HS⟩ := hrel
    obtain ⟨A6, c6, e6, hc6, hr6, hs6⟩ := HS.out.1
    subst e6
    have hlen := insAll_len (xs.take i) []
    have htl := List.length_take_le i xs
    simp only [List.length_nil, Nat.zero_add] at hlen
    by_cases hlt : i < xs.length
    · obtain ⟨ad, rfl, hcell⟩ := (HR.out.below HS.out.2).2.2 (by omega)
      replace hcell := hcell i hlt
      rw [getD_lt hlt] at hcell
      have hts := List.take_succ_eq_append_getElem hlt
      generalize xs[i] = y at hcell hts
      have HTS := Aside0.mk hts
      have HC := Aside0.mk (rwith_calls hr6 hc6 (insAll_rise (xs.take i) List.Pairwise.nil) y (by omega))
      have HL2 := Aside0.mk (show (ins (insAll [] (xs.take i)) y).length ≤ 1000000 by have := (ins_len (insAll [] (xs.take i)) y).1; omega)
      clear hts hr6 hs6
      obtain ⟨L, hL⟩ : ∃ L, insAll [] (xs.take i) = L := ⟨_, rfl⟩
      rw [hL] at HS HC hlen HL2 hc6 ⊢
      have HLL := Aside0.mk hL
      clear hL
      go_wp2_with (go_at_call 33; refine HC.out.mono ?_; clear HC; rintro e w3 ⟨v3, rfl, hg, hor⟩; have HG3 := Aside0.mk hg; have HOR := Aside0.mk hor; clear hg hor)
      go_roundg (xs.length - (i + 1))
      case measure => have := HF.out; omega
      case rel =>
        refine ⟨i + 1, ⟨by omega⟩, by omega, by go_num, ⟨?_, Grows.trans HS.out.2 HG3.out⟩⟩
        rw [HTS.out, insAll_app, HLL.out]
        show SegRow w3 _ v3 (ins L y)
        rcases HOR.out with ⟨e3, he⟩ | ho
        · rw [e3, he]; exact HS.out.1.grows HG3.out
        · exact (segRow_of ho HL2.out).more fun k hk => Nat.le_trans HS.out.2.size hk
    · obtain rfl : i = xs.length := by omega
      rw [List.take_of_length_le (Nat.le_refl _)] at *
      obtain ⟨w5, hw5⟩ : ∃ w5, w5 = wr := ⟨_, rfl⟩
      subst hw5
      have HG := Aside0.mk HS.out.2
      have HSG := Aside0.mk HS.out.1
      have q1 := cell_below HS.out.2 c1
      have q2 := cell_below HS.out.2 c2
      have q0 := cell_below HS.out.2 c0
      obtain ⟨L, hL⟩ : ∃ L, insAll [] xs = L := ⟨_, rfl⟩
      rw [hL] at HSG hc6 hlen ⊢
      have HLL := Aside0.mk hL
      clear hL HS HF hi hlt hr6 hs6 htl
      have g3 : Grows w5 (w5.alloc (.cells #[.int .i64 next, .slice A6 L.length c6] 62)) := (Below.refl w5.heap.size w5).alloc (Nat.le_refl _) _
      have hgw := Grows.trans HG.out g3
      have HR3 : RTb (w5.alloc (.cells #[.int .i64 next, .slice A6 L.length c6] 62)) O g most next rs (.slice Av rs.length cv) := H1.out.keep (fun k _ hlt => hgw.block k hlt) fun k hk _ => hk
      obtain ⟨v6, w6, hrun, ho6, hg6, hloc6⟩ := hands_run 0 (.slice Av rs.length cv) rs [(next, L, .slice A6 L.length c6)] (some ⟨w5.heap.size, 0, none⟩) 1 1 HR3.row rfl (fun _ => ⟨_, rfl, fun j u hu => by
        have hadd : (⟨w5.heap.size, 0, none⟩ : Addr).add j = ⟨w5.heap.size, j, none⟩ := by unfold Addr.add; split <;> simp_all
        rw [hadd]
        exact (cell_of_row _ _ j _ 62 (0, 0) (heap_alloc_new w5 _)).trans (by rw [← Array.getElem?_toList]; exact hu)⟩) (fun r hr => by rw [List.mem_singleton.1 hr]; rfl) (Nat.zero_le _) (by omega)
      obtain ⟨A6v, c6v, e6v, hc6v⟩ := own_slice ho6
      rw [List.length_append, show ([(next, L, Value.slice A6 L.length c6)] : List RH).length = 1 from rfl] at e6v
      have hblk6 : w6.heap[g]? = some (.cells #[.int .i64 most, .slice Av rs.length cv, .int .i64 next] 54 (0, 0)) := (hg6.block g (lt_heap HR3.blk) (fun e => by
        obtain ⟨cs2, h2⟩ := own_typed HR3.row g e.symm
        have := HR3.blk
        rw [h2] at this; injection this with this; injection this with _ this; cases this)).trans HR3.blk
      have p1 := cell_of_row w6 g 1 _ 54 (0, 0) hblk6
      have f1 : w6.frozen? ⟨g, 1, none⟩ = false := frozen_of_row w6 g 1 _ 54 hblk6
      replace p1 : w6.cell? ⟨g, 1, none⟩ = some (.slice Av rs.length cv) := p1
      have hblk7 := heap_spl g [v6] 1 w6 _ hblk6
      have hblk8 := heap_spl g [.int .i64 (next + 1)] 2 (w6.setCell ⟨g, 1, none⟩ v6) _ hblk7
      have p2 : (w6.setCell ⟨g, 1, none⟩ v6).cell? ⟨g, 2, none⟩ = some (.int .i64 next) := cell_of_row _ g 2 _ 54 (0, 0) hblk7
      have f2 : (w6.setCell ⟨g, 1, none⟩ v6).frozen? ⟨g, 2, none⟩ = false := frozen_of_row _ g 2 _ 54 hblk7
      have hR8 : RTb ((w6.setCell ⟨g, 1, none⟩ v6).setCell ⟨g, 2, none⟩ (.int .i64 (next + 1))) (fun k => O k ∨ W.heap.size ≤ k) g most (next + 1) (rs ++ [(next, L, .slice A6 L.length c6)]) v6 := by
        refine HR3.turn (grown62 HR3.row hg6) ho6 (fun k e => hloc6.elim (fun h => .inl (HR3.mine k (h.symm.trans e))) fun h => .inr (by rw [h] at e; injection e with e; rw [← e]; exact hgw.size)) (fun r hr => ?_) (fun k hk => .inl hk) (fun k hk => ?_) hblk8
        · rcases List.mem_append.1 hr with hr | hr
          · exact (HR3.segs r hr).more fun k hk => .inl hk
          · rw [List.mem_singleton.1 hr]
            exact (HSG.out.grows g3).more fun k hk => .inr hk
        · exact (Below.heap_setCell _ ⟨g, 2, none⟩ _ k hk).trans (Below.heap_setCell _ ⟨g, 1, none⟩ _ k hk)
      have hK8 : KeepS O W ((w6.setCell ⟨g, 1, none⟩ v6).setCell ⟨g, 2, none⟩ (.int .i64 (next + 1))) :=
        KeepS.trans (KeepS.of_grows hgw) (KeepS.trans (KeepS.of_grown hg6 fun k e => HR3.mine k e) (KeepS.trans (KeepS.of_grown (grown_set w6 g 1 v6) fun k e => by injection e with e; subst e; exact H1.out.og) (KeepS.of_grown (grown_set _ g 2 _) fun k e => by injection e with e; subst e; exact H1.out.og)))
      have HF := Aside0.mk (show RPost W O g most (next + 1) (hl ++ [(next, L)]) (.tuple #[.int .i64 next, .int .i64 0]) (.returned (.tuple #[.int .i64 next, .int .i64 0])) _ from
        ⟨rfl, _, ⟨_, _, hR8, by unfold absR; rw [List.map_append]; have := H2.out; unfold absR at this; rw [this]; rfl⟩, hK8, fun k hk => hk⟩)
      subst e6v
      clear HR3 ho6 hg6 hloc6 hblk6 hblk7 hblk8 hR8 hK8 g3 hgw c0 c1 c2 HSG HG
      go_wp2_with (at_builtin; refine wpList_appendE (.tmp 46) (.tmp 50) 52 rfl rfl rfl rfl ⟨_, _, hrun, ?_⟩; clear hrun)
      go_ret2
      rw [HLL.out]
      exact HF.out
end Go.Proofs.Ytdfjacpfmjgfiaa
