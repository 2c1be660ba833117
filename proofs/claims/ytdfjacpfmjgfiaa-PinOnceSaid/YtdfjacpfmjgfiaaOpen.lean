/-
  Layer 17: a new handle, that pins such segments.
-/
import Derived.Test.YtdfjacpfmjgfiaaClose
namespace Go.Proofs.Ytdfjacpfmjgfiaa
set_option linter.unusedVariables false
set_option linter.unusedSimpArgs false
open Go.Shelf Go.RowKit Go.Proofs.YtdfjacpfmjgfiaaW.PrintWords Go.Proofs.YtdfjacpfmjgfiaaW.PrintMore
attribute [local go_sem] max2_int
/-- A row of whole numbers, none of whose cells is one of O's. -/
def ReadsO (W : World) (O : Nat → Prop) (A : Option Addr) (n : Nat) (xs : List Int) : Prop := ReadsInt W .i64 A n xs ∧ ∀ ad, A = some ad → 0 < n → ¬ O ad.block
theorem add_block (a : Addr) (j : Nat) : (a.add j).block = a.block := by unfold Addr.add; split <;> rfl
theorem ReadsO.lt {W : World} {O : Nat → Prop} {A : Option Addr} {n : Nat} {xs : List Int} (h : ReadsO W O A n xs) {ad : Addr} (e : A = some ad) (h0 : 0 < n) : ad.block < W.heap.size := by
  obtain ⟨ad', e', hc⟩ := h.1.2.2 h0
  obtain rfl : ad' = ad := by rw [e] at e'; injection e' with e'; exact e'.symm
  have := World.block_lt_of_cell? W (ad'.add 0) (hc 0 h0)
  rwa [add_block] at this
theorem ReadsO.keep {W W' : World} {O O' : Nat → Prop} {A : Option Addr} {n : Nat} {xs : List Int} (h : ReadsO W O A n xs) (hk : KeepS O W W') (ho : ∀ k, O' k → O k ∨ W.heap.size ≤ k) : ReadsO W' O' A n xs := by
  refine ⟨⟨h.1.1, h.1.2.1, fun h0 => ?_⟩, fun ad e h0 hO => ?_⟩
  · obtain ⟨ad, e, hc⟩ := h.1.2.2 h0
    refine ⟨ad, e, fun j hj => ?_⟩
    rw [← hc j hj]
    exact World.cell?_of_block (hk.block _ (by rw [add_block]; exact h.lt e h0) (by rw [add_block]; exact h.2 ad e h0))
  · have := h.lt e h0
    rcases ho _ hO with h1 | h1
    · exact h.2 ad e h0 h1
    · omega
def insAll (l : List Int) : List Int → List Int
  | [] => l
  | n :: r => insAll (ins l n) r
theorem insAll_app : ∀ (a b : List Int) (l : List Int), insAll l (a ++ b) = insAll (insAll l a) b
  | [], _, _ => rfl
  | n :: a, b, l => insAll_app a b (ins l n)
theorem insAll_len : ∀ (a : List Int) (l : List Int), (insAll l a).length ≤ l.length + a.length
  | [], l => by simp [insAll]
  | n :: a, l => by
    have h1 := insAll_len a (ins l n)
    have h2 := (ins_len l n).1
    rw [insAll, List.length_cons]; omega
theorem insAll_rise : ∀ (a : List Int) {l : List Int}, Rises l → Rises (insAll l a)
  | [], _, h => h
  | n :: a, _, h => insAll_rise a (rises_ins h)
theorem mem_insAll : ∀ (a : List Int) {l : List Int} {x : Int}, x ∈ insAll l a ↔ x ∈ a ∨ x ∈ l
  | [], _, _ => by simp [insAll]
  | n :: a, l, x => by
    rw [insAll, mem_insAll a, mem_ins, List.mem_cons]
    constructor
    · rintro (h | h | h)
      · exact .inl (.inr h)
      · exact .inl (.inl h)
      · exact .inr h
    · rintro ((h | h) | h)
      · exact .inr (.inl h)
      · exact .inl h
      · exact .inr (.inr h)
theorem pinL_last {next : Int} {hl : HL} (h : HOk next hl) (l : List Int) (n : Int) : pinL (hl ++ [(next, l)]) next n = hl ++ [(next, ins l n)] :=
  pinL_split (fun y hy e => by have := (h.low y hy).2; omega) (fun y hy => by cases hy)
theorem aput_new : ∀ (hs : List Hd) (k : Int) (v : Value), (∀ x ∈ hs, x.key ≠ k) → aput (entS hs) k v = entS hs ++ [(k, v)]
  | [], _, _, _ => rfl
  | x :: hs, k, v, h => by
    show (if x.key = k then _ else _ :: aput (entS hs) k v) = _
    rw [if_neg (h x (by simp)), aput_new hs k v fun y hy => h y (List.mem_cons_of_mem _ hy)]
    rfl
theorem cnt_new (hl : HL) (k : Int) (n : Int) : cnt (hl ++ [(k, [])]) n = cnt hl n := by rw [cnt_app, cnt_cons]; simp [cnt]
/-- The table with a new handle in it. -/
theorem Tab.newTo {W W' : World} {t S P : Nat} {most next : Int} {hs : List Hd} {ps : List (Int × Int)} (h : Tab W 0 t S P most next hs ps) (g b : Nat) (c : Array Value) (hgb : W.heap.size ≤ g) (hbb : W.heap.size ≤ b) (hne : g ≠ b)
    (hk : ∀ k, k < W.heap.size → k ≠ t → k ≠ S → W'.heap[k]? = W.heap[k]?) (ht : W'.heap[t]? = some (.cells #[.int .i64 most, .int .i64 (next + 1), .map (some S), .map (some P)] 51 (0, 0)))
    (hS : IMap W' S (entS (hs ++ [⟨next, b, .slice (some ⟨g, 0, none⟩) 0 0, []⟩]))) (hg : W'.heap[g]? = some (.cells #[] 3 (0, 0))) (hb : W'.heap[b]? = some (.cells #[.slice (some ⟨g, 0, none⟩) 0 0] 29 (0, 0))) :
    Tab W' 0 t S P most (next + 1) (hs ++ [⟨next, b, .slice (some ⟨g, 0, none⟩) 0 0, []⟩]) ps := by
  have hcell : ∀ (k : Nat) (cs : Array Value) (T : TypeId), W.heap[k]? = some (.cells cs T (0, 0)) → T ≠ 51 → W'.heap[k]? = some (.cells cs T (0, 0)) := fun k cs T hkc hT => (hk k (lt_heap hkc) (fun e => by
      have := h.blk; rw [← e, hkc] at this; injection this with this; injection this with _ this; exact hT this) (fun e => map_not_cells h.segs (show W.heap[S]? = some (.cells cs T (0, 0)) by rw [← e]; exact hkc))).trans hkc
  refine ⟨ht, hS, ?_, ?_, ?_, h.SP⟩
  · refine h.pins.keep (hk P h.pins.lt (fun e => ?_) (fun e => h.SP e.symm))
    exact map_not_cells h.pins (show W.heap[P]? = some _ by rw [e]; exact h.blk)
  · intro x hx
    rcases List.mem_append.1 hx with hx | hx
    · have hb := h.box x hx
      refine ⟨hcell _ _ _ hb.1 (by decide), own_move hb.2 fun k hk2 => ?_⟩
      obtain ⟨cs, hcs⟩ := own_typed hb.2 k hk2
      rw [hcell k cs 3 hcs (by decide), hcs]
    · obtain rfl := List.mem_singleton.1 hx
      exact ⟨hb, ⟨rfl, .inr ⟨g, 0, #[], rfl, Nat.zero_le _, hg, Nat.le_refl _, by decide, rfl, rfl⟩⟩⟩
  · refine List.pairwise_append.2 ⟨h.apart, List.pairwise_singleton _ _, fun x hx y hy => ?_⟩
    obtain rfl := List.mem_singleton.1 hy
    have hb := h.box x hx
    refine ⟨fun e => by have := lt_heap hb.1; simp at e; omega, fun k e e2 => ?_⟩
    have h1 := own_lt hb.2 k e
    have h2 : some g = some k := e2
    injection h2 with h2
    omega
theorem KeepS.through {O O' : Nat → Prop} {a b c : World} (h : KeepS O a b) (ho : ∀ k, O' k → O k ∨ a.heap.size ≤ k) (k : KeepS O' b c) : KeepS O a c :=
  ⟨k.os.trans h.os, k.tape.trans h.tape, k.output.trans h.output, Nat.le_trans h.size k.size, fun i hi hO =>
    (k.block i (Nat.lt_of_lt_of_le hi h.size) fun h2 => (ho i h2).elim hO fun h3 => by omega).trans (h.block i hi hO)⟩
set_option maxRecDepth 100000 in
set_option maxHeartbeats 1000000 in
theorem open_full {W : World} {O : Nat → Prop} {t : Nat} {most next : Int} {hl : HL} (h : TabA W O t most next hl) (hf : most ≤ hl.length) (v : Value) :
    Calls Try.prog 17 #[.pointer (some ⟨t, 0, none⟩), v] W (TPost W O t most next hl (.tuple #[.int .i64 0, .int .i64 5])) := by
  have hh := h
  obtain ⟨S, P, hs, ps, h1, h2, h3, h4, h5⟩ := hh
  have c0 := h1.c0
  have c1 := h1.c1
  have c2 := h1.c2
  obtain ⟨a, c, hb, hn⟩ := h1.segs.len
  have hn2 : a.size = hs.length := by rw [hn]; simp [entS]
  have hl2 : hs.length = hl.length := by rw [← h2]; simp [absH]
  have hlen : ∀ m, (Builtin.len_ #[48] 3 #[.map (some S)]).run Try.prog (W.drewN m) = .ok (.int .i64 hs.length) (W.drewN m) := fun m => by
    have hb2 : (W.drewN m).heap[S]? = some (.map a c) := hb
    simp [Builtin.len_, run_underlying Try.underlying48, Go.MapKept.run_getObj_map hb2, hn2, goInt]
  have hd : decide (most ≤ (hs.length : Int)) = true := by simp; omega
  have H := Aside0.mk h
  clear h h1 h2 h3 h4 h5 hb hn hn2 hl2 hf
  go_enter Try.func17, Try.ntmps17
  go_wp2
  go_quiet (fail)
  go_wp2
  go_ret2
  exact ⟨rfl, O, H.out.keep fun k _ _ => rfl, ⟨rfl, rfl, rfl, Nat.le_refl _, fun _ _ _ => rfl⟩, fun k hk => .inl hk⟩
set_option maxRecDepth 100000 in
set_option maxHeartbeats 1000000 in
theorem open_calls {W : World} {O : Nat → Prop} {t : Nat} {most next : Int} {hl : HL} (h : TabA W O t most next hl) (hf : hl.length < most) (hb : ∀ x ∈ hl, x.2.length ≤ 50000) (hb2 : hl.length ≤ 50000) (h1n : 1 ≤ next) (hn40 : next ≤ 1000000) {A : Option Addr} {m c : Nat} {xs : List Int} (hr : ReadsO W O A m xs) (hm : m ≤ 40000) :
    Calls Try.prog 17 #[.pointer (some ⟨t, 0, none⟩), .slice A m c] W (TPost W O t most (next + 1) (hl ++ [(next, insAll [] xs)]) (.tuple #[.int .i64 next, .int .i64 0])) := by
  obtain ⟨S, P, hs, ps, h1, h2, h3, h4, h5⟩ := h
  have c0 := h1.c0
  have c1 := h1.c1
  have c2 := h1.c2
  have f1 := h1.fr 1
  obtain ⟨a, cl, hbk, hn⟩ := h1.segs.len
  have hn2 : a.size = hs.length := by rw [hn]; simp [entS]
  have hl2 : hs.length = hl.length := by rw [← h2]; simp [absH]
  have hlen : ∀ m, (Builtin.len_ #[48] 3 #[.map (some S)]).run Try.prog (W.drewN m) = .ok (.int .i64 hs.length) (W.drewN m) := fun m => by
    have hb2 : (W.drewN m).heap[S]? = some (.map a cl) := hbk
    simp [Builtin.len_, run_underlying Try.underlying48, Go.MapKept.run_getObj_map hb2, hn2, goInt]
  have hd : decide (most ≤ (hs.length : Int)) = false := by simp; omega
  have hd2 : decide (1099511627776 < next) = false := by simp; omega
  have H1 := Aside0.mk h1
  have H2 := Aside0.mk h2
  have H3 := Aside0.mk h3
  have H4 := Aside0.mk h4
  have H5 := Aside0.mk h5
  have hR0 := hr.1
  have HR := Aside0.mk hr
  have HB := Aside0.mk hb
  clear h1 h2 h3 h4 h5 hbk hn hn2 hl2 hr hb
  go_enter Try.func17, Try.ntmps17
  go_wp2
  go_quiet (fail)
  go_upto_region 5 with fail
  have hkeep : ∀ k, k ≠ t → ((W.drewN nq).setCell ⟨t, 1, none⟩ (Value.int .i64 (next + 1))).heap[k]? = W.heap[k]? := fun k hk => Below.heap_setCell (W.drewN nq) ⟨t, 1, none⟩ _ k hk
  have hblk : ((W.drewN nq).setCell ⟨t, 1, none⟩ (Value.int .i64 (next + 1))).heap[t]? = some (.cells #[.int .i64 most, .int .i64 (next + 1), .map (some S), .map (some P)] 51 (0, 0)) := heap_spl t [Value.int .i64 (next + 1)] 1 (W.drewN nq) _ H1.out.blk
  have hsz : ((W.drewN nq).setCell ⟨t, 1, none⟩ (Value.int .i64 (next + 1))).heap.size = W.heap.size := by rw [World.size_setCell]; rfl
  have hgr : KeepS (fun k => k = t) W ((W.drewN nq).setCell ⟨t, 1, none⟩ (Value.int .i64 (next + 1))) := ⟨rfl, rfl, rfl, by rw [hsz]; exact Nat.le_refl _, fun k _ hk => hkeep k hk⟩
  generalize ((W.drewN nq).setCell ⟨t, 1, none⟩ (Value.int .i64 (next + 1))) = W1 at hkeep hblk hsz hgr ⊢
  have c2' : W1.cell? ⟨t, 2, none⟩ = some (.map (some S)) := cell_of_row W1 t 2 _ 51 (0, 0) hblk
  have htS : S ≠ t := fun e => map_not_cells H1.out.segs (show W.heap[S]? = some _ by rw [e]; exact H1.out.blk)
  have n1 := heap_alloc_new W1 (.cells #[] 3)
  have n2 := heap_alloc_new (W1.alloc (.cells #[] 3)) (.cells #[.slice (some ⟨W1.heap.size, 0, none⟩) 0 0] 29)
  have s2 : (W1.alloc (.cells #[] 3)).heap.size = W1.heap.size + 1 := by show (W1.heap.push _).size = _; rw [Array.size_push]
  rw [s2] at n2
  have g2 : Grows W1 ((W1.alloc (.cells #[] 3)).alloc (.cells #[.slice (some ⟨W1.heap.size, 0, none⟩) 0 0] 29)) := ((Below.refl W1.heap.size W1).alloc (Nat.le_refl _) _).alloc (by omega) _
  have n1' : ((W1.alloc (.cells #[] 3)).alloc (.cells #[.slice (some ⟨W1.heap.size, 0, none⟩) 0 0] 29)).heap[W1.heap.size]? = some (.cells #[] 3 (0, 0)) := (heap_alloc_old (W1.alloc (.cells #[] 3)) _ (by omega)).trans n1
  have hS3 : IMap ((W1.alloc (.cells #[] 3)).alloc (.cells #[.slice (some ⟨W1.heap.size, 0, none⟩) 0 0] 29)) S (entS hs) := H1.out.segs.keep ((g2.block S (by rw [hsz]; exact H1.out.segs.lt)).trans (hkeep S htS))
  obtain ⟨W4, hput, hm4, hg4⟩ := run_put_i Try.underlying48 Try.underlying3 hS3 next (.pointer (some ⟨W1.heap.size + 1, 0, none⟩))
  have hkn : ∀ x ∈ hs, x.key ≠ next := fun x hx e => by
    have := (H4.out.low (x.key, x.l) (by rw [← H2.out]; exact List.mem_map_of_mem hx)).2
    simp at this
    omega
  rw [aput_new hs next _ hkn] at hm4
  have hS4 : ∀ k, k < W.heap.size + 2 → k ≠ S → W4.heap[k]? = ((W1.alloc (.cells #[] 3)).alloc (.cells #[.slice (some ⟨W1.heap.size, 0, none⟩) 0 0] 29)).heap[k]? := fun k hk hne => hg4.block k (by show k < ((W1.alloc (.cells #[] 3)).heap.push _).size; rw [Array.size_push, s2]; omega) (fun e => hne (by injection e))
  have hSlt := H1.out.segs.lt
  have hT4 : Tab W4 0 t S P most (next + 1) (hs ++ [⟨next, W1.heap.size + 1, .slice (some ⟨W1.heap.size, 0, none⟩) 0 0, []⟩]) ps := by
    refine H1.out.newTo W1.heap.size (W1.heap.size + 1) #[] (by omega) (by omega) (by omega) (fun k hk h1 h2 => ?_) ?_ (by simpa [entS] using hm4) ?_ ?_
    · exact (hS4 k (by omega) h2).trans ((g2.block k (by omega)).trans (hkeep k h1))
    · have := lt_heap H1.out.blk
      exact (hS4 t (by omega) (fun e => htS e.symm)).trans ((g2.block t (by omega)).trans hblk)
    · exact (hS4 W1.heap.size (by omega) (by omega)).trans n1'
    · exact (hS4 (W1.heap.size + 1) (by omega) (by omega)).trans n2
  have hA4 : TabA W4 (fun k => O k ∨ W.heap.size ≤ k) t most (next + 1) (hl ++ [(next, [])]) := by
    refine ⟨S, P, _, ps, hT4, by rw [absH_app, H2.out]; rfl, ⟨H3.out.keys, fun m => by rw [cnt_new]; exact H3.out.cnt m⟩, H4.out.open h1n [] List.Pairwise.nil, ?_⟩
    rintro k (rfl | rfl | rfl | ⟨x, hx, hq⟩)
    · exact .inl (H5.out _ (.inl rfl))
    · exact .inl (H5.out _ (.inr (.inl rfl)))
    · exact .inl (H5.out _ (.inr (.inr (.inl rfl))))
    · rcases List.mem_append.1 hx with hx | hx
      · exact .inl (H5.out _ (.inr (.inr (.inr ⟨x, hx, hq⟩))))
      · obtain rfl := List.mem_singleton.1 hx
        rcases hq with rfl | hq
        · exact .inr (by show W.heap.size ≤ W1.heap.size + 1; omega)
        · right
          have h2 : some W1.heap.size = some k := hq
          injection h2 with h2
          omega
  have hK4 : KeepS O W W4 := by
    refine KeepS.trans (KeepS.mono hgr fun k _ e => H5.out k (.inl e)) (KeepS.trans (KeepS.of_grows g2) (KeepS.of_grown hg4 fun k e => H5.out k (.inr (.inl (by injection e with e; exact e.symm)))))
  have HA4 := Aside0.mk hA4
  have HK4 := Aside0.mk hK4
  obtain ⟨hxl, hm63, _⟩ := hR0
  have HXL := Aside0.mk hxl
  clear hkeep hblk hsz hgr htS n1 n2 s2 g2 n1' hS3 hm4 hg4 hkn hS4 hSlt hT4 hA4 hK4 hxl c0 c1 c2 f1 hlen hd hd2
  go_wp2
  go_loopg [46] m (fun f v46 wr => ∃ i : Nat, Aside0 (f + i = m) ∧ i ≤ m ∧ v46 = .int .i64 i ∧ Aside0 (∃ O', TabA wr O' t most (next + 1) (hl ++ [(next, insAll [] (xs.take i))]) ∧ KeepS O W wr ∧ ∀ k, O' k → O k ∨ W.heap.size ≤ k))
  case atStart => exact ⟨0, ⟨by omega⟩, by omega, rfl, ⟨_, HA4.out, HK4.out, fun k hk => hk⟩⟩
  case round =>
    obtain ⟨i, HF, hi, rfl, HS⟩ := hrel
    by_cases hlt : i < m
    · obtain ⟨O', hA, hK, hO⟩ := HS.out
      have hrd := HR.out.keep hK hO
      obtain ⟨ad, rfl, hcell⟩ := hrd.1.2.2 (by omega)
      replace hcell := hcell i hlt
      have hts := List.take_succ_eq_append_getElem (l := xs) (show i < xs.length by rw [HXL.out]; exact hlt)
      have hgd : xs.getD i 0 = xs[i]'(by rw [HXL.out]; exact hlt) := by rw [List.getD_eq_getElem?_getD, List.getElem?_eq_getElem (by rw [HXL.out]; exact hlt)]; rfl
      rw [← hgd] at hts
      generalize xs.getD i 0 = n at hcell hts
      have hlen2 := insAll_len (xs.take i) []
      have htl := List.length_take_le i xs
      have HC := Aside0.mk (pin_calls hA (fun x hx => by
        rcases List.mem_append.1 hx with hx | hx
        · have := HB.out x hx; omega
        · obtain rfl := List.mem_singleton.1 hx
          show (insAll [] (xs.take i)).length ≤ 99999
          simp at hlen2
          omega) (by rw [List.length_append]; simp; omega) next n)
      rw [pinL_last H4.out] at HC
      have HTS := Aside0.mk hts
      have HK := Aside0.mk hK
      have HO := Aside0.mk hO
      clear HS hA hK hO hrd hts hgd hlen2 htl
      go_wp2_with (go_at_call 13; refine HC.out.mono ?_; clear HC; rintro e w1 ⟨rfl, O2, hA2, hK2, hO2⟩; have HA2 := Aside0.mk hA2; have HK2 := Aside0.mk hK2; have HO2 := Aside0.mk hO2; clear hA2 hK2 hO2)
      go_roundg (m - (i + 1))
      case measure => have := HF.out; omega
      case rel =>
        refine ⟨i + 1, ⟨by omega⟩, by omega, by go_num, ⟨O2, ?_, ?_, ?_⟩⟩
        · rw [HTS.out, insAll_app]; exact HA2.out
        · exact KeepS.through HK.out HO.out HK2.out
        · exact fun k hk => (HO2.out k hk).elim (HO.out k) fun h => .inr (Nat.le_trans HK.out.size h)
    · obtain rfl : i = m := by omega
      obtain ⟨O', hA, hK, hO⟩ := HS.out
      rw [List.take_of_length_le (by rw [HXL.out]; exact Nat.le_refl _)] at hA
      have HE := Aside0.mk (And.intro hA (And.intro hK hO))
      clear HS hA hK hO
      go_wp2
      go_ret2
      exact ⟨rfl, O', HE.out⟩
end Go.Proofs.Ytdfjacpfmjgfiaa
