/-
  Layer 6: rows of pieces, as they lie and as they are read.
-/
import Derived.Test.YtoaokmlpeijepaaOwn
import Derived.Test.YtoaokmlpeijepaaMany
namespace Go.Proofs.Ytoaokmlpeijepaa
set_option linter.unusedVariables false
set_option linter.unusedSimpArgs false
open Go.RowKit Go.Proofs.YtoaokmlpeijepaaW.PrintWords

/-- Rows of bytes, as they lie. -/
structure RowsAt (W : World) (n0 : Nat) (v : Value) (each : Nat) (xs : List (Nat × Nat)) (chs : List (List Int)) : Prop where
  row : OwnE W n0 29 1 v xs.length (xs.map (hdr each))
  len : xs.length = chs.length
  piece : ∀ (j : Nat) (x : Nat × Nat) (ch : List Int), xs[j]? = some x → chs[j]? = some ch → Piece W n0 x ch ∧ ch.length = each
/-- Blocks of bytes, and of their headers, from n0 on are as they were. -/
def Stays (n0 : Nat) (W W' : World) : Prop := ∀ (k : Nat) (cs : Array Value) (t : TypeId), n0 ≤ k → W.heap[k]? = some (.cells cs t (0, 0)) → t = 5 ∨ t = 29 → W'.heap[k]? = some (.cells cs t (0, 0))
theorem Stays.grows {n0 : Nat} {W W' : World} (h : Grows W W') : Stays n0 W W' := fun k cs t _ hc _ => (h.block k (lt_heap hc)).trans hc
theorem Stays.cut {n0 : Nat} {W W' : World} {g : Nat} {e all : Int} {A : Option Addr} {c : Nat} {M : List Int} (hc : CutAt W g e all A c M) (hg : W.grownBy W' (some g)) : Stays n0 W W' := fun k cs t _ hk ht => (hg.block k (lt_heap hk) fun e => by
  injection e with e
  subst e
  rw [hc.blk] at hk
  injection hk with hk
  injection hk with _ h2
  subst h2
  rcases ht with h | h <;> cases h).trans hk
theorem RowsAt.step {W W' : World} {n0 : Nat} {v : Value} {each : Nat} {xs : List (Nat × Nat)} {chs : List (List Int)} (h : RowsAt W n0 v each xs chs) (hk : Stays n0 W W') : RowsAt W' n0 v each xs chs := by
  refine ⟨h.row.keep fun g cs hg hc => hk g cs 29 hg hc (.inr rfl), h.len, fun j x ch e1 e2 => ⟨(h.piece j x ch e1 e2).1.step fun cs hc => hk _ cs 5 (h.piece j x ch e1 e2).1.blk.1 hc (.inl rfl), (h.piece j x ch e1 e2).2⟩⟩
theorem RowsAt.of {W : World} {n0 g each : Nat} {all : Int} {L : List Int} {v : Value} {xs : List (Nat × Nat)} (hrow : W.ownsRow n0 29 1 v xs.length (xs.map (hdr each))) (ho : Out W g n0 each all L xs) : RowsAt W n0 v each xs ((List.range xs.length).map (chunk L each)) := by
  refine ⟨.inr hrow, by simp, fun j x ch e1 e2 => ?_⟩
  have hj : j < xs.length := by
    rcases Nat.lt_or_ge j xs.length with h | h
    · exact h
    · rw [List.getElem?_eq_none h] at e1; cases e1
  rw [List.getElem?_map, List.getElem?_range hj] at e2
  obtain rfl := Option.some.inj e2
  exact ⟨ho.piece j x e1, chunk_len hj ho.le⟩
theorem RowsAt.mono {W : World} {n0 n1 : Nat} {v : Value} {each : Nat} {xs : List (Nat × Nat)} {chs : List (List Int)} (h : RowsAt W n0 v each xs chs) (hn : n1 ≤ n0) : RowsAt W n1 v each xs chs := by
  refine ⟨?_, h.len, fun j x ch e1 e2 => ⟨?_, (h.piece j x ch e1 e2).2⟩⟩
  · rcases h.row with h | h
    · exact .inl h
    · rcases h.2 with h0 | ⟨g, cap, cur, e1, h1, h2⟩
      · exact .inr ⟨h.1, .inl h0⟩
      · exact .inr ⟨h.1, .inr ⟨g, cap, cur, e1, by omega, h2⟩⟩
  · have h := (h.piece j x ch e1 e2).1
    rcases h.2 with h0 | ⟨g, cap, cur, e1, h1, h2⟩
    · exact ⟨h.1, .inl h0⟩
    · exact ⟨h.1, .inr ⟨g, cap, cur, e1, by omega, h2⟩⟩
theorem RowsAt.reads {W : World} {n0 : Nat} {v : Value} {each : Nat} {xs : List (Nat × Nat)} {chs : List (List Int)} (h : RowsAt W n0 v each xs chs) (hm : chs.length ≤ 140737488355328) (he : each ≤ 140737488355328) :
    ∃ A c, v = .slice A chs.length c ∧ chs.length ≤ c ∧ Kd.C (Kd.slice 5 (Kd.int .u8)) W A chs.length chs := by
  obtain ⟨A, c, rfl, hc⟩ := h.row.slice
  rw [h.len] at hc
  refine ⟨A, c, by rw [h.len], hc, rfl, by omega, fun hn => ?_⟩
  have hx : ∀ j, j < chs.length → ∃ x, xs[j]? = some x := fun j hj => ⟨xs[j]'(by rw [h.len]; exact hj), List.getElem?_eq_getElem _⟩
  obtain ⟨x0, hx0⟩ := hx 0 hn
  obtain ⟨g, rfl, _⟩ := h.row.cells 0 (hdr each x0) (by rw [List.getElem?_map, hx0]; rfl)
  refine ⟨_, rfl, fun j p hp => ?_⟩
  have hj : j < chs.length := by
    rcases Nat.lt_or_ge j chs.length with h | h
    · exact h
    · rw [List.getElem?_eq_none h] at hp; cases hp
  obtain ⟨x, hxj⟩ := hx j hj
  obtain ⟨hpc, hl⟩ := h.piece j x p hxj hp
  have hle2 : p.length ≤ x.2 := own_le hpc
  obtain ⟨_, hleft⟩ := Left.of_own hpc
  refine ⟨[hdr each x], rfl, ⟨_, x.2, by rw [hl]; rfl, hle2, C_of_u8 (hleft.reads (by rw [hl]; omega))⟩, fun t u hu => ?_⟩
  cases t with
  | zero =>
    obtain rfl := Option.some.inj hu
    obtain ⟨g', e1, _, _, hcell⟩ := h.row.cells j (hdr each x) (by rw [List.getElem?_map, hxj]; rfl)
    injection e1 with e1
    injection e1 with e1
    subst e1
    have hadd : (⟨g, 0, none⟩ : Addr).add (j * 1 + 0) = ⟨g, j, none⟩ := by unfold Addr.add; split <;> simp_all
    show W.cell? ((⟨g, 0, none⟩ : Addr).add (j * 1 + 0)) = _
    rw [hadd]; exact hcell
  | succ t => cases hu
/-- One row of rows behind the other. -/
theorem RowsAt.app {W : World} {n0 : Nat} {v v1 v2 : Value} {each : Nat} {xs ys : List (Nat × Nat)} {c1 c2 : List (List Int)} (h1 : RowsAt W n0 v1 each xs c1) (h2 : RowsAt W n0 v2 each ys c2) (hr : OwnE W n0 29 1 v (xs ++ ys).length ((xs ++ ys).map (hdr each))) : RowsAt W n0 v each (xs ++ ys) (c1 ++ c2) := by
  refine ⟨hr, by simp [h1.len, h2.len], fun j x ch e1 e2 => ?_⟩
  rcases Nat.lt_or_ge j xs.length with hj | hj
  · rw [List.getElem?_append_left hj] at e1
    rw [List.getElem?_append_left (by rw [← h1.len]; exact hj)] at e2
    exact h1.piece j x ch e1 e2
  · rw [List.getElem?_append_right hj] at e1
    rw [List.getElem?_append_right (by rw [← h1.len]; exact hj), ← h1.len] at e2
    exact h2.piece _ x ch e1 e2
theorem own_zero_base {W : World} {B e size n : Nat} {v : Value} {xs : List Value} (h : W.ownsRow B e size v n xs) : W.ownsRow 0 e size v n xs := by
  rcases h.2 with h0 | ⟨g, cap, cur, e1, h1, h2⟩
  · exact ⟨h.1, .inl h0⟩
  · exact ⟨h.1, .inr ⟨g, cap, cur, e1, Nat.zero_le _, h2⟩⟩
theorem hdr_one {each : Nat} {xs : List (Nat × Nat)} : ∀ u ∈ xs.map (hdr each), u.oneCell' = true := by
  intro u hu
  obtain ⟨x, _, rfl⟩ := List.mem_map.1 hu
  rfl
theorem info29' : (Try.prog.info? 29).map (fun i => (i.zero, i.size, i.bytes)) = some (some (.slice none 0 0), 1, 24) := info29
/-- append of rows' headers, at a row of one's own, or at nothing. -/
theorem append_rows {W : World} {B n0 each : Nat} {v v2 : Value} {xs ys : List (Nat × Nat)} (ty : TypeId) (ho : OwnE W B 29 1 v xs.length (xs.map (hdr each))) (h2 : OwnE W n0 29 1 v2 ys.length (ys.map (hdr each))) (hl : (xs.length + ys.length) * 24 ≤ 140737488355328) (hB : B ≤ W.heap.size) :
    ∃ v' w', (Builtin.append_ #[33, 33] ty #[v, v2]).run Try.prog W = .ok v' w' ∧ OwnE w' B 29 1 v' (xs ++ ys).length ((xs ++ ys).map (hdr each)) ∧ KeepS (fun k => B ≤ k ∧ some k = v.ownBlock ∧ ∃ cs, W.heap[k]? = some (.cells cs 29 (0, 0))) W w' := by
  obtain ⟨A, c, rfl, hc⟩ := h2.slice
  obtain ⟨i0, hi, hz0, hz1, hz2⟩ := parts3 info29'
  obtain ⟨v', w', hr, h3, h4⟩ := append_ownE (P := Try.prog) B 33 ty 29 i0 (.slice none 0 0) 1 24 Try.underlying33 hi hz0 hz1 hz2 rfl (by omega) v xs.length _ ho A ys.length c (ys.map (hdr each)) (by simp) (fun hm => by
    obtain ⟨y, hy⟩ : ∃ y, ys[0]? = some y := ⟨ys[0]'hm, List.getElem?_eq_getElem hm⟩
    obtain ⟨g, rfl, _⟩ := h2.cells 0 (hdr each y) (by rw [List.getElem?_map, hy]; rfl)
    refine ⟨_, rfl, fun j u hu => ?_⟩
    obtain ⟨g', e1, _, _, hcell⟩ := h2.cells j u hu
    injection e1 with e1
    injection e1 with e1
    subst e1
    have hadd : (⟨g, 0, none⟩ : Addr).add j = ⟨g, j, none⟩ := by unfold Addr.add; split <;> simp_all
    rw [hadd]; exact hcell) hdr_one (by simp only [maxLen]; omega) hl hB
  exact ⟨v', w', hr, by rw [List.length_append, List.map_append]; exact h3, h4⟩

theorem below_far {w W W' : World} {g : Nat} (h : Below w.heap.size w W) (k : W.grownBy W' (some g)) (hg : w.heap.size ≤ g) : Below w.heap.size w W' := pw_below_grown h _ h.size k (fun k e => by injection e with e; omega)
/-- What turns one cutter leaves another. -/
theorem CutAt.far {W W' : World} {g g' : Nat} {e e' all all' : Int} {A A' : Option Addr} {c c' : Nat} {L L' : List Int} (h : CutAt W g' e' all' A' c' L') (hx : CutAt W g e all A c L) (hg : W.grownBy W' (some g)) (hne : g ≠ g') : CutAt W' g' e' all' A' c' L' :=
  h.step (hg.block g' h.lt (fun e => by injection e with e; omega)) (fun k cs hk => (Stays.cut (n0 := 0) hx hg) k cs 5 (Nat.zero_le _) hk (.inl rfl))

/-- x[k:] of bytes. -/
theorem cut_from {A : Option Addr} {n c : Nat} (k : Nat) (hk : k ≤ n) (hnc : n ≤ c) : ∃ A' : Option Addr, (A' = if c = k then A else A.map (·.add k)) ∧ ∀ w : World, (Instr.slice 29 (.slice A n c) (some (.int .i64 (k : Int))) none none).run Try.prog w = .ok (.slice A' (n - k) (c - k)) w := by
  refine ⟨_, rfl, fun w => ?_⟩
  have h1 : ((k : Int)) ≤ (n : Int) := by omega
  have h2 : ((n : Int)) ≤ (c : Int) := by omega
  split
  · subst c; go_simp
  · go_simp

/-- append of headers leaves cutters, and bytes. -/
theorem CutAt.apart {W W' : World} {B g : Nat} {v : Value} {e all : Int} {A : Option Addr} {c : Nat} {L : List Int} (h : CutAt W g e all A c L) (hk : KeepS (fun k => B ≤ k ∧ some k = v.ownBlock ∧ ∃ cs, W.heap[k]? = some (.cells cs 29 (0, 0))) W W') : CutAt W' g e all A c L :=
  h.step (hk.block g h.lt fun e => by
    obtain ⟨_, _, cs, e⟩ := e
    rw [h.blk] at e
    injection e with e
    injection e with _ e
    cases e) fun b cs hb => (hk.block b (lt_heap hb) fun e => by
    obtain ⟨_, _, cs', e⟩ := e
    rw [hb] at e
    injection e with e
    injection e with _ e
    cases e).trans hb

/-! ### Plain: pieces of bytes in two parts -/
theorem range_add (a b : Nat) : List.range (a + b) = List.range a ++ (List.range b).map (a + ·) := by
  rw [List.range_add]
theorem take_of_take {L : List Int} {a n k : Nat} (h : a + n ≤ k) : ((L.take k).drop a).take n = (L.drop a).take n := by
  rw [List.drop_take, List.take_take, Nat.min_eq_left (by omega)]
theorem parted_plain (L : List Int) (each k q1 q2 q3 : Nat) (he : 1 ≤ each) (hk : k ≤ L.length) (h1 : each * q1 ≤ L.length) (h1' : L.length < each * (q1 + 1)) (h2 : each * q2 ≤ k) (h2' : k < each * (q2 + 1))
    (h3 : each * q3 ≤ ((L.take k).drop (each * q2) ++ L.drop k).length) (h3' : ((L.take k).drop (each * q2) ++ L.drop k).length < each * (q3 + 1)) :
    q1 = q2 + q3 ∧ (List.range q1).map (chunk L each) = (List.range q2).map (chunk (L.take k) each) ++ (List.range q3).map (chunk ((L.take k).drop (each * q2) ++ L.drop k) each) ∧ L.drop (each * q1) = ((L.take k).drop (each * q2) ++ L.drop k).drop (each * q3) := by
  have hM : (L.take k).drop (each * q2) ++ L.drop k = L.drop (each * q2) := by
    conv => rhs; rw [← List.take_append_drop k L]
    rw [List.drop_append_of_le_length (by rw [List.length_take]; omega)]
  rw [hM] at h3 h3' ⊢
  rw [List.length_drop] at h3 h3'
  have hq : q1 = q2 + q3 := by
    have e1 : each * q1 < each * (q2 + q3 + 1) := by rw [Nat.mul_add, Nat.mul_add, Nat.mul_one]; rw [Nat.mul_add, Nat.mul_one] at h3'; omega
    have e2 : each * (q2 + q3) < each * (q1 + 1) := by rw [Nat.mul_add]; omega
    have e3 := Nat.lt_of_mul_lt_mul_left e1
    have e4 := Nat.lt_of_mul_lt_mul_left e2
    omega
  subst hq
  refine ⟨rfl, ?_, by rw [List.drop_drop, Nat.mul_add]⟩
  rw [range_add, List.map_append, List.map_map]
  congr 1
  · refine List.map_congr_left fun j hj => ?_
    have hj := List.mem_range.1 hj
    unfold chunk
    have : each * j + each ≤ each * q2 := by rw [← Nat.mul_succ]; exact Nat.mul_le_mul_left _ (by omega)
    exact (take_of_take (by omega)).symm
  · refine List.map_congr_left fun j hj => ?_
    show chunk L each (q2 + j) = chunk (L.drop (each * q2)) each j
    unfold chunk
    rw [List.drop_drop, Nat.mul_add]
end Go.Proofs.Ytoaokmlpeijepaa
