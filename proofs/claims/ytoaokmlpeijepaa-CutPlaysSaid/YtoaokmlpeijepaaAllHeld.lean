/-
  Layer 6: appends of bytes, and where they lie; what CutAll holds.
-/
import Derived.Test.YtoaokmlpeijepaaStill
namespace Go.Proofs.Ytoaokmlpeijepaa
set_option linter.unusedVariables false
set_option linter.unusedSimpArgs false
open Go.RowKit Go.Proofs.YtoaokmlpeijepaaW.PrintWords

/-- append's run, at an own row of bytes. -/
theorem bytes_run2 {W : World} (base : Nat) (v : Value) (xs ys : List Int) (A : Option Addr) (m c : Nat) (ty : TypeId) (HO : W.ownsRow base 5 1 v xs.length (nums .u8 xs)) (HR : ReadsInt W .u8 A m ys) (hbase : base ≤ W.heap.size) (hl : xs.length + m ≤ 140737488355328) :
    ∃ v1 w1, (Builtin.append_ #[29, 29] ty #[v, .slice A m c]).run Try.prog W = .ok v1 w1 ∧ w1.ownsRow base 5 1 v1 (xs ++ ys).length (nums .u8 (xs ++ ys)) ∧ W.grownBy w1 v.ownBlock ∧ (v1.ownBlock = v.ownBlock ∨ v1.ownBlock = some W.heap.size) := by
  obtain ⟨i0, hi, hz0, hz1, hz2⟩ := parts3 info5'
  have ht : Try.prog.underlying 29 = some (.slice 5) := Try.underlying29
  have hm : ys.length = m := HR.1
  have hl2 : (xs ++ ys).length = xs.length + m := by rw [List.length_append, hm]
  have hn2 : nums .u8 (xs ++ ys) = nums .u8 xs ++ nums .u8 ys := by simp [nums]
  rcases A with _ | ad
  · have h0 : m = 0 := by
      rcases Nat.eq_zero_or_pos m with h0 | h0
      · exact h0
      · obtain ⟨ad, h, _⟩ := HR.2.2 h0
        cases h
    subst h0
    obtain rfl : ys = [] := List.eq_nil_of_length_eq_zero hm
    refine ⟨v, W, ?_, by simpa using HO, World.grownBy.refl W _, .inl rfl⟩
    rcases HO.2 with ⟨rfl, hn⟩ | ⟨g, cap, cur, rfl, _, _, hnc, _⟩
    · simp [Builtin.append_, run_underlying ht, sizeOf, typeInfo, hi, Builtin.lenOf, Builtin.firstCells]
    · simp [Builtin.append_, run_underlying ht, sizeOf, typeInfo, hi, Builtin.lenOf, Builtin.firstCells, hnc, storeCells]
  · have hcells : ∀ j u, (nums .u8 ys)[j]? = some u → W.cell? (ad.add j) = some u := by
      intro j u hu
      have hj : j < ys.length := by
        rcases Nat.lt_or_ge j ys.length with h | h
        · exact h
        · simp [nums, List.getElem?_eq_none h] at hu
      obtain ⟨ad', h', hc⟩ := HR.2.2 (by omega)
      injection h' with h'
      subst h'
      have := hc j (by omega)
      simp [nums, List.getElem?_eq_getElem hj] at hu
      subst hu
      rw [this]
      simp [List.getD_eq_getElem?_getD, List.getElem?_eq_getElem hj]
    obtain ⟨v1, w1, hr, h2, h3, _, h5⟩ := run_append_own_at (P := Try.prog) W base 29 ty 5 i0 (.int .u8 0) 1 1 ht hi hz0 hz1 hz2 rfl (by omega) v xs.length (nums .u8 xs) HO ad m c (nums .u8 ys) (by simp [nums, hm]) hcells
      (by intro u hu; simp only [nums, List.mem_map] at hu; obtain ⟨q, _, rfl⟩ := hu; rfl) (by simp only [maxLen]; omega) (by omega) hbase
    refine ⟨v1, w1, hr, ?_, h3, h5⟩
    rw [hl2, hn2]; exact h2

/-- What an append to a row of bytes leaves: all blocks but that row's. -/
theorem keep_of_grown {W w1 : World} {B : Nat} {v : Value} {xs : List Int} (ho : W.ownsRow B 5 1 v xs.length (nums .u8 xs)) (hg : W.grownBy w1 v.ownBlock) {k : Nat} {o : Obj} (hk : W.heap[k]? = some o) (hne : v.ownBlock ≠ some k) : w1.heap[k]? = some o :=
  (hg.block k (lt_heap hk) (fun e => hne e.symm)).trans hk
theorem CutAt.grown {W w1 : World} {g : Nat} {each all : Int} {A : Option Addr} {c : Nat} {M : List Int} (h : CutAt W g each all A c M) {B : Nat} {v : Value} {xs : List Int} (ho : W.ownsRow B 5 1 v xs.length (nums .u8 xs)) (hg : W.grownBy w1 v.ownBlock) (hA : M ≠ [] → ∀ ad, A = some ad → v.ownBlock ≠ some ad.block) : CutAt w1 g each all A c M := by
  refine ⟨keep_of_grown ho hg h.blk (fun e => ?_), h.le, ?_⟩
  · obtain ⟨cs, hcs⟩ := own_typed ho g e
    rw [h.blk] at hcs
    injection hcs with hcs
    injection hcs with _ hcs
    cases hcs
  · rcases h.left with h | ⟨b, off, cs, rfl, hb, hc⟩
    · exact .inl h
    · by_cases hM : M = []
      · exact .inl hM
      · exact .inr ⟨b, off, cs, rfl, keep_of_grown ho hg hb (hA hM _ rfl), hc⟩
theorem own_grown {W w1 : World} {B B' : Nat} {v v' : Value} {n : Nat} {xs : List Int} {ys : List Value} (h : W.ownsRow B' 5 1 v' n ys) (ho : W.ownsRow B 5 1 v xs.length (nums .u8 xs)) (hg : W.grownBy w1 v.ownBlock) (hA : ∀ k, v'.ownBlock = some k → v.ownBlock ≠ some k) : w1.ownsRow B' 5 1 v' n ys := by
  refine h.kept hg ?_
  cases hv : v'.ownBlock with
  | none => exact .inl rfl
  | some k => exact .inr fun e => hA k hv e.symm
theorem own_keep {W w1 : World} {B n : Nat} {v : Value} {e : TypeId} {ys : List Value} (h : W.ownsRow B e 1 v n ys) (hk : ∀ k, v.ownBlock = some k → ∀ cs, W.heap[k]? = some (.cells cs e (0, 0)) → w1.heap[k]? = some (.cells cs e (0, 0))) : w1.ownsRow B e 1 v n ys := by
  rcases h.2 with h0 | ⟨g, cap, cur, e1, h1, h2, h3⟩
  · exact ⟨h.1, .inl h0⟩
  · exact ⟨h.1, .inr ⟨g, cap, cur, e1, h1, hk g (by rw [e1]; rfl) cur h2, h3⟩⟩
theorem own_grows {W w1 : World} {B n : Nat} {v : Value} {e : TypeId} {ys : List Value} (h : W.ownsRow B e 1 v n ys) (hg : Grows W w1) : w1.ownsRow B e 1 v n ys :=
  own_keep h fun k _ cs hcs => (hg.block k (lt_heap hcs)).trans hcs
/-- What CutAll holds: all that was written, what came out, and the cutter. -/
structure Held (W : World) (B g each m : Nat) (T : List Int) (v8 v9 : Value) (A : Option Addr) (c : Nat) : Prop where
  all : W.ownsRow B 5 1 v8 T.length (nums .u8 T)
  got : W.ownsRow B 5 1 v9 (T.take (each * m)).length (nums .u8 (T.take (each * m)))
  cut : CutAt W g each T.length A c (T.drop (each * m))
  apart : ∀ k, v8.ownBlock = some k → v9.ownBlock ≠ some k
  a8 : T.drop (each * m) ≠ [] → ∀ ad, A = some ad → v8.ownBlock ≠ some ad.block
  a9 : T.drop (each * m) ≠ [] → ∀ ad, A = some ad → v9.ownBlock ≠ some ad.block
  le : each * m ≤ T.length
  lt : T.length < each * (m + 1)
/-- A row of bytes stays as a cutter turns. -/
theorem own_cut {W w1 : World} {g : Nat} {e all : Int} {A : Option Addr} {c : Nat} {M : List Int} (hc : CutAt W g e all A c M) (hg : W.grownBy w1 (some g)) {B n : Nat} {v : Value} {ys : List Value} (h : W.ownsRow B 5 1 v n ys) : w1.ownsRow B 5 1 v n ys := by
  refine h.kept hg ?_
  cases hv : v.ownBlock with
  | none => exact .inl rfl
  | some k =>
    refine .inr fun e => ?_
    obtain ⟨cs, hcs⟩ := own_typed h k hv
    injection e with e
    rw [e, hc.blk] at hcs
    injection hcs with hcs
    injection hcs with _ hcs
    cases hcs
theorem Told.mid {W W' : World} {n1 each i : Nat} {v : Value} {xs : List (Nat × Nat)} {L : List Int} (h : Told W n1 v each xs L i) (hs : Stays n1 W W') : Told W' n1 v each xs L i :=
  ⟨h.rows.elim fun chs hr => ⟨chs, hr.1.step hs, hr.2⟩, h.rise⟩
theorem Held.start (W : World) {B g each : Nat} (hx : 1 ≤ each) (hc : CutAt W g each 0 none 0 []) : Held W B g each 0 [] (.slice none 0 0) (.slice none 0 0) none 0 :=
  ⟨own_nil _ _ _ _, own_nil _ _ _ _, hc, (fun _ h => by cases h), (fun _ _ h => by cases h), (fun _ _ h => by cases h), by simp, by simp; omega⟩
/-- What holds while what came out is looked at. -/
structure Looked (w2 W : World) (B N g each n9 : Nat) (T1 : List Int) (v8 v9 : Value) (q : Nat) : Prop where
  all : W.ownsRow B 5 1 v8 T1.length (nums .u8 T1)
  got : W.ownsRow B 5 1 v9 n9 (nums .u8 (T1.take (each * q)))
  mid : ∀ (k : Nat) (o : Obj), N ≤ k → w2.heap[k]? = some o → W.heap[k]? = some o
  gblk : W.heap[g]? = w2.heap[g]?
  place : ∀ k, v9.ownBlock = some k → k < N ∨ w2.heap.size ≤ k
  apart : ∀ k, v8.ownBlock = some k → v9.ownBlock ≠ some k
  size : w2.heap.size ≤ W.heap.size
theorem Looked.cut {w2 W : World} {B N g each n9 q : Nat} {T1 : List Int} {v8 v9 : Value} (h : Looked w2 W B N g each n9 T1 v8 v9 q) {e all : Int} {A : Option Addr} {c : Nat} {L : List Int} (hc : CutAt w2 g e all A c L) (hf : From N A) : CutAt W g e all A c L := by
  refine ⟨h.gblk.trans hc.blk, hc.le, ?_⟩
  rcases hc.left with h0 | ⟨b, off, cs, rfl, hb, hcs⟩
  · exact .inl h0
  · exact .inr ⟨b, off, cs, rfl, h.mid b _ (hf _ rfl) hb, hcs⟩
theorem Looked.step {w2 W w1 : World} {B N g each n9 q : Nat} {T1 : List Int} {v8 v9 v1 : Value} (h : Looked w2 W B N g each n9 T1 v8 v9 q) {gb : Array Value} (hgb : w2.heap[g]? = some (.cells gb 45 (0, 0))) {n1 : Nat} (ho : w1.ownsRow B 5 1 v1 n1 (nums .u8 (T1.take (each * (q + 1))))) (hg : W.grownBy w1 v9.ownBlock) (hp : v1.ownBlock = v9.ownBlock ∨ v1.ownBlock = some W.heap.size) : Looked w2 w1 B N g each n1 T1 v8 v1 (q + 1) := by
  have hty : ∀ k, v9.ownBlock = some k → ∃ cs, W.heap[k]? = some (.cells cs 5 (0, 0)) := own_typed h.got
  refine ⟨?_, ho, fun k o hN hk => ?_, ?_, fun k hk => ?_, fun k hk e => ?_, Nat.le_trans h.size hg.size⟩
  · refine h.all.kept hg ?_
    cases hv : v8.ownBlock with
    | none => exact .inl rfl
    | some k => exact .inr fun e => h.apart k hv e.symm
  · have hk' := h.mid k o hN hk
    refine (hg.block k (lt_heap hk') fun e => ?_).trans hk'
    have := lt_heap hk
    rcases h.place k e.symm with h1 | h1 <;> omega
  · have hgW := h.gblk.trans hgb
    refine (hg.block g (lt_heap hgW) fun e => ?_).trans h.gblk
    obtain ⟨cs, hcs⟩ := hty g e.symm
    rw [hgW] at hcs
    injection hcs with hcs
    injection hcs with _ hcs
    cases hcs
  · rcases hp with hp | hp
    · exact h.place k (by rw [← hp]; exact hk)
    · rw [hp] at hk
      injection hk with hk
      have := h.size
      right; omega
  · rcases hp with hp | hp
    · exact h.apart k hk (by rw [← hp]; exact e)
    · rw [hp] at e
      injection e with e
      have := (h.all.lt k hk).2
      omega

/-! ### Plain -/
theorem held_plain (T x : List Int) (each m : Nat) (h : each * m ≤ T.length) : T.drop (each * m) ++ x = (T ++ x).drop (each * m) := by
  rw [List.drop_append_of_le_length h]
theorem chunk_plain (T : List Int) (each m k : Nat) : T.take (each * (m + k)) ++ chunk (T.drop (each * m)) each k = T.take (each * (m + k + 1)) := by
  unfold chunk
  rw [List.drop_drop, ← Nat.mul_add, Nat.mul_succ, List.take_add]
theorem quot_plain (T each m : Nat) (he : 1 ≤ each) (h1 : each * m ≤ T) (h2 : T < each * (m + 1)) : T / each = m := by
  have e : T = (T - each * m) + each * m := by omega
  rw [e, Nat.add_mul_div_left _ _ (by omega), Nat.div_eq_of_lt (by rw [Nat.mul_succ] at h2; omega)]
  omega
end Go.Proofs.Ytoaokmlpeijepaa
