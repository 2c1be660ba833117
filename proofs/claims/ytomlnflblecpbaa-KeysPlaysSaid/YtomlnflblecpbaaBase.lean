/-
  Bytes, rows and strings: small laws that every layer wants.
-/
import Derived.Test.YtomlnflblecpbaaProg
import Derived.Test.YtomlnflblecpbaaWWords
import Derived.Test.YtomlnflblecpbaaOwn
import Derived.Deep.AppendLies
import Derived.Laws.BytesArg
import Derived.Laws.MakeOwn
import Derived.Lib.AppendStr
import Derived.Lib.ConvBytes
import Derived.DataElems
import Derived.IntWalk
namespace Go.Proofs.Ytomlnflblecpbaa
set_option linter.unusedVariables false
set_option linter.unusedSimpArgs false
open Go.RowKit Go.Proofs.YtomlnflblecpbaaW.PrintWords

theorem info5' : (Try.prog.info? 5).map (fun i => (i.zero, i.size, i.bytes)) = some (some (.int .u8 0), 1, 1) := by kernel_rfl
theorem parts3 {t : TypeId} {z : Value} {s b : Nat} (h : (Try.prog.info? t).map (fun i => (i.zero, i.size, i.bytes)) = some (some z, s, b)) : ∃ i, Try.prog.info? t = some i ∧ i.zero = some z ∧ i.size = s ∧ i.bytes = b := by
  obtain ⟨i, hi, hz⟩ := Option.map_eq_some_iff.1 h
  simp only [Prod.mk.injEq] at hz
  exact ⟨i, hi, hz.1, hz.2.1, hz.2.2⟩
theorem lt_heap {W : World} {k : Nat} {o : Obj} (h : W.heap[k]? = some o) : k < W.heap.size := (Array.getElem?_eq_some_iff.1 h).1
theorem grown_trans {A B C : World} {r : Option Nat} (h : A.grownBy B r) (k : B.grownBy C r) : A.grownBy C r :=
  ⟨k.os.trans h.os, k.tape.trans h.tape, k.output.trans h.output, Nat.le_trans h.size k.size, fun i hi hne => (k.block i (Nat.lt_of_lt_of_le hi h.size) hne).trans (h.block i hi hne)⟩
theorem grown_set (W : World) (g i : Nat) (u : Value) : W.grownBy (W.setCell ⟨g, i, none⟩ u) (some g) :=
  ⟨rfl, rfl, rfl, by rw [World.size_setCell]; exact Nat.le_refl _, fun k hk hne => Below.heap_setCell W ⟨g, i, none⟩ u k (fun e => hne (by rw [e]))⟩
theorem set_other (W : World) (b k : Nat) (u : Value) {c : Nat} {o : Obj} (hc : W.heap[c]? = some o) (hne : c ≠ b) : (W.setCell ⟨b, k, none⟩ u).heap[c]? = some o := (Below.heap_setCell W ⟨b, k, none⟩ u c hne).trans hc
theorem own_slice {W : World} {B t sz : Nat} {v : Value} {n : Nat} {xs : List Value} (h : W.ownsRow B t sz v n xs) : ∃ A c, v = .slice A n c ∧ n ≤ c := by
  rcases h.2 with ⟨e, h0⟩ | ⟨g, cap, cur, e, _, _, h3, _⟩
  · exact ⟨none, 0, by rw [e, h0], by omega⟩
  · exact ⟨_, cap, e, h3⟩
theorem own_keep {W w1 : World} {B n sz : Nat} {v : Value} {e : TypeId} {ys : List Value} (h : W.ownsRow B e sz v n ys) (hk : ∀ k, v.ownBlock = some k → B ≤ k → ∀ cs, W.heap[k]? = some (.cells cs e (0, 0)) → w1.heap[k]? = some (.cells cs e (0, 0))) : w1.ownsRow B e sz v n ys := by
  rcases h.2 with h0 | ⟨g, cap, cur, e1, h1, h2, h3⟩
  · exact ⟨h.1, .inl h0⟩
  · exact ⟨h.1, .inr ⟨g, cap, cur, e1, h1, hk g (by rw [e1]; rfl) h1 cur h2, h3⟩⟩
theorem own_grows {W w1 : World} {B n sz : Nat} {v : Value} {e : TypeId} {ys : List Value} (h : W.ownsRow B e sz v n ys) (hg : Grows W w1) : w1.ownsRow B e sz v n ys :=
  own_keep h fun k _ _ cs hcs => (hg.block k (lt_heap hcs)).trans hcs
theorem own_mono {W : World} {B B' e size n : Nat} {v : Value} {xs : List Value} (h : W.ownsRow B e size v n xs) (hB : B' ≤ B) : W.ownsRow B' e size v n xs := by
  rcases h.2 with h0 | ⟨g, cap, cur, e1, h1, h2⟩
  · exact ⟨h.1, .inl h0⟩
  · exact ⟨h.1, .inr ⟨g, cap, cur, e1, Nat.le_trans hB h1, h2⟩⟩
theorem reads_take {w : World} {k : IntKind} {A : Option Addr} {n : Nat} {b : List Int} (h : ReadsInt w k A n b) (m : Nat) (hm : m ≤ n) : ReadsInt w k A m (b.take m) := by
  have h0 := h.1
  have h1 := h.2.1
  refine ⟨by rw [List.length_take]; omega, by omega, fun hn => ?_⟩
  obtain ⟨ad, e, hc⟩ := h.2.2 (by omega)
  refine ⟨ad, e, fun j hj => ?_⟩
  rw [hc j (by omega), List.getD_eq_getElem?_getD, List.getD_eq_getElem?_getD, List.getElem?_take, if_pos hj]
theorem reads_drop {w : World} {k : IntKind} {A : Option Addr} {n : Nat} {b : List Int} (h : ReadsInt w k A n b) (m c : Nat) (hm : m ≤ n) (hc : n ≤ c) : ReadsInt w k (if c = m then A else A.map (·.add m)) (n - m) (b.drop m) := by
  have h0 := h.1
  have h1 := h.2.1
  refine ⟨by rw [List.length_drop]; omega, by omega, fun hn => ?_⟩
  obtain ⟨ad, e, hcl⟩ := h.2.2 (by omega)
  subst e
  rw [if_neg (by omega)]
  refine ⟨ad.add m, rfl, fun j hj => ?_⟩
  rw [Addr.add_add, hcl (m + j) (by omega), List.getD_eq_getElem?_getD, List.getD_eq_getElem?_getD, List.getElem?_drop]
/-- A read row stays as a cell that holds no number of its kind turns. -/
theorem reads_set {w : World} {g i : Nat} {u x : Value} {k : IntKind} {A : Option Addr} {m : Nat} {b : List Int} (h : ReadsInt w k A m b) (hx : w.cell? ⟨g, i, none⟩ = some x) (hne : ∀ z, x ≠ .int k z) : ReadsInt (w.setCell ⟨g, i, none⟩ u) k A m b := by
  refine ⟨h.1, h.2.1, fun hm => ?_⟩
  obtain ⟨ad, e, hc⟩ := h.2.2 hm
  refine ⟨ad, e, fun j hj => ?_⟩
  rw [World.cell?_setCell_other]
  · exact hc j hj
  · intro e2
    have := hc j hj
    rw [← e2, hx] at this
    exact hne _ (Option.some.inj this)
theorem str_size (xs : List Int) : (strOfNums xs).size = xs.length := by simp [strOfNums, ByteArray.size]
theorem str_append (xs ys : List Int) : strOfNums xs ++ strOfNums ys = strOfNums (xs ++ ys) := by
  apply ByteArray.ext
  simp [strOfNums]
theorem str_extract (xs : List Int) (a b : Nat) (hb : b ≤ xs.length) : (strOfNums xs).extract a b = strOfNums ((xs.take b).drop a) := by
  apply ByteArray.ext
  simp [strOfNums, List.extract_eq_take_drop, List.map_take, List.map_drop, List.drop_take]
def u8s (xs : List Int) : Prop := ∀ x ∈ xs, 0 ≤ x ∧ x < 256
theorem u8s_take {xs : List Int} (h : u8s xs) (n : Nat) : u8s (xs.take n) := fun x hx => h x (List.mem_of_mem_take hx)
theorem u8s_drop {xs : List Int} (h : u8s xs) (n : Nat) : u8s (xs.drop n) := fun x hx => h x (List.mem_of_mem_drop hx)
theorem u8s_append {xs ys : List Int} (h : u8s xs) (k : u8s ys) : u8s (xs ++ ys) := fun x hx => (List.mem_append.1 hx).elim (h x) (k x)
/-- The bytes of a string. -/
def numsOf (s : ByteArray) : List Int := s.data.toList.map fun b => (b.toNat : Int)
theorem numsOf_u8s (s : ByteArray) : u8s (numsOf s) := by
  intro x hx
  obtain ⟨b, _, rfl⟩ := List.mem_map.1 hx
  have := b.toNat_lt
  omega
theorem numsOf_length (s : ByteArray) : (numsOf s).length = s.size := by
  unfold numsOf
  rw [List.length_map, Array.length_toList]
  rfl
theorem str_numsOf (s : ByteArray) : strOfNums (numsOf s) = s := by
  apply ByteArray.ext
  apply Array.ext'
  simp only [strOfNums, numsOf, List.map_map]
  conv => rhs; rw [← List.map_id s.data.toList]
  refine List.map_congr_left fun b _ => ?_
  simp
theorem numsOf_str {xs : List Int} (h : u8s xs) : numsOf (strOfNums xs) = xs := by
  simp only [numsOf, strOfNums, List.map_map]
  conv => rhs; rw [← List.map_id xs]
  refine List.map_congr_left fun x hx => ?_
  have := h x hx
  simp only [Function.comp, UInt8.toNat_ofNat', id]
  omega
theorem str_inj {xs ys : List Int} (hx : u8s xs) (hy : u8s ys) (h : strOfNums xs = strOfNums ys) : xs = ys := by
  rw [← numsOf_str hx, ← numsOf_str hy, h]
/-- string(b). -/
theorem conv_str {T : TypeId} (hT : Try.prog.underlying T = some (.slice 5)) {w : World} {A : Option Addr} {n : Nat} {xs : List Int} (h : ReadsInt w .u8 A n xs) (c : Nat) : (convert T 9 (.slice A n c)).run Try.prog w = .ok (.string (strOfNums xs)) w := by
  have hn : xs.length = n := h.1
  rcases Nat.eq_zero_or_pos n with h0 | h0
  · subst h0
    obtain rfl : xs = [] := List.eq_nil_of_length_eq_zero hn
    rcases A with _ | ad
    · exact run_convert_bytes_nil w T 5 hT Try.underlying5 0 c 9 Try.underlying9
    · rw [run_convert_bytes_string w T 9 5 _ 0 c hT Try.underlying5 Try.underlying9, run_bytesToString w _ 0 c [] (by simpa using run_loadCells_list (P := Try.prog) w ad [] (fun j v hj => by simp at hj))]
      rfl
  · obtain ⟨ad, rfl, hc⟩ := h.2.2 h0
    have hl : (loadCells ad n).run Try.prog w = .ok (xs.map (Value.int .u8)).toArray w := by
      have := run_loadCells_list (P := Try.prog) w ad (xs.map (Value.int .u8)) (fun j v hj => by
        have hjl : j < xs.length := by
          rcases Nat.lt_or_ge j xs.length with h | h
          · exact h
          · simp [List.getElem?_eq_none (show (xs.map (Value.int .u8)).length ≤ j by simpa using h)] at hj
        rw [hc j (by omega)]
        simp [List.getElem?_eq_getElem hjl] at hj
        subst hj
        simp [List.getD, List.getElem?_eq_getElem hjl])
      simpa [hn] using this
    rw [run_convert_bytes_string w T 9 5 _ n c hT Try.underlying5 Try.underlying9, run_bytesToString w _ n c xs hl, foldl_push_bytes]
    simp [strOfNums, ByteArray.empty, ByteArray.emptyWithCapacity]
    rfl
/-- Bytes that a conversion made: their row bears a mark. -/
def Row5 (W : World) (B : Nat) (x : Nat × Nat) (ch : List Int) : Prop := B ≤ x.1 ∧ ch.length ≤ x.2 ∧ ∃ cs fr, W.heap[x.1]? = some (.cells cs 5 fr) ∧ ∀ j, j < ch.length → cs[j]? = some (.int .u8 (ch.getD j 0))
theorem Row5.kept {W W' : World} {B : Nat} {x : Nat × Nat} {ch : List Int} (h : Row5 W B x ch) (hk : ∀ cs fr, W.heap[x.1]? = some (Obj.cells cs 5 fr) → W'.heap[x.1]? = some (.cells cs 5 fr)) : Row5 W' B x ch :=
  ⟨h.1, h.2.1, h.2.2.elim fun cs h => h.elim fun fr h => ⟨cs, fr, hk cs fr h.1, h.2⟩⟩
theorem Row5.reads {W : World} {B : Nat} {x : Nat × Nat} {ch : List Int} (h : Row5 W B x ch) (hm : ch.length ≤ 9223372036854775807) : ReadsInt W .u8 (some ⟨x.1, 0, none⟩) ch.length ch := by
  obtain ⟨cs, fr, hcs, hj⟩ := h.2.2
  refine ⟨rfl, hm, fun _ => ⟨_, rfl, fun j hj' => ?_⟩⟩
  rw [add_plain, cell_of_row W x.1 j cs 5 fr hcs]
  exact hj j hj'
/-- []byte(s). -/
theorem conv_bytes {T : TypeId} (hT : Try.prog.underlying T = some (.slice 5)) (w : World) (xs : List Int) (hx : u8s xs) : ∃ c w1, (convert 9 T (.string (strOfNums xs))).run Try.prog w = .ok (.slice (some ⟨w.heap.size, 0, none⟩) xs.length c) w1 ∧ Row5 w1 w.heap.size (w.heap.size, c) xs ∧ Grows w w1 := by
  refine ⟨grownCap w (strOfNums xs).size 0 5, Lib.bytesWorld w 5 (strOfNums xs), ?_, ⟨Nat.le_refl _, by rw [← str_size xs]; exact grownCap_ge _ _ _ _, _, _, Lib.bytesWorld_at_new w 5 _, fun j hj => ?_⟩, ⟨rfl, rfl, rfl, by rw [Lib.bytesWorld_size]; omega, fun k hk => Lib.bytesWorld_at_old w 5 _ k hk⟩⟩
  · have := Lib.run_convert_string_bytes (P := Try.prog) w 9 T 5 (strOfNums xs) Try.underlying9 hT Try.underlying5
    rw [str_size] at this ⊢
    exact this
  · unfold Lib.bytesCells
    rw [Array.getElem?_append_left (by simp [strOfNums]; exact hj)]
    simp only [strOfNums, Array.getElem?_map, List.getElem?_toArray, List.getElem?_map, List.getElem?_eq_getElem hj, Option.map_some, List.getD_eq_getElem?_getD, Option.getD_some]
    have := hx _ (List.getElem_mem hj)
    congr 2
    simp only [UInt8.toNat_ofNat']
    omega
/-! ### append of bytes, at a row of one's own -/
/-- An append's second argument of another type of slice is as one of the first's type. -/
theorem append_types {t u e e' ty : TypeId} (ht : Try.prog.underlying t = some (.slice e)) (hu : Try.prog.underlying u = some (.slice e')) (b : Option Addr) (n c : Nat) (x : Value) (w : World) :
    (Builtin.append_ #[t, u] ty #[.slice b n c, x]).run Try.prog w = (Builtin.append_ #[t, t] ty #[.slice b n c, x]).run Try.prog w := by
  simp only [Builtin.append_, Sem.run_bind, run_underlying ht, run_underlying hu, Result.andThen_ok, List.getElem?_toArray, List.getElem?_cons_zero, List.getElem?_cons_succ, Sem.run_pure]
theorem bytes_run {t u ty : TypeId} (ht : Try.prog.underlying t = some (.slice 5)) (hu : Try.prog.underlying u = some (.slice 5)) {W : World} (base : Nat) (v : Value) (xs ys : List Int) (A : Option Addr) (m c : Nat) (HO : W.ownsRow base 5 1 v xs.length (nums .u8 xs)) (HR : ReadsInt W .u8 A m ys) (hbase : base ≤ W.heap.size) (hl : xs.length + m ≤ 140737488355328) :
    ∃ v1 w1, (Builtin.append_ #[t, u] ty #[v, .slice A m c]).run Try.prog W = .ok v1 w1 ∧ w1.ownsRow base 5 1 v1 (xs ++ ys).length (nums .u8 (xs ++ ys)) ∧ W.grownBy w1 v.ownBlock ∧ (v1.ownBlock = v.ownBlock ∨ v1.ownBlock = some W.heap.size) := by
  obtain ⟨b0, c0, ev, _⟩ := own_slice HO
  have hty : (Builtin.append_ #[t, u] ty #[v, .slice A m c]).run Try.prog W = (Builtin.append_ #[t, t] ty #[v, .slice A m c]).run Try.prog W := by rw [ev]; exact append_types ht hu _ _ _ _ _
  rw [hty]
  clear hty ev
  obtain ⟨i0, hi, hz0, hz1, hz2⟩ := parts3 info5'
  have hm : ys.length = m := HR.1
  have hl2 : (xs ++ ys).length = xs.length + m := by rw [List.length_append, hm]
  have hn2 : nums .u8 (xs ++ ys) = nums .u8 xs ++ nums .u8 ys := by simp [nums]
  rcases A with _ | ad
  · have h0 : m = 0 := by
      rcases Nat.eq_zero_or_pos m with h0 | h0
      · exact h0
      · obtain ⟨ad, h, _⟩ := HR.2.2 h0
        cases h
    subst h0
    obtain rfl : ys = [] := List.eq_nil_of_length_eq_zero hm
    refine ⟨v, W, ?_, by simpa using HO, World.grownBy.refl W _, .inl rfl⟩
    rcases HO.2 with ⟨rfl, hn⟩ | ⟨g, cap, cur, rfl, _, _, hnc, _⟩
    · simp [Builtin.append_, run_underlying ht, sizeOf, typeInfo, hi, Builtin.lenOf, Builtin.firstCells]
    · simp [Builtin.append_, run_underlying ht, sizeOf, typeInfo, hi, Builtin.lenOf, Builtin.firstCells, hnc, storeCells]
  · have hcells : ∀ j u, (nums .u8 ys)[j]? = some u → W.cell? (ad.add j) = some u := by
      intro j u hu
      have hj : j < ys.length := by
        rcases Nat.lt_or_ge j ys.length with h | h
        · exact h
        · simp [nums, List.getElem?_eq_none h] at hu
      obtain ⟨ad', h', hc⟩ := HR.2.2 (by omega)
      injection h' with h'
      subst h'
      have := hc j (by omega)
      simp [nums, List.getElem?_eq_getElem hj] at hu
      subst hu
      rw [this]
      simp [List.getD_eq_getElem?_getD, List.getElem?_eq_getElem hj]
    obtain ⟨v1, w1, hr, h2, h3, _, h5⟩ := run_append_own_at (P := Try.prog) W base t ty 5 i0 (.int .u8 0) 1 1 ht hi hz0 hz1 hz2 rfl (by omega) v xs.length (nums .u8 xs) HO ad m c (nums .u8 ys) (by simp [nums, hm]) hcells
      (by intro u hu; simp only [nums, List.mem_map] at hu; obtain ⟨q, _, rfl⟩ := hu; rfl) (by simp only [maxLen]; omega) (by omega) hbase
    refine ⟨v1, w1, hr, ?_, h3, h5⟩
    rw [hl2, hn2]; exact h2
theorem strCells_nums (s : ByteArray) : Lib.strCells s = nums .u8 (numsOf s) := by
  simp [Lib.strCells, nums, numsOf]
theorem bytes_run_str {t u ty : TypeId} (ht : Try.prog.underlying t = some (.slice 5)) (hu : Try.prog.underlying u = some .string) {W : World} (base : Nat) (v : Value) (xs : List Int) (s : ByteArray) (HO : W.ownsRow base 5 1 v xs.length (nums .u8 xs)) (hbase : base ≤ W.heap.size) (hl : xs.length + s.size ≤ 140737488355328) :
    ∃ v1 w1, (Builtin.append_ #[t, u] ty #[v, .string s]).run Try.prog W = .ok v1 w1 ∧ w1.ownsRow base 5 1 v1 (xs ++ numsOf s).length (nums .u8 (xs ++ numsOf s)) ∧ W.grownBy w1 v.ownBlock := by
  obtain ⟨i0, hi, hz0, hz1, hz2⟩ := parts3 info5'
  obtain ⟨v1, w1, hr, h2, h3, _⟩ := Lib.run_append_own_string (P := Try.prog) W base t u ty 5 i0 ht hu hi hz0 hz1 hz2 v xs.length (nums .u8 xs) HO s (by simp only [maxLen]; omega) hl hbase
  refine ⟨v1, w1, hr, ?_, h3⟩
  rw [List.length_append, numsOf_length, show nums .u8 (xs ++ numsOf s) = nums .u8 xs ++ nums .u8 (numsOf s) by simp [nums], ← strCells_nums]
  exact h2
end Go.Proofs.Ytomlnflblecpbaa
