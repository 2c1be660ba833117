/-
  append of bytes at a row of one's own.
-/
import Derived.Test.YtoaokmlpeijepaaRange
import Derived.Deep.AppendLies
namespace Go.Proofs.Ytoaokmlpeijepaa
set_option linter.unusedVariables false
set_option linter.unusedSimpArgs false
open Go.RowKit Go.Proofs.YtoaokmlpeijepaaW.PrintWords

theorem info5' : (Try.prog.info? 5).map (fun i => (i.zero, i.size, i.bytes)) = some (some (.int .u8 0), 1, 1) := by kernel_rfl
theorem info3' : (Try.prog.info? 3).map (fun i => (i.zero, i.size, i.bytes)) = some (some (.int .i64 0), 1, 8) := by kernel_rfl
theorem parts3 {t : TypeId} {z : Value} {s b : Nat} (h : (Try.prog.info? t).map (fun i => (i.zero, i.size, i.bytes)) = some (some z, s, b)) : ∃ i, Try.prog.info? t = some i ∧ i.zero = some z ∧ i.size = s ∧ i.bytes = b := by
  obtain ⟨i, hi, hz⟩ := Option.map_eq_some_iff.1 h
  simp only [Prod.mk.injEq] at hz
  exact ⟨i, hi, hz.1, hz.2.1, hz.2.2⟩
/-- append's run, at an own row of bytes. -/
theorem bytes_run {W : World} (base : Nat) (v : Value) (xs ys : List Int) (A : Option Addr) (m c : Nat) (ty : TypeId) (HO : W.ownsRow base 5 1 v xs.length (nums .u8 xs)) (HR : ReadsInt W .u8 A m ys) (hbase : base ≤ W.heap.size) (hl : xs.length + m ≤ 140737488355328) :
    ∃ v1 w1, (Builtin.append_ #[29, 29] ty #[v, .slice A m c]).run Try.prog W = .ok v1 w1 ∧ w1.ownsRow base 5 1 v1 (xs ++ ys).length (nums .u8 (xs ++ ys)) ∧ W.grownBy w1 v.ownBlock := by
  obtain ⟨i0, hi, hz0, hz1, hz2⟩ := parts3 info5'
  have ht : Try.prog.underlying 29 = some (.slice 5) := Try.underlying29
  have hm : ys.length = m := HR.1
  have hl2 : (xs ++ ys).length = xs.length + m := by rw [List.length_append, hm]
  have hn2 : nums .u8 (xs ++ ys) = nums .u8 xs ++ nums .u8 ys := by simp [nums]
  rcases A with _ | ad
  · have h0 : m = 0 := by
      rcases Nat.eq_zero_or_pos m with h0 | h0
      · exact h0
      · obtain ⟨ad, h, _⟩ := HR.2.2 h0
        cases h
    subst h0
    obtain rfl : ys = [] := List.eq_nil_of_length_eq_zero hm
    refine ⟨v, W, ?_, by simpa using HO, World.grownBy.refl W _⟩
    rcases HO.2 with ⟨rfl, hn⟩ | ⟨g, cap, cur, rfl, _, _, hnc, _⟩
    · simp [Builtin.append_, run_underlying ht, sizeOf, typeInfo, hi, Builtin.lenOf, Builtin.firstCells]
    · simp [Builtin.append_, run_underlying ht, sizeOf, typeInfo, hi, Builtin.lenOf, Builtin.firstCells, hnc, storeCells]
  · have hcells : ∀ j u, (nums .u8 ys)[j]? = some u → W.cell? (ad.add j) = some u := by
      intro j u hu
      have hj : j < ys.length := by
        rcases Nat.lt_or_ge j ys.length with h | h
        · exact h
        · simp [nums, List.getElem?_eq_none h] at hu
      obtain ⟨ad', h', hc⟩ := HR.2.2 (by omega)
      injection h' with h'
      subst h'
      have := hc j (by omega)
      simp [nums, List.getElem?_eq_getElem hj] at hu
      subst hu
      rw [this]
      simp [List.getD_eq_getElem?_getD, List.getElem?_eq_getElem hj]
    obtain ⟨v1, w1, hr, h2, h3, _, h5⟩ := run_append_own_at (P := Try.prog) W base 29 ty 5 i0 (.int .u8 0) 1 1 ht hi hz0 hz1 hz2 rfl (by omega) v xs.length (nums .u8 xs) HO ad m c (nums .u8 ys) (by simp [nums, hm]) hcells
      (by intro u hu; simp only [nums, List.mem_map] at hu; obtain ⟨q, _, rfl⟩ := hu; rfl) (by simp only [maxLen]; omega) (by omega) hbase
    refine ⟨v1, w1, hr, ?_, h3⟩
    rw [hl2, hn2]; exact h2
theorem wpList_bytes {ops : Array Oper} {rest : List Oper} {o : Oper} {a : Act} {W : World} {Q : Exit → Act → World → Prop} (B : Nat) (s x : Operand) (hgd : o.guard = none)
    (ho : o.op = .call { callee := .builtin .append, args := #[s, x], argTypes := #[29, 29] }) (xs ys : List Int) {v : Value} {A : Option Addr} {m c : Nat} (hs : a.eval s = v) (hx : a.eval x = .slice A m c)
    (HO : W.ownsRow B 5 1 v xs.length (nums .u8 xs)) (HR : ReadsInt W .u8 A m ys) (HB : B ≤ W.heap.size) (hl : xs.length + m ≤ 140737488355328)
    (h : ∀ v1 w1, w1.ownsRow B 5 1 v1 (xs ++ ys).length (nums .u8 (xs ++ ys)) → Below B W w1 → W.grownBy w1 v.ownBlock → wpList Try.prog ops Q rest (a.put o.dst v1) w1) : wpList Try.prog ops Q (o :: rest) a W := by
  obtain ⟨v1, w1, hr, h2, h3⟩ := bytes_run (W := W) B v xs ys A m c o.type HO HR HB hl
  refine wpList_plain hgd fun K hK => ?_
  unfold Oper.wp execOp
  simp only [ho, resolve, invoke, builtin, Sem.run_bind, Sem.run_pure, Result.andThen_ok, List.map_toArray, List.map_cons, List.map_nil, hs, hx, hr]
  exact hK _ _ (h v1 w1 h2 ((Below.refl B W).grown h3 HB (fun k hk => (HO.lt k hk).1)) h3)
theorem step_bytes {ops : Array Oper} {o : Oper} {a : Act} {W : World} {K : Act → World → Prop} {Q : Exit → Act → World → Prop} {E : Prop} (B : Nat) (s x : Operand) (hgd : o.guard = none)
    (ho : o.op = .call { callee := .builtin .append, args := #[s, x], argTypes := #[29, 29] }) (xs ys : List Int) {v : Value} {A : Option Addr} {m c : Nat} (hs : a.eval s = v) (hx : a.eval x = .slice A m c)
    (HO : W.ownsRow B 5 1 v xs.length (nums .u8 xs)) (HR : ReadsInt W .u8 A m ys) (HB : B ≤ W.heap.size) (hl : xs.length + m ≤ 140737488355328)
    (h : ∀ v1 w1, w1.ownsRow B 5 1 v1 (xs ++ ys).length (nums .u8 (xs ++ ys)) → Below B W w1 → K (a.put o.dst v1) w1) :
    if Region.wanted o (yielded ops a.tmps) = true then Oper.wp Try.prog o a W K Q else E := by
  have hw : Region.wanted o (yielded ops a.tmps) = true := by simp [Region.wanted, hgd]
  rw [if_pos hw]
  obtain ⟨v1, w1, hr, h2, h3⟩ := bytes_run (W := W) B v xs ys A m c o.type HO HR HB hl
  unfold Oper.wp execOp
  simp only [ho, resolve, invoke, builtin, Sem.run_bind, Sem.run_pure, Result.andThen_ok, List.map_toArray, List.map_cons, List.map_nil, hs, hx, hr]
  exact h v1 w1 h2 ((Below.refl B W).grown h3 HB (fun k hk => (HO.lt k hk).1))
/-- Two own rows of unlike types. -/
theorem own_apart {W w1 : World} {B B' : Nat} {e e' : TypeId} {size size' n n' : Nat} {v v' : Value} {xs xs' : List Value} (h : W.ownsRow B e size v n xs) (h' : W.ownsRow B' e' size' v' n' xs') (hne : e ≠ e') (hg : W.grownBy w1 v'.ownBlock) : w1.ownsRow B e size v n xs := by
  refine h.kept hg ?_
  cases hv : v.ownBlock with
  | none => exact .inl rfl
  | some k =>
    right
    intro e2
    obtain ⟨c1, h1⟩ := own_typed h k hv
    obtain ⟨c2, h2⟩ := own_typed h' k e2.symm
    rw [h1] at h2
    injection h2 with h2
    injection h2 with _ h3
    exact hne h3
theorem readsU8 {w : World} {A : Option Addr} {n : Nat} {xs : List Int} (h : Kd.C (Kd.int .u8) w A n xs) : ReadsInt w .u8 A n xs := by
  refine ⟨h.1, h.2.1, fun hn => ?_⟩
  obtain ⟨ad, e, hc⟩ := h.2.2 hn
  refine ⟨ad, e, fun j hj => ?_⟩
  have hl : j < xs.length := by rw [h.1]; exact hj
  obtain ⟨c, _, hK, hu⟩ := hc j xs[j] (List.getElem?_eq_getElem hl)
  have hK' : c = [.int .u8 xs[j]] := hK
  subst hK'
  have := hu 0 _ rfl
  have e2 : (Kd.int .u8).sz = 1 := rfl
  rw [e2, Nat.mul_one, Nat.add_zero] at this
  rw [this, List.getD_eq_getElem?_getD, List.getElem?_eq_getElem hl]
  rfl
end Go.Proofs.Ytoaokmlpeijepaa
