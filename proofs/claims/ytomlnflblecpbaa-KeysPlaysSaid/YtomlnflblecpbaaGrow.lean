/-
  A region that draws its order, whose operations read, or make memory, or call what makes memory, and write nothing that was there: one walk, in the order of the text, serves every order.
-/
import Derived.CallsIn
import Derived.OrdersIn
import Derived.RangeFuncCalls
import Derived.Still
import Derived.Below
import Derived.Laws.Rows
namespace Go.Proofs.Ytomlnflblecpbaa
set_option linter.unusedVariables false
set_option linter.unusedSimpArgs false
open Go.RowKit
section
variable {P : Program}

def growUpon (P : Program) (R : Value → World → Prop) : Result Next → Prop
  | .ok (.value u) w' => R u w'
  | .ok .skip w' => R undef w'
  | .ok (.enter f args) w' => Calls P f args w' fun e w'' => ∃ v, e = .returned v ∧ R v w''
  | _ => False

structure growAt (P : Program) (o : Oper) (a : Act) (w : World) (R : Value → World → Prop) : Prop where mk :: (out : growUpon P R ((execOp a.eval o).run P w))

/-- One block is another, but for its mark. -/
def Bare (cs : Array Value) (fr : Nat × Nat) : Prop := fr.1 = fr.2 ∨ cs.size ≤ fr.1
def SameObj (o o' : Obj) : Prop := o = o' ∨ ∃ cs t fr fr', o = .cells cs t fr ∧ o' = .cells cs t fr' ∧ Bare cs fr ∧ Bare cs fr'
/-- Memory has grown: what lay below B is as it was; what lay beyond it too, but for marks. -/
structure Ext (B : Nat) (w w' : World) : Prop where
  below : Below B w w'
  objs : ∀ (k : Nat) (o : Obj), w.heap[k]? = some o → ∃ o', w'.heap[k]? = some o' ∧ SameObj o o'
theorem Ext.refl (B : Nat) (w : World) : Ext B w w := ⟨Below.refl _ _, fun _ o h => ⟨o, h, .inl rfl⟩⟩
theorem Ext.trans {B : Nat} {a b c : World} (h : Ext B a b) (k : Ext B b c) : Ext B a c :=
  ⟨h.below.trans k.below, fun i o ho => by
    obtain ⟨o1, h1, s1⟩ := h.objs i o ho
    obtain ⟨o2, h2, s2⟩ := k.objs i o1 h1
    refine ⟨o2, h2, ?_⟩
    rcases s1 with rfl | ⟨cs, t, fr, fr', rfl, rfl, b1, b2⟩
    · exact s2
    · rcases s2 with rfl | ⟨cs2, t2, fr2, fr2', e, rfl, b3, b4⟩
      · exact .inr ⟨cs, t, fr, fr', rfl, rfl, b1, b2⟩
      · cases e; exact .inr ⟨cs, t, fr, fr2', rfl, rfl, b1, b4⟩⟩
theorem Ext.of_below {B : Nat} {w w' : World} (hB : B ≤ w.heap.size) (h : Below w.heap.size w w') : Ext B w w' :=
  ⟨h.mono hB, fun k o ho => ⟨o, (h.block k (Array.getElem?_eq_some_iff.1 ho).1).trans ho, .inl rfl⟩⟩
theorem Ext.cell {B : Nat} {w w' : World} (h : Ext B w w') {p : Addr} {v : Value} (hc : w.cell? p = some v) : w'.cell? p = some v := by
  cases ho : w.heap[p.block]? with
  | none => simp [World.cell?, ho] at hc
  | some o =>
    obtain ⟨o', h1, s⟩ := h.objs p.block o ho
    rcases s with rfl | ⟨cs, t, fr, fr', rfl, rfl, _, _⟩
    · simpa [World.cell?, ho, h1] using hc
    · simpa [World.cell?, ho, h1] using hc

/-- What is known of what an operation yields: the very value; or something that stays true as memory grows. -/
inductive Spec where
  | fixed (c : Value)
  | free (G : Value → World → Prop)
def Spec.tells : Spec → Value → World → Prop
  | .fixed c, v, _ => v = c
  | .free G, v, w => G v w

def waits (o : Oper) (j : Nat) : Bool := o.after.any fun e => Region.binds .any e && e.on == j

def wpGrow (P : Program) (ops : Array Oper) (w0 : World) (Q : Act → World → Prop) : List Spec → List Oper → Nat → List (Nat × (World → Prop)) → Act → Prop
  | [], [], _, fs, a => ∀ w, Below w0.heap.size w0 w → (∀ f ∈ fs, f.2 w) → Q a w
  | s :: sp, o :: rest, i, fs, a =>
    if Region.wanted o (yielded ops a.tmps) = true then
      (∀ w, Below w0.heap.size w0 w → (∀ f ∈ fs, waits o f.1 = true → f.2 w) → growAt P o a w fun v w' => Ext w0.heap.size w w' ∧ s.tells v w') ∧
      match s with
      | .fixed c => wpGrow P ops w0 Q sp rest (i + 1) fs (a.put o.dst c)
      | .free G => (∀ v B w w', G v w → Ext B w w' → G v w') ∧ ∀ v, wpGrow P ops w0 Q sp rest (i + 1) ((i, G v) :: fs) (a.put o.dst v)
    else s = .fixed undef ∧ wpGrow P ops w0 Q sp rest (i + 1) fs (a.put o.dst undef)
  | _, _, _, _, _ => False

/-- The region's edges are those that the lexical walk leans on. -/
def growB (ops : Array Oper) : Bool :=
  Region.noSelect ops &&
  (List.range ops.size).all fun i => match ops[i]? with
    | none => true
    | some oi =>
      (oi.after.all fun e => !Region.binds .any e || decide (e.on < i)) &&
      (List.range ops.size).all fun j => match ops[j]? with
        | none => true
        | some oj => j == i || match oj.dst with
          | none => true
          | some d => (oi.dst != some d) && (!(oi.looksAt ops).contains d || (decide (j < i) && waits oi j) || (decide (i < j) && waits oj i))

structure GrowOk (ops : Array Oper) : Prop where
  sel : Region.noSelect ops = true
  back : ∀ (i : Nat) (o : Oper), ops[i]? = some o → ∀ e ∈ o.after, Region.binds .any e = true → e.on < i
  dist : ∀ (i j : Nat) (oi oj : Oper) (d : Tmp), ops[i]? = some oi → ops[j]? = some oj → j ≠ i → oj.dst = some d → oi.dst ≠ some d
  read : ∀ (i j : Nat) (oi oj : Oper) (d : Tmp), ops[i]? = some oi → ops[j]? = some oj → j ≠ i → oj.dst = some d → d ∈ oi.looksAt ops → (j < i ∧ waits oi j = true) ∨ (i < j ∧ waits oj i = true)

theorem growOk_of {ops : Array Oper} (h : growB ops = true) : GrowOk ops := by
  simp only [growB, Bool.and_eq_true, List.all_eq_true, List.mem_range] at h
  obtain ⟨hs, h⟩ := h
  have main : ∀ (i : Nat) (oi : Oper), ops[i]? = some oi → (∀ e ∈ oi.after, Region.binds .any e = true → e.on < i) ∧
      ∀ (j : Nat) (oj : Oper) (d : Tmp), ops[j]? = some oj → j ≠ i → oj.dst = some d → oi.dst ≠ some d ∧ (d ∈ oi.looksAt ops → (j < i ∧ waits oi j = true) ∨ (i < j ∧ waits oj i = true)) := by
    intro i oi hi
    have h1 := h i (Array.getElem?_eq_some_iff.1 hi).1
    simp only [hi, Bool.and_eq_true, List.all_eq_true, List.mem_range] at h1
    refine ⟨fun e he hb => ?_, fun j oj d hj hne hd => ?_⟩
    · have := Array.all_eq_true_iff_forall_mem.1 h1.1 e he
      simpa [hb] using this
    · have h2 := h1.2 j (Array.getElem?_eq_some_iff.1 hj).1
      simp only [hj, hd, Bool.or_eq_true, beq_iff_eq, hne, false_or, Bool.and_eq_true, bne_iff_ne, ne_eq, Bool.not_eq_true', decide_eq_true_eq] at h2
      refine ⟨h2.1, fun hmem => ?_⟩
      rcases h2.2 with (h3 | h3) | h3
      · simp [hmem] at h3
      · exact .inl h3
      · exact .inr h3
  exact ⟨hs, fun i o ho => (main i o ho).1, fun i j oi oj d hi hj hne hd => ((main i oi hi).2 j oj d hj hne hd).1, fun i j oi oj d hi hj hne hd => ((main i oi hi).2 j oj d hj hne hd).2⟩

/-! ### A state in which the operations of S have come up, having yielded u -/
structure Slot (ops : Array Oper) (a0 : Act) (u : Nat → Value) (S : Nat → Bool) (a : Act) : Prop where
  defers : a.defers = a0.defers
  size : a.tmps.size = a0.tmps.size
  on : ∀ (j : Nat) (o : Oper) (d : Tmp), ops[j]? = some o → S j = true → o.dst = some d → d < a0.tmps.size → a.tmps[d]? = some (u j)
  off : ∀ (t : Nat), (∀ (j : Nat) (o : Oper), ops[j]? = some o → S j = true → o.dst ≠ some t) → a.tmps[t]? = a0.tmps[t]?

def upd (u : Nat → Value) (i : Nat) (v : Value) : Nat → Value := fun j => if j = i then v else u j
def add (S : Nat → Bool) (i : Nat) : Nat → Bool := fun j => j == i || S j

variable {ops : Array Oper} {a0 : Act}

theorem Slot.refl (u : Nat → Value) : Slot ops a0 u (fun _ => false) a0 := ⟨rfl, rfl, fun _ _ _ _ h _ _ => (by cases h), fun _ _ => rfl⟩

theorem Slot.congr {u u' : Nat → Value} {S S' : Nat → Bool} {a : Act} (h : Slot ops a0 u S a) (hS : ∀ j, j < ops.size → S' j = S j) (hu : ∀ j, S' j = true → u' j = u j) : Slot ops a0 u' S' a :=
  ⟨h.defers, h.size,
   fun j o d ho hs hd hlt => by
    have hj := (Array.getElem?_eq_some_iff.1 ho).1
    rw [hu j hs]
    exact h.on j o d ho (by rw [← hS j hj]; exact hs) hd hlt,
   fun t ht => h.off t fun j o ho hs => ht j o ho (by rw [hS j (Array.getElem?_eq_some_iff.1 ho).1]; exact hs)⟩

theorem Slot.put (hg : GrowOk ops) {u : Nat → Value} {S : Nat → Bool} {a : Act} (h : Slot ops a0 u S a) {i : Nat} {o : Oper} (ho : ops[i]? = some o) (v : Value) :
    Slot ops a0 (upd u i v) (add S i) (a.put o.dst v) := by
  cases hd : o.dst with
  | none =>
    refine ⟨h.defers, h.size, fun j oj d hj hs hdj hlt => ?_, fun t ht => h.off t fun j oj hj hs => ht j oj hj (by simp [add, hs])⟩
    have hne : j ≠ i := fun e => by subst e; rw [ho] at hj; cases hj; rw [hd] at hdj; cases hdj
    have : S j = true := by simpa [add, hne] using hs
    simp only [upd, hne, if_false]
    exact h.on j oj d hj this hdj hlt
  | some d0 =>
    refine ⟨h.defers, by simp [Act.put, h.size], fun j oj d hj hs hdj hlt => ?_, fun t ht => ?_⟩
    · by_cases hne : j = i
      · subst hne
        rw [ho] at hj; cases hj; rw [hd] at hdj; cases hdj
        simp [Act.put, upd, h.size, hlt]
      · have hS : S j = true := by simpa [add, hne] using hs
        have hdd : d0 ≠ d := fun e => hg.dist i j o oj d ho hj hne hdj (by rw [hd, e])
        simp only [upd, hne, if_false, Act.put]
        rw [Array.getElem?_setIfInBounds_ne hdd]
        exact h.on j oj d hj hS hdj hlt
    · have hdt : d0 ≠ t := fun e => ht i o ho (by simp [add]) (by rw [hd, e])
      simp only [Act.put]
      rw [Array.getElem?_setIfInBounds_ne hdt]
      exact h.off t fun j oj hj hs => ht j oj hj (by simp [add, hs])

/-- Two states agree at a slot whose writer is in the same case in both. -/
theorem Slot.read (_hg : GrowOk ops) {u u' : Nat → Value} {S S' : Nat → Bool} {a b : Act} (h : Slot ops a0 u S a) (h' : Slot ops a0 u' S' b) (t : Nat)
    (hc : ∀ (j : Nat) (o : Oper), ops[j]? = some o → o.dst = some t → S j = S' j ∧ (S j = true → u j = u' j)) : a.tmps[t]? = b.tmps[t]? := by
  by_cases hex : ∃ (j : Nat) (o : Oper), ops[j]? = some o ∧ S j = true ∧ o.dst = some t
  · obtain ⟨j, o, ho, hs, hd⟩ := hex
    obtain ⟨e1, e2⟩ := hc j o ho hd
    by_cases hlt : t < a0.tmps.size
    · rw [h.on j o t ho hs hd hlt, h'.on j o t ho (by rw [← e1]; exact hs) hd hlt, e2 hs]
    · have h1 : a.tmps[t]? = none := by rw [Array.getElem?_eq_none]; rw [h.size]; omega
      have h2 : b.tmps[t]? = none := by rw [Array.getElem?_eq_none]; rw [h'.size]; omega
      rw [h1, h2]
  · have hno : ∀ (j : Nat) (o : Oper), ops[j]? = some o → S j = true → o.dst ≠ some t := fun j o ho hs hd => hex ⟨j, o, ho, hs, hd⟩
    rw [h.off t hno, h'.off t fun j o ho hs hd => hno j o ho (by rw [(hc j o ho hd).1]; exact hs) hd]

theorem Slot.unique (hg : GrowOk ops) {u : Nat → Value} {S : Nat → Bool} {a b : Act} (h : Slot ops a0 u S a) (h' : Slot ops a0 u S b) : a = b := by
  have ht : a.tmps = b.tmps := Array.ext_getElem? fun t => h.read hg h' t fun _ _ _ _ => ⟨rfl, fun _ => rfl⟩
  have hd : a.defers = b.defers := h.defers.trans h'.defers.symm
  cases a; cases b; simp_all

theorem eval_of_slots {a b : Act} {o : Oper} (hr : ∀ t ∈ o.looksAt ops, a.tmps[t]? = b.tmps[t]?) : ∀ x ∈ o.op.operands, a.eval x = b.eval x := by
  intro x hx
  cases x with
  | tmp t =>
    have := hr t (List.mem_append_left _ (List.mem_filterMap.2 ⟨.tmp t, by simpa using hx, rfl⟩))
    simp [Act.eval, this]
  | _ => rfl

theorem wanted_of_slots {a b : Act} {o : Oper} (hr : ∀ t ∈ o.looksAt ops, a.tmps[t]? = b.tmps[t]?) : Region.wanted o (yielded ops a.tmps) = Region.wanted o (yielded ops b.tmps) := by
  unfold Region.wanted
  cases hgd : o.guard with
  | none => rfl
  | some gw =>
    obtain ⟨g, want⟩ := gw
    have hy : yielded ops a.tmps g = yielded ops b.tmps g := by
      unfold yielded
      cases ht : (ops[g]?).bind (·.dst) with
      | none => rfl
      | some t =>
        have := hr t (by simp [Oper.looksAt, hgd, ht])
        simp [this]
    simp only [hy]

/-! ### The lexical walk, unrolled -/
def Fits (sp : List Spec) (u : Nat → Value) : Prop := ∀ j c, sp[j]? = some (.fixed c) → u j = c
def FactsOf (sp : List Spec) (u : Nat → Value) (i : Nat) (fs : List (Nat × (World → Prop))) : Prop := ∀ f ∈ fs, f.1 < i ∧ ∃ G, sp[f.1]? = some (.free G) ∧ f.2 = G (u f.1)

theorem unroll (hg : GrowOk ops) {w0 : World} {Q : Act → World → Prop} {sp : List Spec} {u : Nat → Value} (hu : Fits sp u) (h : wpGrow P ops w0 Q sp ops.toList 0 [] a0) :
    ∀ i, i ≤ ops.size → ∃ b fs, Slot ops a0 u (fun j => decide (j < i)) b ∧ FactsOf sp u i fs ∧ wpGrow P ops w0 Q (sp.drop i) (ops.toList.drop i) i fs b
  | 0, _ => ⟨a0, [], (Slot.refl u).congr (fun j _ => by simp) (fun j h => by simp at h), fun f h => (by cases h), by simpa using h⟩
  | i + 1, hi => by
    obtain ⟨b, fs, hb, hf, hw⟩ := unroll hg hu h i (by omega)
    have ho : ops[i]? = some ops[i] := Array.getElem?_eq_getElem (by omega)
    have hl : ops.toList.drop i = ops[i] :: ops.toList.drop (i + 1) := by
      rw [List.drop_eq_getElem_cons (by simp; omega)]; simp
    rw [hl] at hw
    cases hs : sp.drop i with
    | nil => rw [hs] at hw; simp [wpGrow] at hw
    | cons s sp' =>
      have hsi : sp[i]? = some s := by
        have := congrArg List.head? hs
        simpa [List.head?_drop] using this
      have hsp' : sp' = sp.drop (i + 1) := by
        have := congrArg List.tail hs
        simpa using this.symm
      rw [hs] at hw
      simp only [wpGrow] at hw
      have hslot : ∀ v, u i = v → Slot ops a0 u (fun j => decide (j < i + 1)) (b.put (ops[i]).dst v) := fun v hv =>
        (hb.put hg ho v).congr (fun j _ => by
          by_cases e : j = i
          · simp [add, e]
          · have : (j < i + 1) ↔ (j < i) := by omega
            simp [add, e, this]) (fun j _ => by
          by_cases e : j = i
          · simp [upd, e, hv]
          · simp [upd, e])
      have hfs : FactsOf sp u (i + 1) fs := fun f hmem => ⟨Nat.lt_succ_of_lt (hf f hmem).1, (hf f hmem).2⟩
      split at hw
      · obtain ⟨_, hw⟩ := hw
        cases s with
        | fixed c => exact ⟨_, fs, hslot c (hu i c hsi), hfs, by rw [← hsp']; exact hw⟩
        | free G => exact ⟨_, (i, G (u i)) :: fs, hslot (u i) rfl, fun f hmem => by
            rcases List.mem_cons.1 hmem with rfl | hmem
            · exact ⟨Nat.lt_succ_self _, G, hsi, rfl⟩
            · exact hfs f hmem, by rw [← hsp']; exact hw.2 (u i)⟩
      · obtain ⟨rfl, hw⟩ := hw
        exact ⟨_, fs, hslot undef (hu i _ hsi), hfs, by rw [← hsp']; exact hw⟩

/-- What is known of each operation, at whatever u. -/
theorem unroll_at (hg : GrowOk ops) {w0 : World} {Q : Act → World → Prop} {sp : List Spec} {u : Nat → Value} (hu : Fits sp u) (h : wpGrow P ops w0 Q sp ops.toList 0 [] a0) (i : Nat) (o : Oper) (ho : ops[i]? = some o) :
    ∃ b fs s, Slot ops a0 u (fun j => decide (j < i)) b ∧ FactsOf sp u i fs ∧ sp[i]? = some s ∧
      (Region.wanted o (yielded ops b.tmps) = true → (∀ w, Below w0.heap.size w0 w → (∀ f ∈ fs, waits o f.1 = true → f.2 w) → growAt P o b w fun v w' => Ext w0.heap.size w w' ∧ s.tells v w') ∧
        ∀ G, s = .free G → ∀ v B w w', G v w → Ext B w w' → G v w') ∧
      (Region.wanted o (yielded ops b.tmps) = false → s = .fixed undef) := by
  have hlt := (Array.getElem?_eq_some_iff.1 ho).1
  obtain ⟨b, fs, hb, hf, hw⟩ := unroll hg hu h i (by omega)
  have hl : ops.toList.drop i = o :: ops.toList.drop (i + 1) := by
    rw [List.drop_eq_getElem_cons (by simpa using hlt)]
    have := (Array.getElem?_eq_some_iff.1 ho).2
    simp [this]
  rw [hl] at hw
  cases hs : sp.drop i with
  | nil => rw [hs] at hw; simp [wpGrow] at hw
  | cons s sp' =>
    have hsi : sp[i]? = some s := by
      have := congrArg List.head? hs
      simpa [List.head?_drop] using this
    rw [hs] at hw
    simp only [wpGrow] at hw
    refine ⟨b, fs, s, hb, hf, hsi, fun hwant => ?_, fun hwant => ?_⟩
    · rw [if_pos hwant] at hw
      refine ⟨hw.1, fun G e => ?_⟩
      subst e
      exact hw.2.1
    · rw [if_neg (by simp [hwant])] at hw
      exact hw.1

theorem tells_mono {s : Spec} (hm : ∀ G, s = .free G → ∀ v B w w', G v w → Ext B w w' → G v w') {v : Value} {B : Nat} {w w' : World} (h : s.tells v w) (hb : Ext B w w') : s.tells v w' := by
  cases s with
  | fixed c => exact h
  | free G => exact hm G rfl v B w w' h hb

/-! ### Whatever order is drawn -/
structure GrowInv (P : Program) (ops : Array Oper) (a0 : Act) (w0 : World) (sp : List Spec) (u : Nat → Value) (listed : Array Bool) (a : Act) (w : World) : Prop where
  size : listed.size = ops.size
  fits : Fits sp u
  slot : Slot ops a0 u (fun j => listed.getD j false) a
  below : Below w0.heap.size w0 w
  tells : ∀ j s, listed.getD j false = true → sp[j]? = some s → s.tells (u j) w
  closed : ∀ (j : Nat) (o : Oper), ops[j]? = some o → listed.getD j false = true → ∀ e ∈ o.after, Region.binds .any e = true → listed.getD e.on false = true

def spMono (sp : List Spec) : Prop := ∀ (j : Nat) (G : Value → World → Prop), sp[j]? = some (.free G) → ∀ v B w w', G v w → Ext B w w' → G v w'

theorem waits_listed {o : Oper} {j : Nat} {listed : Array Bool} (h : waits o j = true) (hall : ∀ e ∈ o.after, Region.binds .any e = true → listed.getD e.on false = true) : listed.getD j false = true := by
  obtain ⟨e, he, hb⟩ := Array.any_eq_true'.1 h
  simp only [Bool.and_eq_true, beq_iff_eq] at hb
  rw [← hb.2]
  exact hall e he hb.1

theorem grow_any (hg : GrowOk ops) {w0 : World} {Q : Exit → Act → World → Prop} {sp : List Spec} (hm : spMono sp)
    (h : wpGrow P ops w0 (fun a w => Q .normal a w) sp ops.toList 0 [] a0) :
    ∀ (fuel : Nat) (u : Nat → Value) (listed : Array Bool) (a : Act) (w : World), listed.toList.count false = fuel → GrowInv P ops a0 w0 sp u listed a w → wpAny P .any ops Q fuel listed a w := by
  have done : ∀ (u : Nat → Value) (listed : Array Bool) (a : Act) (w : World), GrowInv P ops a0 w0 sp u listed a w → (∀ j, j < ops.size → listed.getD j false = true) → Q .normal a w := by
    intro u listed a w hi hall
    obtain ⟨b, fs, hb, hf, hw⟩ := unroll hg hi.fits h ops.size (Nat.le_refl _)
    have hba : a = b := hi.slot.unique hg (hb.congr (fun j hj => by simp only [hall j hj]; simp [hj]) (fun _ _ => rfl))
    subst hba
    have hdr : ops.toList.drop ops.size = [] := by simp
    rw [hdr] at hw
    cases hs : sp.drop ops.size with
    | cons s sp' => rw [hs] at hw; simp [wpGrow] at hw
    | nil =>
      rw [hs] at hw
      simp only [wpGrow] at hw
      refine hw w hi.below fun f hmem => ?_
      obtain ⟨hlt, G, hG, he⟩ := hf f hmem
      rw [he]
      exact hi.tells f.1 (.free G) (hall _ hlt) hG
  have allOf : ∀ (u : Nat → Value) (listed : Array Bool) (a : Act) (w : World), GrowInv P ops a0 w0 sp u listed a w → Region.ready .any ops listed = [] → ∀ j, j < ops.size → listed.getD j false = true := by
    intro u listed a w hi hr j
    induction j using Nat.strongRecOn with
    | _ j ih =>
      intro hj
      by_cases hl : listed.getD j false = true
      · exact hl
      · exfalso
        have ho : ops[j]? = some ops[j] := Array.getElem?_eq_getElem hj
        have hmem : j ∈ Region.ready .any ops listed := mem_ready.2 ⟨by
            have hjs : j < listed.size := by rw [hi.size]; exact hj
            simpa [Array.getD, hjs] using hl, ops[j], ho, fun e he hb => by
            have hlt := hg.back j _ ho e he hb
            exact ih e.on hlt (by omega)⟩
        rw [hr] at hmem
        cases hmem
  intro fuel
  induction fuel with
  | zero =>
    intro u listed a w hc hi
    have hall : ∀ j, j < ops.size → listed.getD j false = true := fun j hj => by
      have hjs : j < listed.size := by rw [hi.size]; exact hj
      by_cases hl : listed[j] = true
      · simp [Array.getD, hjs, hl]
      · exfalso
        have hmem : false ∈ listed.toList := by
          have : listed[j] = false := by simpa using hl
          rw [← this]; simp
        have := List.count_pos_iff.2 hmem
        omega
    refine ⟨?_, done u listed a w hi hall⟩
    rw [List.eq_nil_iff_forall_not_mem]
    intro j hj
    obtain ⟨hf, o, ho, _⟩ := mem_ready.1 hj
    have hj' := (Array.getElem?_eq_some_iff.1 ho).1
    have := hall j hj'
    have hjs : j < listed.size := by rw [hi.size]; exact hj'
    simp [Array.getD, hjs] at hf this
    rw [hf] at this
    cases this
  | succ fuel ih =>
    intro u listed a w hc hi
    refine ⟨fun hr => done u listed a w hi (allOf u listed a w hi hr), fun i hir => ?_⟩
    obtain ⟨hun, o, ho, hdeps⟩ := mem_ready.1 hir
    have hlt := (Array.getElem?_eq_some_iff.1 ho).1
    have hjs : i < listed.size := by rw [hi.size]; exact hlt
    have hun' : listed[i] = false := by simpa [Array.getD, hjs] using hun
    have hunF : listed.getD i false = false := by simp [Array.getD, hjs, hun']
    obtain ⟨b, fs, s, hb, hf, hsi, hwant, hnot⟩ := unroll_at hg hi.fits h i o ho
    have hread : ∀ t ∈ o.looksAt ops, a.tmps[t]? = b.tmps[t]? := fun t ht =>
      hi.slot.read hg hb t fun j oj hj hd => ⟨by
        by_cases hji : j = i
        · subst hji; simp [hunF]
        · rcases hg.read i j o oj t ho hj hji hd ht with ⟨h1, h2⟩ | ⟨h1, h2⟩
          · rw [waits_listed h2 hdeps]; simp [h1]
          · have : listed.getD j false = false := by
              by_cases hl : listed.getD j false = true
              · have := waits_listed h2 (hi.closed j oj hj hl)
                rw [hunF] at this; cases this
              · simpa using hl
            rw [this]
            have : ¬ j < i := by omega
            simp [this], fun _ => rfl⟩
    have hex : execOp a.eval o = execOp b.eval o := execOp_congr o (fun cs bb => Region.noSelect_spec hg.sel i o cs bb ho) (eval_of_slots hread)
    have hwa := wanted_of_slots hread
    -- what follows once it has yielded v, the world being w'
    have next : ∀ v w', Ext w0.heap.size w w' → s.tells v w' → wpAny P .any ops Q fuel (listed.setIfInBounds i true) (a.put o.dst v) w' := by
      intro v w' hbw ht
      have hget : ∀ j, (listed.setIfInBounds i true).getD j false = (j == i || listed.getD j false) := fun j => by
        by_cases e : j = i
        · subst e; simp [Array.getD, hjs]
        · have e' : i ≠ j := fun h => e h.symm
          by_cases hj : j < listed.size
          · simp [Array.getD, hj, e, Array.getElem_setIfInBounds, e']
          · simp [Array.getD, hj, e]
      refine ih (upd u i v) _ _ _ ?_ ⟨by simp [hi.size], ?_, ?_, hi.below.trans hbw.below, ?_, ?_⟩
      · have hcs := List.count_set (a := true) (b := false) (l := listed.toList) (i := i) (by simpa using hjs)
        have e1 : (listed.toList[i]'(by simpa using hjs) == false) = true := by simp [hun']
        rw [Array.toList_setIfInBounds, hcs, if_pos e1, if_neg (by decide)]
        omega
      · intro j c hj
        by_cases e : j = i
        · subst e
          rw [hsi] at hj
          cases hj
          simp only [upd, if_true]
          exact ht
        · simp only [upd, e, if_false]; exact hi.fits j c hj
      · exact (hi.slot.put hg ho v).congr (fun j _ => by rw [hget j]; rfl) (fun _ _ => rfl)
      · intro j s' hl hj
        by_cases e : j = i
        · subst e
          rw [hsi] at hj; cases hj
          simpa [upd] using ht
        · have hl' : listed.getD j false = true := by rw [hget j] at hl; simpa [e] using hl
          simp only [upd, e, if_false]
          exact tells_mono (fun G hG => by subst hG; exact hm j G hj) (hi.tells j s' hl' hj) hbw
      · intro j oj hj hl e he hbd
        rw [hget]
        by_cases ej : j = i
        · subst ej
          rw [ho] at hj; cases hj
          have := hdeps e he hbd
          have h2 : listed.getD e.on false = true := this
          simp [h2]
        · have hl' : listed.getD j false = true := by rw [hget j] at hl; simpa [ej] using hl
          simp [hi.closed j oj hj hl' e he hbd]
    unfold wpOp
    simp only [ho]
    split
    · rename_i hw
      rw [hwa] at hw
      refine .inl ?_
      obtain ⟨hgr, _⟩ := hwant hw
      have hgw := hgr w hi.below fun f hmem hwt => by
        obtain ⟨_, G, hG, he⟩ := hf f hmem
        rw [he]
        exact hi.tells f.1 (.free G) (waits_listed hwt hdeps) hG
      replace hgw := hgw.out
      unfold Oper.wp
      rw [hex]
      generalize (execOp b.eval o).run P w = r at hgw
      cases r with
      | ok n w' =>
        cases n <;> simp only [growUpon] at hgw <;> simp only [Oper.upon]
        case value v => exact next v w' hgw.1 hgw.2
        case skip => exact next undef w' hgw.1 hgw.2
        case enter f args => exact hgw.mono fun e w'' ⟨v, he, hR⟩ => by subst he; exact next v w'' hR.1 hR.2
      | halt x w' => simp only [growUpon] at hgw
    · rename_i hw
      rw [hwa] at hw
      have := hnot (by simpa using hw)
      subst this
      exact next undef w (Ext.refl _ _) rfl

/-- The marks of the specs are kept as memory grows: read off the walk. -/
def monoAll : List Spec → Prop
  | [] => True
  | .fixed _ :: sp => monoAll sp
  | .free G :: sp => (∀ v B w w', G v w → Ext B w w' → G v w') ∧ monoAll sp
theorem monoAll_spec : ∀ {sp : List Spec}, monoAll sp → spMono sp
  | [], _, _, _, h => by simp at h
  | s :: sp, h, 0, G, hG => by
    simp at hG; subst hG
    exact h.1
  | s :: sp, h, j + 1, G, hG => by
    have : monoAll sp := by
      cases s with
      | fixed c => exact h
      | free G => exact h.2
    exact monoAll_spec this j G (by simpa using hG)

/-- **ONE WALK IN THE ORDER OF THE TEXT.** -/
theorem wp_region_grow {id : Nat} {Q : Exit → Act → World → Prop} {a : Act} {w : World} {l : List Oper} (sp : List Spec) (hm : P.follows .mixedOrders = true) (hB : growB l.toArray = true)
    (hsp : monoAll sp) (h : wpGrow P l.toArray w (fun a' w' => Q .normal a' w') sp l 0 [] a) : (Code.region id l.toArray true).wp P Q a w := by
  refine wp_region_any hm (grow_any (growOk_of hB) (monoAll_spec hsp) (w0 := w) (a0 := a) (by simpa using h) _
    (fun j => match sp[j]? with | some (.fixed c) => c | _ => undef) _ _ _ ?_ ⟨by simp, ?_, ?_, ?_, ?_, ?_⟩)
  · simp [List.count_replicate]
  · intro j c hj; simp [hj]
  · exact (Slot.refl _).congr (fun j hj => by simp at hj; simp [Array.getD, hj]) (fun _ _ => rfl)
  · exact (Below.refl w.heap.size w).drew
  · intro j s hl
    exfalso
    by_cases hj : j < l.length <;> simp [Array.getD, hj] at hl
  · intro j o ho hl
    exfalso
    by_cases hj : j < l.length <;> simp [Array.getD, hj] at hl

end

/-! ### The moves of the walk -/
section
variable {P : Program} {ops : Array Oper} {w0 : World} {Q : Act → World → Prop} {o : Oper} {rest : List Oper} {i : Nat} {fs : List (Nat × (World → Prop))} {a : Act} {sp : List Spec}
theorem grow_fixed {c : Value} (hw : Region.wanted o (yielded ops a.tmps) = true)
    (ho : ∀ w, Below w0.heap.size w0 w → (∀ f ∈ fs, waits o f.1 = true → f.2 w) → growAt P o a w fun v w' => Ext w0.heap.size w w' ∧ v = c)
    (h : wpGrow P ops w0 Q sp rest (i + 1) fs (a.put o.dst c)) : wpGrow P ops w0 Q (.fixed c :: sp) (o :: rest) i fs a := by
  simp only [wpGrow]; rw [if_pos hw]; exact ⟨ho, h⟩
theorem grow_free {G : Value → World → Prop} (hw : Region.wanted o (yielded ops a.tmps) = true)
    (ho : ∀ w, Below w0.heap.size w0 w → (∀ f ∈ fs, waits o f.1 = true → f.2 w) → growAt P o a w fun v w' => Ext w0.heap.size w w' ∧ G v w')
    (hm : ∀ v B w w', G v w → Ext B w w' → G v w')
    (h : ∀ v, wpGrow P ops w0 Q sp rest (i + 1) ((i, G v) :: fs) (a.put o.dst v)) : wpGrow P ops w0 Q (.free G :: sp) (o :: rest) i fs a := by
  simp only [wpGrow]; rw [if_pos hw]; exact ⟨ho, hm, h⟩
theorem grow_skip (hw : Region.wanted o (yielded ops a.tmps) = false)
    (h : wpGrow P ops w0 Q sp rest (i + 1) fs (a.put o.dst undef)) : wpGrow P ops w0 Q (.fixed undef :: sp) (o :: rest) i fs a := by
  unfold wpGrow; rw [if_neg (by simp [hw])]; exact ⟨rfl, h⟩
theorem grow_nil (h : ∀ w, Below w0.heap.size w0 w → (∀ f ∈ fs, f.2 w) → Q a w) : wpGrow P ops w0 Q [] [] i fs a := by
  simp only [wpGrow]; exact h
theorem growAt_load_row {w : World} {R : Value → World → Prop} (ty : TypeId) (x : Operand) (ho : o.op = .load ty x)
    (g : Nat) (hx : a.eval x = .pointer (some ⟨g, 0, none⟩)) (t : TypeId) (cs : Array Value) (fr : Nat × Nat) (d : TypeDesc) (hg : w.heap[g]? = some (.cells cs t fr))
    (hu : P.underlying ty = some d) (hd : (match d with | .struct _ | .array _ _ => true | _ => false) = true) (hi : (P.info? ty).map (·.size) = some cs.size)
    (h : R (.agg cs) w) : growAt P o a w R := by
  refine ⟨?_⟩
  unfold execOp
  simp only [ho, hx, Instr.loadAt, Instr.sureAddr, Sem.run_bind, Sem.run_pure, Result.andThen_ok, run_loadVar_row w g t ty cs fr d hg hu hd hi]
  exact h
end


/-! ### The mark of a row that a constant string became -/
theorem Ext.freeze {B : Nat} {w : World} {g k n : Nat} (hg : B ≤ g) {cs : Array Value} {t : TypeId} {fr : Nat × Nat} (hb : w.heap[g]? = some (.cells cs t fr)) (hbare : Bare cs fr) (hk : cs.size ≤ k) : Ext B w (w.freeze ⟨g, k, none⟩ n) := by
  unfold World.freeze
  split
  · exact Ext.refl _ _
  · refine ⟨⟨rfl, rfl, rfl, by simp, fun i hi => by simp only [Array.getElem?_modify]; rw [if_neg (by omega)]⟩, fun i o ho => ?_⟩
    simp only [Array.getElem?_modify]
    by_cases e : g = i
    · subst e
      rw [hb] at ho
      cases ho
      rw [if_pos rfl, hb]
      refine ⟨_, rfl, .inr ⟨_, _, _, _, rfl, rfl, hbare, ?_⟩⟩
      obtain ⟨lo, hi⟩ := fr
      unfold Bare at *
      split <;> simp_all <;> omega
    · rw [if_neg e]
      exact ⟨o, ho, .inl rfl⟩
theorem run_convert_mark {P : Program} (w : World) (t e g : Nat) (C : Array Value) (fr : Nat × Nat) (n c : Nat) (hg : w.heap[g]? = some (.cells C e fr)) (ht : P.underlying t = some (.slice e)) (he : P.underlying e = some (.int .u8)) :
    (convert t t (.slice (some ⟨g, 0, none⟩) n c)).run P w = .ok (.slice (some ⟨g, 0, none⟩) n c) (w.freeze ⟨g, C.size, none⟩ 1) := by
  have hsh : w.shape? g = some (e, C.size) := by unfold World.shape?; rw [hg]
  simp [convert, run_underlying ht, run_underlying he, markStringish, hsh]

/-- A row of the call's own, marked or not. -/
def NewRow (B : Nat) (t : TypeId) (vs : List Value) (v : Value) (w : World) : Prop := ∃ g fr, v = .slice (some ⟨g, 0, none⟩) vs.length vs.length ∧ B ≤ g ∧ w.heap[g]? = some (.cells vs.toArray t fr) ∧ Bare vs.toArray fr
theorem NewRow.mono {B : Nat} {t : TypeId} {vs : List Value} (v : Value) (B' : Nat) (w w' : World) : NewRow B t vs v w → Ext B' w w' → NewRow B t vs v w' := fun ⟨g, fr, e, hB, h, hb⟩ hx => by
  obtain ⟨o', h', s⟩ := hx.objs g _ h
  rcases s with rfl | ⟨cs, t', f1, f2, e1, rfl, _, hb2⟩
  · exact ⟨g, fr, e, hB, h', hb⟩
  · cases e1; exact ⟨g, f2, e, hB, h', hb2⟩
theorem NewRow.alloc {B : Nat} (t : TypeId) (vs : List Value) (w : World) (hB : B ≤ w.heap.size) : NewRow B t vs (.slice (some ⟨w.heap.size, 0, none⟩) vs.length vs.length) (w.alloc (.cells vs.toArray t)) :=
  ⟨_, _, rfl, hB, heap_alloc_new w _, .inl rfl⟩
theorem NewRow.freeze {B : Nat} {t : TypeId} {vs : List Value} {w : World} {g n c : Nat} (h : NewRow B t vs (.slice (some ⟨g, 0, none⟩) n c) w) (k m : Nat) (hk : vs.length ≤ k) : Ext B w (w.freeze ⟨g, k, none⟩ m) ∧ NewRow B t vs (.slice (some ⟨g, 0, none⟩) n c) (w.freeze ⟨g, k, none⟩ m) := by
  have h0 := h
  obtain ⟨g', fr, e, hB, h, hb⟩ := h
  cases e
  have hx := Ext.freeze (n := m) hB h hb (by simpa using hk)
  exact ⟨hx, NewRow.mono _ B w _ h0 hx⟩
/-- A box of the call's own. -/
def NewBox (B : Nat) (t : TypeId) (cs : Array Value) (v : Value) (w : World) : Prop := ∃ g fr, v = .pointer (some ⟨g, 0, none⟩) ∧ B ≤ g ∧ w.heap[g]? = some (.cells cs t fr) ∧ Bare cs fr
theorem NewBox.mono {B : Nat} {t : TypeId} {cs : Array Value} (v : Value) (B' : Nat) (w w' : World) : NewBox B t cs v w → Ext B' w w' → NewBox B t cs v w' := fun ⟨g, fr, e, hB, h, hb⟩ hx => by
  obtain ⟨o', h', s⟩ := hx.objs g _ h
  rcases s with rfl | ⟨cs, t', f1, f2, e1, rfl, _, hb2⟩
  · exact ⟨g, fr, e, hB, h', hb⟩
  · cases e1; exact ⟨g, f2, e, hB, h', hb2⟩
theorem NewBox.alloc {B : Nat} (t : TypeId) (cs : Array Value) (w : World) (hB : B ≤ w.heap.size) : NewBox B t cs (.pointer (some ⟨w.heap.size, 0, none⟩)) (w.alloc (.cells cs t)) :=
  ⟨_, _, rfl, hB, heap_alloc_new w _, .inl rfl⟩
theorem NewBox.cell {B : Nat} {t : TypeId} {cs : Array Value} {w : World} {g : Nat} (h : NewBox B t cs (.pointer (some ⟨g, 0, none⟩)) w) (j : Nat) : w.cell? ⟨g, j, none⟩ = cs[j]? := by
  obtain ⟨g', fr, e, _, h, _⟩ := h
  cases e
  rw [cell_of_row w g j _ t fr h]
theorem NewBox.frozen {B : Nat} {t : TypeId} {cs : Array Value} {w : World} {g : Nat} (h : NewBox B t cs (.pointer (some ⟨g, 0, none⟩)) w) (j : Nat) (hj : j < cs.size) : w.frozen? ⟨g, j, none⟩ = false := by
  obtain ⟨g', ⟨lo, hi⟩, e, _, h, hb⟩ := h
  cases e
  unfold World.frozen? Bare at *
  rw [h]
  simp only [Bool.and_eq_false_iff, decide_eq_false_iff_not]
  simp only at hb
  omega
theorem NewRow.cell {B : Nat} {t : TypeId} {vs : List Value} {w : World} {g n c : Nat} (h : NewRow B t vs (.slice (some ⟨g, 0, none⟩) n c) w) (j : Nat) : w.cell? ⟨g, j, none⟩ = vs[j]? := by
  obtain ⟨g', fr, e, _, h, _⟩ := h
  cases e
  rw [cell_of_row w g j _ t fr h]; simp
/-! ### A last operation that waits for all others: it may write -/
section
variable {P : Program}
structure LastOk (ops : Array Oper) (o : Oper) : Prop where
  back : ∀ (i : Nat) (oi : Oper), ops[i]? = some oi → ∀ e ∈ oi.after, Region.binds .any e = true → e.on < i
  gd : ∀ (i : Nat) (oi : Oper) (j : Nat) (b : Bool), ops[i]? = some oi → oi.guard = some (j, b) → j < ops.size
  all : ∀ j, j < ops.size → waits o j = true
  self : ∀ e ∈ o.after, Region.binds .any e = true → e.on < ops.size
def lastB (ops : Array Oper) (o : Oper) : Bool :=
  (ops.all fun oi => match oi.guard with | none => true | some (j, _) => decide (j < ops.size)) &&
  ((List.range ops.size).all fun j => waits o j) && o.after.all fun e => !Region.binds .any e || decide (e.on < ops.size)
theorem lastOk_of {ops : Array Oper} {o : Oper} (hg : GrowOk ops) (h : lastB ops o = true) : LastOk ops o := by
  unfold lastB at h
  simp only [Bool.and_eq_true] at h
  obtain ⟨⟨h1, h2⟩, h3⟩ := h
  refine ⟨hg.back, fun i oi j b hi he => ?_, fun j hj => List.all_eq_true.1 h2 j (List.mem_range.2 hj), fun e he hb => ?_⟩
  · obtain ⟨hl, rfl⟩ := Array.getElem?_eq_some_iff.1 hi
    have := Array.all_eq_true.1 h1 i hl
    rw [he] at this
    simpa using this
  · have := Array.all_eq_true_iff_forall_mem.1 h3 e he
    simpa [hb] using this
/-- What is owed at the end of the others: the last operation's run. -/
def LastPost (P : Program) (ops : Array Oper) (o : Oper) (Q : Exit → Act → World → Prop) : Exit → Act → World → Prop
  | .normal, a, w => Region.wanted o (yielded (ops.push o) a.tmps) = true ∧ growAt P o a w fun v w' => Q .normal (a.put o.dst v) w'
  | e, a, w => Q e a w
theorem getD_push_lt {l : Array Bool} {b d : Bool} {j : Nat} (h : j < l.size) : (l.push b).getD j d = l.getD j d := by
  simp [Array.getD, h, Array.getElem_push, Nat.lt_succ_of_lt h]
theorem getD_push_eq {l : Array Bool} {b d : Bool} : (l.push b).getD l.size d = b := by
  simp [Array.getD]
theorem push_set_last (l : Array Bool) : (l.push false).setIfInBounds l.size true = l.push true := by
  apply Array.toList_inj.1
  simp
theorem push_set_lt (l : Array Bool) {i : Nat} (h : i < l.size) : (l.push false).setIfInBounds i true = (l.setIfInBounds i true).push false := by
  apply Array.toList_inj.1
  simp [List.set_append, h]
theorem ready_push_lt {ops : Array Oper} {o : Oper} (hl : LastOk ops o) {listed : Array Bool} (hs : listed.size = ops.size) {b : Bool} {i : Nat} (hi : i < ops.size) :
    i ∈ Region.ready .any (ops.push o) (listed.push b) ↔ i ∈ Region.ready .any ops listed := by
  have e1 : (ops.push o)[i]? = ops[i]? := by rw [Array.getElem?_push]; simp [show i ≠ ops.size by omega]
  have e2 : (listed.push b).getD i true = listed.getD i true := getD_push_lt (by omega)
  simp only [mem_ready, e1, e2]
  constructor
  · rintro ⟨h1, oi, ho, h2⟩
    refine ⟨h1, oi, ho, fun e he hb => ?_⟩
    have := h2 e he hb
    rwa [getD_push_lt (by have := hl.back i oi ho e he hb; omega)] at this
  · rintro ⟨h1, oi, ho, h2⟩
    refine ⟨h1, oi, ho, fun e he hb => ?_⟩
    rw [getD_push_lt (by have := hl.back i oi ho e he hb; omega)]
    exact h2 e he hb
theorem all_of_ready {ops : Array Oper} (hb : ∀ (i : Nat) (oi : Oper), ops[i]? = some oi → ∀ e ∈ oi.after, Region.binds .any e = true → e.on < i) {listed : Array Bool} (hs : listed.size = ops.size) (hr : Region.ready .any ops listed = []) : ∀ j, j < ops.size → listed.getD j false = true := by
  intro j
  induction j using Nat.strongRecOn with
  | _ j ih =>
    intro hj
    by_cases hl : listed.getD j false = true
    · exact hl
    · exfalso
      have ho : ops[j]? = some ops[j] := Array.getElem?_eq_getElem hj
      have hmem : j ∈ Region.ready .any ops listed := mem_ready.2 ⟨by
          have hjs : j < listed.size := by rw [hs]; exact hj
          simpa [Array.getD, hjs] using hl, ops[j], ho, fun e he hbd => by
          have hlt := hb j _ ho e he hbd
          exact ih e.on hlt (by omega)⟩
      rw [hr] at hmem
      cases hmem
theorem last_run {ops : Array Oper} {o : Oper} (hl : LastOk ops o) {Q : Exit → Act → World → Prop} {listed : Array Bool} (hs : listed.size = ops.size) (hr : Region.ready .any ops listed = []) {a : Act} {w : World} (h : LastPost P ops o Q .normal a w) :
    wpOp P (ops.push o) Q ops.size (fun a w => Q .normal a w) a w := by
  unfold wpOp
  have e : (ops.push o)[ops.size]? = some o := by simp
  rw [e]
  dsimp only
  rw [if_pos h.1]
  refine .inl ?_
  have hgw := h.2.out
  unfold Oper.wp
  generalize (execOp a.eval o).run P w = r at hgw
  cases r with
  | ok n w' =>
    cases n <;> simp only [growUpon] at hgw <;> simp only [Oper.upon]
    case value v => exact hgw
    case skip => exact hgw
    case enter f args => exact hgw.mono fun e w'' ⟨v, he, hR⟩ => by subst he; exact hR
  | halt x w' => simp only [growUpon] at hgw
theorem any_last {ops : Array Oper} {o : Oper} (hl : LastOk ops o) {Q : Exit → Act → World → Prop} :
    ∀ (fuel : Nat) (listed : Array Bool) (a : Act) (w : World), listed.size = ops.size → wpAny P .any ops (LastPost P ops o Q) fuel listed a w → wpAny P .any (ops.push o) Q (fuel + 1) (listed.push false) a w := by
  have fin : ∀ (fuel : Nat) (listed : Array Bool) (a : Act) (w : World), listed.size = ops.size → Region.ready .any ops listed = [] → LastPost P ops o Q .normal a w →
      (Region.ready .any (ops.push o) (listed.push false) = [] → Q .normal a w) ∧ ∀ i ∈ Region.ready .any (ops.push o) (listed.push false), wpOp P (ops.push o) Q i (wpAny P .any (ops.push o) Q fuel ((listed.push false).setIfInBounds i true)) a w := by
    intro fuel listed a w hs hr h
    have hall := all_of_ready hl.back hs hr
    refine ⟨fun h0 => ?_, fun i hi => ?_⟩
    · exfalso
      have : ops.size ∈ Region.ready .any (ops.push o) (listed.push false) := mem_ready.2 ⟨by rw [← hs]; exact getD_push_eq, o, by simp, fun e he hb => by
        have := hl.self e he hb
        rw [getD_push_lt (by omega)]; exact hall _ this⟩
      rw [h0] at this
      cases this
    · have hi2 : i < ops.size + 1 := by
        obtain ⟨_, oi, ho, _⟩ := mem_ready.1 hi
        have := (Array.getElem?_eq_some_iff.1 ho).1
        simpa using this
      by_cases hlt : i < ops.size
      · have := (ready_push_lt hl hs hlt).1 hi
        rw [hr] at this
        cases this
      · have e : i = ops.size := by omega
        subst e
        refine wpOp_mono (fun a' w' hq => ?_) (last_run hl hs hr h)
        have hset : (listed.push false).setIfInBounds ops.size true = listed.push true := by
          rw [← hs]; exact push_set_last _
        have hr2 : Region.ready .any (ops.push o) (listed.push true) = [] := by
          rw [List.eq_nil_iff_forall_not_mem]
          intro j hj
          by_cases hjl : j < ops.size
          · have := (ready_push_lt hl hs hjl).1 hj
            rw [hr] at this
            cases this
          · obtain ⟨h1, oi, ho, _⟩ := mem_ready.1 hj
            have := (Array.getElem?_eq_some_iff.1 ho).1
            have : j = ops.size := by simp at this; omega
            subst this
            rw [← hs, getD_push_eq] at h1
            cases h1
        rw [hset]
        cases fuel with
        | zero => exact ⟨hr2, hq⟩
        | succ fuel => exact ⟨fun _ => hq, fun i hi => by rw [hr2] at hi; cases hi⟩
  intro fuel
  induction fuel with
  | zero => intro listed a w hs h; exact fin 0 listed a w hs h.1 h.2
  | succ fuel ih =>
    intro listed a w hs h
    by_cases hr : Region.ready .any ops listed = []
    · exact fin (fuel + 1) listed a w hs hr (h.1 hr)
    · refine ⟨fun h0 => ?_, fun i hi => ?_⟩
      · exfalso
        obtain ⟨j, hj⟩ := List.exists_mem_of_ne_nil _ hr
        have hjl : j < ops.size := by
          obtain ⟨_, oi, ho, _⟩ := mem_ready.1 hj
          exact (Array.getElem?_eq_some_iff.1 ho).1
        have := (ready_push_lt (b := false) hl hs hjl).2 hj
        rw [h0] at this
        cases this
      · have hi2 : i < ops.size + 1 := by
          obtain ⟨_, oi, ho, _⟩ := mem_ready.1 hi
          have := (Array.getElem?_eq_some_iff.1 ho).1
          simpa using this
        have hlt : i < ops.size := by
          by_cases hlt : i < ops.size
          · exact hlt
          · exfalso
            have e : i = ops.size := by omega
            subst e
            obtain ⟨j, hj⟩ := List.exists_mem_of_ne_nil _ hr
            obtain ⟨h1, oj, hoj, _⟩ := mem_ready.1 hj
            have hjl := (Array.getElem?_eq_some_iff.1 hoj).1
            obtain ⟨_, oi, ho, h2⟩ := mem_ready.1 hi
            have : oi = o := by simpa using ho.symm
            subst this
            have hw := waits_listed (hl.all j hjl) h2
            rw [getD_push_lt (by omega)] at hw
            have hjs : j < listed.size := by omega
            simp [Array.getD, hjs] at h1 hw
            rw [h1] at hw; cases hw
        have h2 := h.2 i ((ready_push_lt hl hs hlt).1 hi)
        have hset : (listed.push false).setIfInBounds i true = (listed.setIfInBounds i true).push false := push_set_lt _ (by omega)
        have e1 : (ops.push o)[i]? = ops[i]? := by rw [Array.getElem?_push]; simp [show i ≠ ops.size by omega]
        unfold wpOp at h2 ⊢
        rw [e1]
        cases ho : ops[i]? with
        | none => have := (Array.getElem?_eq_none_iff.1 ho); omega
        | some oi =>
          rw [ho] at h2
          dsimp only at h2 ⊢
          have hwa : Region.wanted oi (yielded (ops.push o) a.tmps) = Region.wanted oi (yielded ops a.tmps) := by
            unfold Region.wanted
            cases hgd : oi.guard with
            | none => rfl
            | some p =>
              obtain ⟨j, b⟩ := p
              have hj := hl.gd i oi j b ho hgd
              have e3 : (ops.push o)[j]? = ops[j]? := by rw [Array.getElem?_push]; simp [show j ≠ ops.size by omega]
              simp only [yielded, e3]
          rw [hwa]
          have hnext : ∀ a' w', wpAny P .any ops (LastPost P ops o Q) fuel (listed.setIfInBounds i true) a' w' → wpAny P .any (ops.push o) Q (fuel + 1) ((listed.push false).setIfInBounds i true) a' w' := fun a' w' hh => by
            rw [hset]; exact ih _ a' w' (by simp [hs]) hh
          split
          · rename_i hw
            rw [if_pos hw] at h2
            rcases h2 with h2 | ⟨h2, h3⟩
            · refine .inl ?_
              have h4 := Oper.wp_mono hnext h2
              unfold Oper.wp at h4 ⊢
              generalize (execOp a.eval oi).run P w = r at h4
              cases r with
              | ok n w' =>
                cases n <;> exact h4
              | halt x w' => cases x <;> exact h4
            · exact .inr ⟨h2, h3⟩
          · rename_i hw
            rw [if_neg hw] at h2
            exact hnext _ _ h2
theorem grow_any_last {l : List Oper} {o : Oper} {w : World} {a : Act} {Q : Exit → Act → World → Prop} {sp : List Spec} (hB : growB l.toArray = true) (hL : lastB l.toArray o = true) (hsp : monoAll sp)
    (h : wpGrow P l.toArray w (fun a' w' => LastPost P l.toArray o Q .normal a' w') sp l 0 [] a) (w1 : World) (hw1 : Below w.heap.size w w1) :
    wpAny P .any (l ++ [o]).toArray Q (l.length + 1) (Array.replicate (l.length + 1) false) a w1 := by
  have hg := growOk_of hB
  have h1 := grow_any hg (monoAll_spec hsp) (w0 := w) (a0 := a) (Q := LastPost P l.toArray o Q) (by simpa using h) l.length
    (fun j => match sp[j]? with | some (.fixed c) => c | _ => undef) (Array.replicate l.length false) a w1 (by simp [List.count_replicate]) ⟨by simp, fun j c hj => by simp [hj], (Slot.refl _).congr (fun j hj => by simp at hj; simp [Array.getD, hj]) (fun _ _ => rfl), hw1, fun j s hl => by
      exfalso
      by_cases hj : j < l.length <;> simp [Array.getD, hj] at hl, fun j o ho hl => by
      exfalso
      by_cases hj : j < l.length <;> simp [Array.getD, hj] at hl⟩
  have h2 := any_last (lastOk_of hg hL) l.length (Array.replicate l.length false) a w1 (by simp) h1
  have e1 : (l ++ [o]).toArray = l.toArray.push o := by simp
  have e2 : (Array.replicate (l.length + 1) false) = (Array.replicate l.length false).push false := by
    rw [Array.replicate_succ]
  rw [e1, e2]
  exact h2
/-- **.. THE LAST OPERATION WAITING FOR ALL OTHERS: IT MAY WRITE.** -/
theorem wp_region_last {id : Nat} {Q : Exit → Act → World → Prop} {a : Act} {w : World} {L : List Oper} (o : Oper) (sp : List Spec) (hL : L = L.dropLast ++ [o]) (hm : P.follows .mixedOrders = true) (hB : growB L.dropLast.toArray = true) (hB2 : lastB L.dropLast.toArray o = true)
    (hsp : monoAll sp) (h : wpGrow P L.dropLast.toArray w (fun a' w' => LastPost P L.dropLast.toArray o Q .normal a' w') sp L.dropLast 0 [] a) : (Code.region id L.toArray true).wp P Q a w := by
  generalize L.dropLast = l at *
  subst hL
  refine wp_region_any hm ?_
  have := grow_any_last hB hB2 hsp h _ (Below.refl w.heap.size w).drew
  simpa using this
end

/-! ### The same, inside a fence that lets everything in (a round of a range over a function) -/
section
variable {P : Program}
def OnlyNormal (Q : Exit → Act → World → Prop) : Exit → Act → World → Prop
  | .normal, a, w => Q .normal a w
  | _, _, _ => False
/-- A fence that lets everything in. -/
structure Lets (P : Program) (F : Fence) : Prop where
  fn : ∀ f, F.fn f
  depth : F.depth = none
  calls : ∀ {n f args w R}, Calls P f args w R → CallsIn F n P f args w R
  rows : ∀ {n row args w R}, Rows P row args w R → RowsIn F n P row args w R
theorem lets_wide : Lets P Fence.wide := ⟨fun _ => trivial, rfl, callsIn_wide.2, fun h c cs _ => let ⟨v, w', r, s⟩ := h c cs; ⟨v, w', r, stepsIn_wide.2 s⟩⟩
theorem Lets.inRound {F : Fence} (h : Lets P F) (l : Nat) : Lets P (F.inRound l) := ⟨h.fn, h.depth, fun k => CallsIn.inRound l (h.calls k), h.rows⟩
def noDefer (ops : Array Oper) : Bool := ops.all fun o => match o.op with | .defer _ => false | _ => true
theorem opIn_of_wp {F : Fence} (hF : Lets P F) {n : Nat} {o : Oper} {a : Act} {w : World} {K K' : Act → World → Prop} {Q : Exit → Act → World → Prop} (hnd : ∀ c, o.op ≠ .defer c)
    (hK : ∀ a w, K a w → K' a w) (h : o.wp P a w K (OnlyNormal Q)) : o.wpIn F n P a w K' Q := by
  unfold Oper.wpIn
  refine ⟨fun f _ => hF.fn f, ?_⟩
  rw [Oper.semAt_eq _ _ _ hnd]
  unfold Oper.wp at h
  generalize (execOp a.eval o).run P w = r at h
  have hd : F.depth.isSome = true → 1 ≤ n := by rw [hF.depth]; intro e; cases e
  cases r with
  | ok x w' =>
    cases x <;> simp only [Oper.upon] at h <;> simp only [Oper.uponIn]
    case value v => exact hK _ _ h
    case skip => exact hK _ _ h
    case defer d => exact hK _ _ h
    case enter f args =>
      refine ⟨hd, (hF.calls h).mono fun e w'' he => ?_⟩
      cases e with
      | returned v => exact hK _ _ he
      | panicked c => exact he.elim
      | outgrown => obtain ⟨_, _, hx⟩ := he; exact hx.elim
    case row row args => exact ⟨hd, (hF.rows h).mono fun v w'' he => hK _ _ he⟩
  | halt x w' =>
    cases x <;> simp only [Oper.upon] at h
    exact h.elim
theorem anyIn_of_any {F : Fence} (hF : Lets P F) {n : Nat} {ops : Array Oper} (hnd : ∀ (i : Nat) (o : Oper), ops[i]? = some o → ∀ c : Call, o.op ≠ .defer c) {Q : Exit → Act → World → Prop} :
    ∀ (fuel : Nat) (listed : Array Bool) (a : Act) (w : World), wpAny P .any ops (OnlyNormal Q) fuel listed a w → wpAnyIn F n P .any ops Q fuel listed a w
  | 0, _, _, _, h => h
  | fuel + 1, listed, a, w, h => ⟨h.1, fun i hi => by
    have h2 := h.2 i hi
    unfold wpOp at h2
    unfold wpOpIn
    cases ho : ops[i]? with
    | none => rw [ho] at h2; exact anyIn_of_any hF hnd fuel _ a w h2
    | some o =>
      rw [ho] at h2
      dsimp only at h2 ⊢
      split
      · rename_i hw
        rw [if_pos hw] at h2
        rcases h2 with h2 | ⟨_, _, _, h2⟩
        · exact opIn_of_wp hF (hnd i o ho) (fun a' w' => anyIn_of_any hF hnd fuel _ a' w') h2
        · exact h2.elim
      · rename_i hw
        rw [if_neg hw] at h2
        exact ⟨fun f _ => hF.fn f, anyIn_of_any hF hnd fuel _ _ w h2⟩⟩
theorem noDefer_spec {ops : Array Oper} (h : noDefer ops = true) (i : Nat) (o : Oper) (ho : ops[i]? = some o) (c : Call) : o.op ≠ .defer c := by
  intro e
  unfold noDefer at h
  obtain ⟨hi, rfl⟩ := Array.getElem?_eq_some_iff.1 ho
  have := Array.all_eq_true.1 h i hi
  rw [e] at this
  cases this
/-- **ONE WALK IN THE ORDER OF THE TEXT, in a round.** -/
theorem wpIn_region_grow {F : Fence} (hF : Lets P F) {n : Nat} {id : Nat} {Q : Exit → Act → World → Prop} {a : Act} {w : World} {l : List Oper} (sp : List Spec) (hm : P.follows .mixedOrders = true) (hB : growB l.toArray = true) (hnd : noDefer l.toArray = true)
    (hsp : monoAll sp) (h : wpGrow P l.toArray w (fun a' w' => Q .normal a' w') sp l 0 [] a) : (Code.region id l.toArray true).wpIn F n P Q a w := by
  refine wpIn_region_any hm (anyIn_of_any hF (noDefer_spec hnd) _ _ _ _ (grow_any (growOk_of hB) (monoAll_spec hsp) (w0 := w) (a0 := a) (Q := OnlyNormal Q) (by simpa [OnlyNormal] using h) _
    (fun j => match sp[j]? with | some (.fixed c) => c | _ => undef) _ _ _ ?_ ⟨by simp, ?_, ?_, ?_, ?_, ?_⟩))
  · simp [List.count_replicate]
  · intro j c hj; simp [hj]
  · exact (Slot.refl _).congr (fun j hj => by simp at hj; simp [Array.getD, hj]) (fun _ _ => rfl)
  · exact (Below.refl w.heap.size w).drew
  · intro j s hl
    exfalso
    by_cases hj : j < l.length <;> simp [Array.getD, hj] at hl
  · intro j o ho hl
    exfalso
    by_cases hj : j < l.length <;> simp [Array.getD, hj] at hl
theorem wpIn_region_last {F : Fence} (hF : Lets P F) {n : Nat} {id : Nat} {Q : Exit → Act → World → Prop} {a : Act} {w : World} {L : List Oper} (o : Oper) (sp : List Spec) (hL : L = L.dropLast ++ [o]) (hm : P.follows .mixedOrders = true) (hB : growB L.dropLast.toArray = true) (hB2 : lastB L.dropLast.toArray o = true) (hnd : noDefer L.toArray = true)
    (hsp : monoAll sp) (h : wpGrow P L.dropLast.toArray w (fun a' w' => LastPost P L.dropLast.toArray o (OnlyNormal Q) .normal a' w') sp L.dropLast 0 [] a) : (Code.region id L.toArray true).wpIn F n P Q a w := by
  generalize L.dropLast = l at *
  subst hL
  refine wpIn_region_any hm (anyIn_of_any hF (noDefer_spec hnd) _ _ _ _ ?_)
  have := grow_any_last hB hB2 hsp h _ (Below.refl w.heap.size w).drew
  simpa using this
end
end Go.Proofs.Ytomlnflblecpbaa
