/-
  A walk with turns through a region whose last operation waits for all others, at once or by others.
-/
import Derived.Test.YtomlnflblecpbaaPhase
namespace Go.Proofs.Ytomlnflblecpbaa
set_option linter.unusedVariables false
set_option linter.unusedSimpArgs false
open Go.RowKit
section
variable {P : Program}
structure LastOkT (ops : Array Oper) (o : Oper) : Prop where
  back : ∀ (i : Nat) (oi : Oper), ops[i]? = some oi → ∀ e ∈ oi.after, Region.binds .any e = true → e.on < i
  gd : ∀ (i : Nat) (oi : Oper) (j : Nat) (b : Bool), ops[i]? = some oi → oi.guard = some (j, b) → j < ops.size
  all : ∀ j, j < ops.size → waits o j = true ∨ ∃ m, m < ops.size ∧ waits o m = true ∧ waitsFor ops ops.size m j = true
  self : ∀ e ∈ o.after, Region.binds .any e = true → e.on < ops.size
def lastTB (ops : Array Oper) (o : Oper) : Bool :=
  (ops.all fun oi => match oi.guard with | none => true | some (j, _) => decide (j < ops.size)) &&
  ((List.range ops.size).all fun j => waits o j || (List.range ops.size).any fun m => waits o m && waitsFor ops ops.size m j) && o.after.all fun e => !Region.binds .any e || decide (e.on < ops.size)
theorem lastOkT_of {ops : Array Oper} {o : Oper} (hg : GrowOk ops) (h : lastTB ops o = true) : LastOkT ops o := by
  unfold lastTB at h
  simp only [Bool.and_eq_true] at h
  obtain ⟨⟨h1, h2⟩, h3⟩ := h
  refine ⟨hg.back, fun i oi j b hi he => ?_, fun j hj => ?_, fun e he hb => ?_⟩
  · obtain ⟨hl, rfl⟩ := Array.getElem?_eq_some_iff.1 hi
    have := Array.all_eq_true.1 h1 i hl
    rw [he] at this
    simpa using this
  · have := List.all_eq_true.1 h2 j (List.mem_range.2 hj)
    rw [Bool.or_eq_true] at this
    rcases this with h | h
    · exact .inl h
    · obtain ⟨m, hm, h⟩ := List.any_eq_true.1 h
      rw [Bool.and_eq_true] at h
      exact .inr ⟨m, List.mem_range.1 hm, h.1, h.2⟩
  · have := Array.all_eq_true_iff_forall_mem.1 h3 e he
    simpa [hb] using this
/-- What is listed has all listed that it waits for. -/
def ClosedL (ops : Array Oper) (listed : Array Bool) : Prop := ∀ (j : Nat) (o : Oper), ops[j]? = some o → listed.getD j false = true → ∀ e ∈ o.after, Region.binds .any e = true → listed.getD e.on false = true
theorem closed_set {ops : Array Oper} {listed : Array Bool} (hc : ClosedL ops listed) (hs : listed.size = ops.size) {i : Nat} (hi : i ∈ Region.ready .any ops listed) : ClosedL ops (listed.setIfInBounds i true) := fun j o ho hj e he hb => by
  have mono : ∀ q, listed.getD q false = true → (listed.setIfInBounds i true).getD q false = true := fun q hq => by
    rw [Array.getD_eq_getD_getElem?] at hq ⊢
    rw [Array.getElem?_setIfInBounds]
    by_cases hqi : i = q
    · subst hqi
      by_cases hl : i < listed.size
      · simp [hl]
      · rw [Array.getElem?_eq_none (by omega)] at hq; cases hq
    · rw [if_neg hqi]; exact hq
  obtain ⟨_, oi, hoi, hdeps⟩ := mem_ready.1 hi
  by_cases hji : j = i
  · subst hji
    rw [hoi] at ho
    cases ho
    exact mono _ (hdeps e he hb)
  · refine mono _ (hc j o ho ?_ e he hb)
    rw [Array.getD_eq_getD_getElem?] at hj ⊢
    rw [Array.getElem?_setIfInBounds, if_neg (fun e => hji e.symm)] at hj
    exact hj
theorem ready_push_ltT {ops : Array Oper} {o : Oper} (hl : LastOkT ops o) {listed : Array Bool} (hs : listed.size = ops.size) {b : Bool} {i : Nat} (hi : i < ops.size) :
    i ∈ Region.ready .any (ops.push o) (listed.push b) ↔ i ∈ Region.ready .any ops listed := by
  have e1 : (ops.push o)[i]? = ops[i]? := by rw [Array.getElem?_push]; simp [show i ≠ ops.size by omega]
  have e2 : (listed.push b).getD i true = listed.getD i true := getD_push_lt (by omega)
  simp only [mem_ready, e1, e2]
  constructor
  · rintro ⟨h1, oi, ho, h2⟩
    refine ⟨h1, oi, ho, fun e he hb => ?_⟩
    have := h2 e he hb
    rwa [getD_push_lt (by have := hl.back i oi ho e he hb; omega)] at this
  · rintro ⟨h1, oi, ho, h2⟩
    refine ⟨h1, oi, ho, fun e he hb => ?_⟩
    rw [getD_push_lt (by have := hl.back i oi ho e he hb; omega)]
    exact h2 e he hb
theorem allT_listed {ops : Array Oper} {o : Oper} (hl : LastOkT ops o) {listed : Array Bool} (hs : listed.size = ops.size) (hc : ClosedL ops listed) (j : Nat) (hj : j < ops.size) (h2 : ∀ e ∈ o.after, Region.binds .any e = true → (listed.push false).getD e.on false = true) : (listed.push false).getD j false = true := by
  rcases hl.all j hj with h | ⟨m, hm, h, hw⟩
  · exact waits_listed h h2
  · have hml := waits_listed h h2
    rw [getD_push_lt (by omega)] at hml ⊢
    exact waitsFor_listed hc ops.size m j hw (fun o' ho' => hc m o' ho' hml)
theorem last_runT {ops : Array Oper} {o : Oper} (hl : LastOkT ops o) {Q : Exit → Act → World → Prop} {listed : Array Bool} (hs : listed.size = ops.size) (hr : Region.ready .any ops listed = []) {a : Act} {w : World} (h : LastPost P ops o Q .normal a w) :
    wpOp P (ops.push o) Q ops.size (fun a w => Q .normal a w) a w := by
  unfold wpOp
  have e : (ops.push o)[ops.size]? = some o := by simp
  rw [e]
  dsimp only
  rw [if_pos h.1]
  refine .inl ?_
  have hgw := h.2.out
  unfold Oper.wp
  generalize (execOp a.eval o).run P w = r at hgw
  cases r with
  | ok n w' =>
    cases n <;> simp only [growUpon] at hgw <;> simp only [Oper.upon]
    case value v => exact hgw
    case skip => exact hgw
    case enter f args => exact hgw.mono fun e w'' ⟨v, he, hR⟩ => by subst he; exact hR
  | halt x w' => simp only [growUpon] at hgw
theorem any_lastT {ops : Array Oper} {o : Oper} (hl : LastOkT ops o) {Q : Exit → Act → World → Prop} :
    ∀ (fuel : Nat) (listed : Array Bool) (a : Act) (w : World), ClosedL ops listed → listed.size = ops.size → wpAny P .any ops (LastPost P ops o Q) fuel listed a w → wpAny P .any (ops.push o) Q (fuel + 1) (listed.push false) a w := by
  have fin : ∀ (fuel : Nat) (listed : Array Bool) (a : Act) (w : World), listed.size = ops.size → Region.ready .any ops listed = [] → LastPost P ops o Q .normal a w →
      (Region.ready .any (ops.push o) (listed.push false) = [] → Q .normal a w) ∧ ∀ i ∈ Region.ready .any (ops.push o) (listed.push false), wpOp P (ops.push o) Q i (wpAny P .any (ops.push o) Q fuel ((listed.push false).setIfInBounds i true)) a w := by
    intro fuel listed a w hs hr h
    have hall := all_of_ready hl.back hs hr
    refine ⟨fun h0 => ?_, fun i hi => ?_⟩
    · exfalso
      have : ops.size ∈ Region.ready .any (ops.push o) (listed.push false) := mem_ready.2 ⟨by rw [← hs]; exact getD_push_eq, o, by simp, fun e he hb => by
        have := hl.self e he hb
        rw [getD_push_lt (by omega)]; exact hall _ this⟩
      rw [h0] at this
      cases this
    · have hi2 : i < ops.size + 1 := by
        obtain ⟨_, oi, ho, _⟩ := mem_ready.1 hi
        have := (Array.getElem?_eq_some_iff.1 ho).1
        simpa using this
      by_cases hlt : i < ops.size
      · have := (ready_push_ltT hl hs hlt).1 hi
        rw [hr] at this
        cases this
      · have e : i = ops.size := by omega
        subst e
        refine wpOp_mono (fun a' w' hq => ?_) (last_runT hl hs hr h)
        have hset : (listed.push false).setIfInBounds ops.size true = listed.push true := by
          rw [← hs]; exact push_set_last _
        have hr2 : Region.ready .any (ops.push o) (listed.push true) = [] := by
          rw [List.eq_nil_iff_forall_not_mem]
          intro j hj
          by_cases hjl : j < ops.size
          · have := (ready_push_ltT hl hs hjl).1 hj
            rw [hr] at this
            cases this
          · obtain ⟨h1, oi, ho, _⟩ := mem_ready.1 hj
            have := (Array.getElem?_eq_some_iff.1 ho).1
            have : j = ops.size := by simp at this; omega
            subst this
            rw [← hs, getD_push_eq] at h1
            cases h1
        rw [hset]
        cases fuel with
        | zero => exact ⟨hr2, hq⟩
        | succ fuel => exact ⟨fun _ => hq, fun i hi => by rw [hr2] at hi; cases hi⟩
  intro fuel
  induction fuel with
  | zero => intro listed a w _ hs h; exact fin 0 listed a w hs h.1 h.2
  | succ fuel ih =>
    intro listed a w hc hs h
    by_cases hr : Region.ready .any ops listed = []
    · exact fin (fuel + 1) listed a w hs hr (h.1 hr)
    · refine ⟨fun h0 => ?_, fun i hi => ?_⟩
      · exfalso
        obtain ⟨j, hj⟩ := List.exists_mem_of_ne_nil _ hr
        have hjl : j < ops.size := by
          obtain ⟨_, oi, ho, _⟩ := mem_ready.1 hj
          exact (Array.getElem?_eq_some_iff.1 ho).1
        have := (ready_push_ltT (b := false) hl hs hjl).2 hj
        rw [h0] at this
        cases this
      · have hi2 : i < ops.size + 1 := by
          obtain ⟨_, oi, ho, _⟩ := mem_ready.1 hi
          have := (Array.getElem?_eq_some_iff.1 ho).1
          simpa using this
        have hlt : i < ops.size := by
          by_cases hlt : i < ops.size
          · exact hlt
          · exfalso
            have e : i = ops.size := by omega
            subst e
            obtain ⟨j, hj⟩ := List.exists_mem_of_ne_nil _ hr
            obtain ⟨h1, oj, hoj, _⟩ := mem_ready.1 hj
            have hjl := (Array.getElem?_eq_some_iff.1 hoj).1
            obtain ⟨_, oi, ho, h2⟩ := mem_ready.1 hi
            have : oi = o := by simpa using ho.symm
            subst this
            have hw := allT_listed hl hs hc j hjl h2
            rw [getD_push_lt (by omega)] at hw
            have hjs : j < listed.size := by omega
            simp [Array.getD, hjs] at h1 hw
            rw [h1] at hw; cases hw
        have h2 := h.2 i ((ready_push_ltT hl hs hlt).1 hi)
        have hset : (listed.push false).setIfInBounds i true = (listed.setIfInBounds i true).push false := push_set_lt _ (by omega)
        have e1 : (ops.push o)[i]? = ops[i]? := by rw [Array.getElem?_push]; simp [show i ≠ ops.size by omega]
        unfold wpOp at h2 ⊢
        rw [e1]
        cases ho : ops[i]? with
        | none => have := (Array.getElem?_eq_none_iff.1 ho); omega
        | some oi =>
          rw [ho] at h2
          dsimp only at h2 ⊢
          have hwa : Region.wanted oi (yielded (ops.push o) a.tmps) = Region.wanted oi (yielded ops a.tmps) := by
            unfold Region.wanted
            cases hgd : oi.guard with
            | none => rfl
            | some p =>
              obtain ⟨j, b⟩ := p
              have hj := hl.gd i oi j b ho hgd
              have e3 : (ops.push o)[j]? = ops[j]? := by rw [Array.getElem?_push]; simp [show j ≠ ops.size by omega]
              simp only [yielded, e3]
          rw [hwa]
          have hnext : ∀ a' w', wpAny P .any ops (LastPost P ops o Q) fuel (listed.setIfInBounds i true) a' w' → wpAny P .any (ops.push o) Q (fuel + 1) ((listed.push false).setIfInBounds i true) a' w' := fun a' w' hh => by
            rw [hset]; exact ih _ a' w' (closed_set hc hs ((ready_push_ltT hl hs hlt).1 hi)) (by simp [hs]) hh
          split
          · rename_i hw
            rw [if_pos hw] at h2
            rcases h2 with h2 | ⟨h2, h3⟩
            · refine .inl ?_
              have h4 := Oper.wp_mono hnext h2
              unfold Oper.wp at h4 ⊢
              generalize (execOp a.eval oi).run P w = r at h4
              cases r with
              | ok n w' =>
                cases n <;> exact h4
              | halt x w' => cases x <;> exact h4
            · exact .inr ⟨h2, h3⟩
          · rename_i hw
            rw [if_neg hw] at h2
            exact hnext _ _ h2
/-- **ONE WALK IN THE ORDER OF THE TEXT, WITH TURNS, AND A LAST OPERATION.** -/
theorem wp_region_phase_last {id : Nat} {Q : Exit → Act → World → Prop} {a : Act} {w : World} {L : List Oper} (o : Oper) (K0 K : World → World → Prop) (hK : PhaseK K0 K) (I0 : World → Prop) (h0 : I0 w) (hI : ∀ w w', K0 w w' → I0 w → I0 w') (sp : List PSpec)
    (hL : L = L.dropLast ++ [o]) (hm : P.follows .mixedOrders = true) (hB : growB L.dropLast.toArray = true) (hB2 : lastTB L.dropLast.toArray o = true)
    (h : wpPhase P L.dropLast.toArray K0 K w (fun a' w' => LastPost P L.dropLast.toArray o Q .normal a' w') sp L.dropLast 0 0 I0 [] a) (ht : turnsB L.dropLast.toArray (turnsOf sp) = true) : (Code.region id L.toArray true).wp P Q a w := by
  generalize L.dropLast = l at *
  subst hL
  refine wp_region_any hm ?_
  have hpa := phase_all h
  have hg := growOk_of hB
  have h1 := phase_any hg hK (w0 := w) (a0 := a) (Q := LastPost P l.toArray o Q) (I0 := I0) (fun j t G hj => (pAll_at hpa j _ hj).1) ⟨hI, fun j k J s hj => by have := (pAll_at hpa j _ hj).2; exact this⟩ (turnsOk_of ht) (by simpa using h) l.length
    (fun j => match sp[j]? with | some ⟨_, .fixed c⟩ => c | _ => undef) (Array.replicate l.length false) a w.drew 0 (by simp [List.count_replicate]) ⟨by simp, fun j c t hj => by simp [hj], (Slot.refl _).congr (fun j hj => by simp at hj; simp [Array.getD, hj]) (fun _ _ => rfl), hK.sub (hK.drew w), fun j t G hl => by
      exfalso
      by_cases hj : j < l.length <;> simp [Array.getD, hj] at hl, fun j o ho hl => by
      exfalso
      by_cases hj : j < l.length <;> simp [Array.getD, hj] at hl, ⟨fun _ => hI _ _ (hK.drew w) h0, fun j k J s hj e => by omega⟩, fun j k J s hj hs => ⟨fun hl => by
        exfalso
        by_cases hj : j < l.length <;> simp [Array.getD, hj] at hl, fun e => by omega⟩, fun m hm => by omega⟩
  have h2 := any_lastT (lastOkT_of hg hB2) l.length (Array.replicate l.length false) a w.drew (fun j o ho hl => by
    exfalso
    by_cases hj : j < l.length <;> simp [Array.getD, hj] at hl) (by simp) h1
  have e1 : (l ++ [o]).toArray = l.toArray.push o := by simp
  have e2 : (Array.replicate (l.length + 1) false) = (Array.replicate l.length false).push false := by
    rw [Array.replicate_succ]
  have : wpAny P .any (l ++ [o]).toArray Q (l.length + 1) (Array.replicate (l.length + 1) false) a w.drew := by
    rw [e1, e2]; exact h2
  simpa using this
end
end Go.Proofs.Ytomlnflblecpbaa
