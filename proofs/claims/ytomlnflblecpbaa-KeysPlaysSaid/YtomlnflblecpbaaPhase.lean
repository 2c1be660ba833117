/-
  A region that draws its order, some of whose operations turn memory that was there, one behind the other: one walk, in the order of the text, serves every order.
-/
import Derived.Test.YtomlnflblecpbaaGrow
namespace Go.Proofs.Ytomlnflblecpbaa
set_option linter.unusedVariables false
set_option linter.unusedSimpArgs false
open Go.RowKit
section
variable {P : Program}

/-- What is known of an operation's value; of one that has its turn: which turn, and what is known of the state behind it. -/
structure PSpec where
  turn : Option (Nat × (Value → World → Prop))
  spec : Spec
/-- What operations of no turn may do (K0), what all may do (K). -/
structure PhaseK (K0 K : World → World → Prop) : Prop where
  refl : ∀ w, K w w
  trans : ∀ {a b c}, K a b → K b c → K a c
  sub : ∀ {a b}, K0 a b → K a b
  drew : ∀ w, K0 w w.drew
variable (P) (ops : Array Oper) (K0 K : World → World → Prop) (w0 : World) (Q : Act → World → Prop)
/-- What is owed of one operation. -/
def owes (o : Oper) (a : Act) (fs : List (Nat × (World → Prop))) (p : Nat) (I : World → Prop) (s : PSpec) : Prop :=
  match s.turn with
  | none => ∀ w, K w0 w → (∀ f ∈ fs, waits o f.1 = true → f.2 w) → growAt P o a w fun v w' => K0 w w' ∧ s.spec.tells v w'
  | some (k, J) => (k = p ∧ ∀ v w w', K0 w w' → J v w → J v w') ∧ ∀ w, K w0 w → (∀ f ∈ fs, waits o f.1 = true → f.2 w) → I w → growAt P o a w fun v w' => K w w' ∧ J v w' ∧ s.spec.tells v w'
def nextP (s : PSpec) (p : Nat) : Nat := match s.turn with | none => p | some (k, _) => k + 1
def nextI (s : PSpec) (I : World → Prop) (v : Value) : World → Prop := match s.turn with | none => I | some (_, J) => J v
def wpPhase : List PSpec → List Oper → Nat → Nat → (World → Prop) → List (Nat × (World → Prop)) → Act → Prop
  | [], [], _, _, I, fs, a => ∀ w, K w0 w → I w → (∀ f ∈ fs, f.2 w) → Q a w
  | s :: sp, o :: rest, i, p, I, fs, a =>
    if Region.wanted o (yielded ops a.tmps) = true then
      owes P K0 K w0 o a fs p I s ∧
      match s.spec with
      | .fixed c => wpPhase sp rest (i + 1) (nextP s p) (nextI s I c) fs (a.put o.dst c)
      | .free G => (∀ v w w', G v w → K w w' → G v w') ∧ ∀ v, wpPhase sp rest (i + 1) (nextP s p) (nextI s I v) ((i, G v) :: fs) (a.put o.dst v)
    else s.turn = none ∧ s.spec = .fixed undef ∧ wpPhase sp rest (i + 1) p I fs (a.put o.dst undef)
  | _, _, _, _, _, _, _ => False
end
section
variable {P : Program} {ops : Array Oper} {a0 : Act} {K0 K : World → World → Prop}

/-- Does operation i wait for operation j, at once or by others? -/
def waitsFor (ops : Array Oper) : Nat → Nat → Nat → Bool
  | 0, _, _ => false
  | n + 1, i, j => match ops[i]? with
    | none => false
    | some o => o.after.any fun e => Region.binds .any e && (e.on == j || waitsFor ops n e.on j)
/-- Operations have their turns one behind the other. -/
def turnsB (ops : Array Oper) (turns : List (Option Nat)) : Bool :=
  (List.range turns.length).all fun i => match turns[i]? with
    | some (some k) => ((List.range k).all fun m => (List.range turns.length).any fun j => decide (turns[j]? = some (some m)) && waitsFor ops ops.size i j) && ((List.range turns.length).all fun j => j == i || decide (turns[j]? ≠ some (some k)))
    | _ => true
def turnsOf (sp : List PSpec) : List (Option Nat) := sp.map fun s => s.turn.map (·.1)
structure TurnsOk (ops : Array Oper) (sp : List PSpec) : Prop where
  ahead : ∀ (i : Nat) (k : Nat) (J : Value → World → Prop) (s : Spec), sp[i]? = some ⟨some (k, J), s⟩ → ∀ m, m < k → ∃ j J' s', sp[j]? = some ⟨some (m, J'), s'⟩ ∧ waitsFor ops ops.size i j = true
  one : ∀ (i j k : Nat) (J J' : Value → World → Prop) (s s' : Spec), sp[i]? = some ⟨some (k, J), s⟩ → sp[j]? = some ⟨some (k, J'), s'⟩ → j = i
theorem turns_get {sp : List PSpec} {j m : Nat} (h : (turnsOf sp)[j]? = some (some m)) : ∃ J s, sp[j]? = some ⟨some (m, J), s⟩ := by
  unfold turnsOf at h
  rw [List.getElem?_map] at h
  cases hs : sp[j]? with
  | none => rw [hs] at h; cases h
  | some x =>
    rw [hs] at h
    obtain ⟨t, s⟩ := x
    cases t with
    | none => simp at h
    | some q =>
      obtain ⟨k, J⟩ := q
      simp at h
      exact ⟨J, s, by rw [h]⟩
theorem turns_put {sp : List PSpec} {j m : Nat} {J : Value → World → Prop} {s : Spec} (h : sp[j]? = some ⟨some (m, J), s⟩) : (turnsOf sp)[j]? = some (some m) := by
  unfold turnsOf
  rw [List.getElem?_map, h]; rfl
theorem turnsOk_of {ops : Array Oper} {sp : List PSpec} (h : turnsB ops (turnsOf sp) = true) : TurnsOk ops sp := by
  simp only [turnsB, List.all_eq_true, List.mem_range] at h
  have hl : ∀ {j m}, (turnsOf sp)[j]? = some (some m) → j < (turnsOf sp).length := fun {j m} hj => by
    rcases Nat.lt_or_ge j (turnsOf sp).length with h | h
    · exact h
    · rw [List.getElem?_eq_none h] at hj; cases hj
  refine ⟨fun i k J s hi m hm => ?_, fun i j k J J' s s' hi hj => ?_⟩
  · have hi' := turns_put hi
    have h1 := h i (hl hi')
    simp only [hi', Bool.and_eq_true, List.all_eq_true, List.mem_range, List.any_eq_true, decide_eq_true_eq] at h1
    obtain ⟨j, _, hj, hw⟩ := h1.1 m hm
    obtain ⟨J', s', hs⟩ := turns_get hj
    exact ⟨j, J', s', hs, hw⟩
  · have hi' := turns_put hi
    have hj' := turns_put hj
    have h1 := h i (hl hi')
    simp only [hi', Bool.and_eq_true, List.all_eq_true, List.mem_range, Bool.or_eq_true, beq_iff_eq, decide_eq_true_eq, ne_eq] at h1
    rcases h1.2 j (hl hj') with e | e
    · exact e
    · exact absurd hj' e
theorem waitsFor_listed {ops : Array Oper} {listed : Array Bool} (hc : ∀ (j : Nat) (o : Oper), ops[j]? = some o → listed.getD j false = true → ∀ e ∈ o.after, Region.binds .any e = true → listed.getD e.on false = true) :
    ∀ (n i j : Nat), waitsFor ops n i j = true → (∀ (o : Oper), ops[i]? = some o → ∀ e ∈ o.after, Region.binds .any e = true → listed.getD e.on false = true) → listed.getD j false = true
  | 0, _, _, h, _ => by cases h
  | n + 1, i, j, h, hi => by
    unfold waitsFor at h
    cases ho : ops[i]? with
    | none => rw [ho] at h; cases h
    | some o =>
      rw [ho] at h
      obtain ⟨e, he, h2⟩ := Array.any_eq_true'.1 h
      simp only [Bool.and_eq_true, Bool.or_eq_true, beq_iff_eq] at h2
      have hl := hi o ho e he h2.1
      rcases h2.2 with h3 | h3
      · rw [← h3]; exact hl
      · exact waitsFor_listed hc n e.on j h3 (fun o' ho' => hc e.on o' ho' hl)

def PFits (sp : List PSpec) (u : Nat → Value) : Prop := ∀ j c t, sp[j]? = some ⟨t, .fixed c⟩ → u j = c
def PFactsOf (sp : List PSpec) (u : Nat → Value) (i : Nat) (fs : List (Nat × (World → Prop))) : Prop := ∀ f ∈ fs, f.1 < i ∧ ∃ t G, sp[f.1]? = some ⟨t, .free G⟩ ∧ f.2 = G (u f.1)
/-- The state as it is behind p turns. -/
def PInv (sp : List PSpec) (u : Nat → Value) (I0 : World → Prop) (p : Nat) (w : World) : Prop := (p = 0 → I0 w) ∧ ∀ (j k : Nat) (J : Value → World → Prop) (s : Spec), sp[j]? = some ⟨some (k, J), s⟩ → p = k + 1 → J (u j) w
structure PAt (sp : List PSpec) (u : Nat → Value) (I0 : World → Prop) (i p : Nat) (I : World → Prop) : Prop where
  lt : ∀ (j k : Nat) (J : Value → World → Prop) (s : Spec), j < i → sp[j]? = some ⟨some (k, J), s⟩ → k < p
  had : ∀ m, m < p → ∃ (j : Nat) (J : Value → World → Prop) (s : Spec), j < i ∧ sp[j]? = some ⟨some (m, J), s⟩
  cur : (p = 0 ∧ I = I0) ∨ ∃ (j k : Nat) (J : Value → World → Prop) (s : Spec), j < i ∧ sp[j]? = some ⟨some (k, J), s⟩ ∧ p = k + 1 ∧ I = J (u j)
theorem PAt.inv {sp : List PSpec} {u : Nat → Value} {I0 : World → Prop} {i p : Nat} {I : World → Prop} (h : PAt sp u I0 i p I) {w : World} (hi : PInv sp u I0 p w) : I w := by
  rcases h.cur with ⟨rfl, rfl⟩ | ⟨j, k, J, s, _, hj, rfl, rfl⟩
  · exact hi.1 rfl
  · exact hi.2 j k J s hj rfl

theorem punroll (hg : GrowOk ops) {w0 : World} {Q : Act → World → Prop} {I0 : World → Prop} {sp : List PSpec} {u : Nat → Value} (hu : PFits sp u) (h : wpPhase P ops K0 K w0 Q sp ops.toList 0 0 I0 [] a0) :
    ∀ i, i ≤ ops.size → ∃ b fs p I, Slot ops a0 u (fun j => decide (j < i)) b ∧ PFactsOf sp u i fs ∧ PAt sp u I0 i p I ∧ wpPhase P ops K0 K w0 Q (sp.drop i) (ops.toList.drop i) i p I fs b
  | 0, _ => ⟨a0, [], 0, I0, (Slot.refl u).congr (fun j _ => by simp) (fun j h => by simp at h), fun f h => (by cases h), ⟨fun j k J s h => by omega, fun m h => by omega, .inl ⟨rfl, rfl⟩⟩, by simpa using h⟩
  | i + 1, hi => by
    obtain ⟨b, fs, p, I, hb, hf, hp, hw⟩ := punroll hg hu h i (by omega)
    have ho : ops[i]? = some ops[i] := Array.getElem?_eq_getElem (by omega)
    have hl : ops.toList.drop i = ops[i] :: ops.toList.drop (i + 1) := by
      rw [List.drop_eq_getElem_cons (by simp; omega)]; simp
    rw [hl] at hw
    cases hs : sp.drop i with
    | nil => rw [hs] at hw; simp [wpPhase] at hw
    | cons s sp' =>
      have hsi : sp[i]? = some s := by
        have := congrArg List.head? hs
        simpa [List.head?_drop] using this
      have hsp' : sp' = sp.drop (i + 1) := by
        have := congrArg List.tail hs
        simpa using this.symm
      rw [hs] at hw
      simp only [wpPhase] at hw
      have hslot : ∀ v, u i = v → Slot ops a0 u (fun j => decide (j < i + 1)) (b.put (ops[i]).dst v) := fun v hv =>
        (hb.put hg ho v).congr (fun j _ => by
          by_cases e : j = i
          · simp [add, e]
          · have : (j < i + 1) ↔ (j < i) := by omega
            simp [add, e, this]) (fun j _ => by
          by_cases e : j = i
          · simp [upd, e, hv]
          · simp [upd, e])
      have hfs : PFactsOf sp u (i + 1) fs := fun f hmem => ⟨Nat.lt_succ_of_lt (hf f hmem).1, (hf f hmem).2⟩
      have hpn : s.turn = none → PAt sp u I0 (i + 1) p I := by
        intro hn
        refine ⟨fun j k J s' hj hs' => ?_, fun m hm => ?_, ?_⟩
        · rcases Nat.lt_or_ge j i with h | h
          · exact hp.lt j k J s' h hs'
          · have e : j = i := by omega
            rw [e, hsi] at hs'
            injection hs' with hs'
            rw [hs'] at hn; cases hn
        · obtain ⟨j, J, s', h1, h2⟩ := hp.had m hm
          exact ⟨j, J, s', by omega, h2⟩
        · rcases hp.cur with hc | ⟨j, k, J, s', h1, h2⟩
          · exact .inl hc
          · exact .inr ⟨j, k, J, s', by omega, h2⟩
      have hpa : ∀ v, u i = v → (∀ k J, s.turn = some (k, J) → k = p) → PAt sp u I0 (i + 1) (nextP s p) (nextI s I v) := fun v hv hk => by
        obtain ⟨t, s'⟩ := s
        cases t with
        | none => exact hpn rfl
        | some q =>
          obtain ⟨k, J⟩ := q
          obtain rfl : k = p := hk k J rfl
          refine ⟨fun j k' J' s'' hj hs' => ?_, fun m hm => ?_, .inr ⟨i, k, J, s', by omega, hsi, rfl, by show J v = _; rw [hv]⟩⟩
          · show k' < k + 1
            rcases Nat.lt_or_ge j i with h | h
            · exact Nat.lt_succ_of_lt (hp.lt j k' J' s'' h hs')
            · have e : j = i := by omega
              rw [e, hsi] at hs'
              injection hs' with hs'
              injection hs' with h1 _
              injection h1 with h1
              injection h1 with h1 _
              omega
          · have hm' : m < k + 1 := hm
            rcases Nat.lt_or_ge m k with h | h
            · obtain ⟨j, J', s'', h1, h2⟩ := hp.had m h
              exact ⟨j, J', s'', by omega, h2⟩
            · have e : m = k := by omega
              exact ⟨i, J, s', by omega, by rw [e]; exact hsi⟩
      split at hw
      · obtain ⟨how, hw⟩ := hw
        have hkp : ∀ k J, s.turn = some (k, J) → k = p := fun k J e => by
          unfold owes at how
          rw [e] at how
          exact how.1.1
        obtain ⟨t, s'⟩ := s
        cases s' with
        | fixed c => exact ⟨_, fs, _, _, hslot c (hu i c t hsi), hfs, hpa c (hu i c t hsi) hkp, by rw [← hsp']; exact hw⟩
        | free G => exact ⟨_, (i, G (u i)) :: fs, _, _, hslot (u i) rfl, fun f hmem => by
            rcases List.mem_cons.1 hmem with rfl | hmem
            · exact ⟨Nat.lt_succ_self _, t, G, hsi, rfl⟩
            · exact hfs f hmem, hpa _ rfl hkp, by rw [← hsp']; exact hw.2 (u i)⟩
      · obtain ⟨h1, h2, hw⟩ := hw
        obtain ⟨t, s'⟩ := s
        obtain rfl : t = none := h1
        obtain rfl : s' = .fixed undef := h2
        exact ⟨_, fs, _, _, hslot undef (hu i _ none hsi), hfs, hpn rfl, by rw [← hsp']; exact hw⟩

theorem punroll_at (hg : GrowOk ops) {w0 : World} {Q : Act → World → Prop} {I0 : World → Prop} {sp : List PSpec} {u : Nat → Value} (hu : PFits sp u) (h : wpPhase P ops K0 K w0 Q sp ops.toList 0 0 I0 [] a0) (i : Nat) (o : Oper) (ho : ops[i]? = some o) :
    ∃ b fs p I s, Slot ops a0 u (fun j => decide (j < i)) b ∧ PFactsOf sp u i fs ∧ PAt sp u I0 i p I ∧ sp[i]? = some s ∧
      (Region.wanted o (yielded ops b.tmps) = true → owes P K0 K w0 o b fs p I s ∧ ∀ G, s.spec = .free G → ∀ v w w', G v w → K w w' → G v w') ∧
      (Region.wanted o (yielded ops b.tmps) = false → s = ⟨none, .fixed undef⟩) := by
  have hlt := (Array.getElem?_eq_some_iff.1 ho).1
  obtain ⟨b, fs, p, I, hb, hf, hp, hw⟩ := punroll hg hu h i (by omega)
  have hl : ops.toList.drop i = o :: ops.toList.drop (i + 1) := by
    rw [List.drop_eq_getElem_cons (by simpa using hlt)]
    have := (Array.getElem?_eq_some_iff.1 ho).2
    simp [this]
  rw [hl] at hw
  cases hs : sp.drop i with
  | nil => rw [hs] at hw; simp [wpPhase] at hw
  | cons s sp' =>
    have hsi : sp[i]? = some s := by
      have := congrArg List.head? hs
      simpa [List.head?_drop] using this
    rw [hs] at hw
    simp only [wpPhase] at hw
    refine ⟨b, fs, p, I, s, hb, hf, hp, hsi, fun hwant => ?_, fun hwant => ?_⟩
    · rw [if_pos hwant] at hw
      refine ⟨hw.1, fun G e => ?_⟩
      obtain ⟨t, s'⟩ := s
      obtain rfl : s' = .free G := e
      exact hw.2.1
    · rw [if_neg (by simp [hwant])] at hw
      obtain ⟨t, s'⟩ := s
      obtain ⟨h1, h2, _⟩ := hw
      obtain rfl : t = none := h1
      obtain rfl : s' = .fixed undef := h2
      rfl

structure PhaseInv (ops : Array Oper) (K : World → World → Prop) (a0 : Act) (w0 : World) (I0 : World → Prop) (sp : List PSpec) (u : Nat → Value) (listed : Array Bool) (a : Act) (w : World) (p : Nat) : Prop where
  size : listed.size = ops.size
  fits : PFits sp u
  slot : Slot ops a0 u (fun j => listed.getD j false) a
  keep : K w0 w
  tells : ∀ j t G, listed.getD j false = true → sp[j]? = some ⟨t, .free G⟩ → G (u j) w
  closed : ∀ (j : Nat) (o : Oper), ops[j]? = some o → listed.getD j false = true → ∀ e ∈ o.after, Region.binds .any e = true → listed.getD e.on false = true
  inv : PInv sp u I0 p w
  turn : ∀ j k J s, j < ops.size → sp[j]? = some ⟨some (k, J), s⟩ → (listed.getD j false = true ↔ k < p)
  had : ∀ m, m < p → ∃ j J s, j < ops.size ∧ sp[j]? = some ⟨some (m, J), s⟩

def pMono (K : World → World → Prop) (sp : List PSpec) : Prop := ∀ (j : Nat) t (G : Value → World → Prop), sp[j]? = some ⟨t, .free G⟩ → ∀ v w w', G v w → K w w' → G v w'
def pStay (K0 : World → World → Prop) (I0 : World → Prop) (sp : List PSpec) : Prop := (∀ w w', K0 w w' → I0 w → I0 w') ∧ ∀ (j : Nat) k J s, sp[j]? = some ⟨some (k, J), s⟩ → ∀ v w w', K0 w w' → J v w → J v w'

theorem growUpon_mono {P : Program} {R R' : Value → World → Prop} {r : Result Next} (hr : ∀ v w', R v w' → R' v w') (h : growUpon P R r) : growUpon P R' r := by
  cases r with
  | ok n w' =>
    cases n <;> simp only [growUpon] at h ⊢
    case value v => exact hr _ _ h
    case skip => exact hr _ _ h
    case enter f args => exact h.mono fun e w'' ⟨v, he, hR⟩ => ⟨v, he, hr _ _ hR⟩
  | halt x w' => simp only [growUpon] at h
theorem phase_len {P : Program} {ops' : Array Oper} {K0 K : World → World → Prop} {w0 : World} {Q : Act → World → Prop} : ∀ {sp : List PSpec} {l : List Oper} {i p : Nat} {I : World → Prop} {fs : List (Nat × (World → Prop))} {a : Act}, wpPhase P ops' K0 K w0 Q sp l i p I fs a → ∀ (u : Nat → Value), sp.length = l.length
  | [], [], _, _, _, _, _, _, _ => rfl
  | [], _ :: _, _, _, _, _, _, h, _ => by simp [wpPhase] at h
  | _ :: _, [], _, _, _, _, _, h, _ => by simp [wpPhase] at h
  | s :: sp, o :: l, i, p, I, fs, a, h, u => by
    simp only [wpPhase] at h
    rw [List.length_cons, List.length_cons]
    congr 1
    split at h
    · obtain ⟨_, h⟩ := h
      obtain ⟨t, s'⟩ := s
      cases s' with
      | fixed c => exact phase_len h u
      | free G => exact phase_len (h.2 undef) u
    · exact phase_len h.2.2 u

theorem phase_any (hg : GrowOk ops) (hK : PhaseK K0 K) {w0 : World} {I0 : World → Prop} {Q : Exit → Act → World → Prop} {sp : List PSpec} (hm : pMono K sp) (hst : pStay K0 I0 sp) (hto : TurnsOk ops sp)
    (h : wpPhase P ops K0 K w0 (fun a w => Q .normal a w) sp ops.toList 0 0 I0 [] a0) :
    ∀ (fuel : Nat) (u : Nat → Value) (listed : Array Bool) (a : Act) (w : World) (p : Nat), listed.toList.count false = fuel → PhaseInv ops K a0 w0 I0 sp u listed a w p → wpAny P .any ops Q fuel listed a w := by
  have hlen : sp.length = ops.size := by simpa using phase_len h (fun _ => undef)
  have hjlt : ∀ {j : Nat} {s : PSpec}, sp[j]? = some s → j < ops.size := fun {j s} hj => by
    rcases Nat.lt_or_ge j sp.length with h | h
    · omega
    · rw [List.getElem?_eq_none h] at hj; cases hj
  have done : ∀ (u : Nat → Value) (listed : Array Bool) (a : Act) (w : World) (p : Nat), PhaseInv ops K a0 w0 I0 sp u listed a w p → (∀ j, j < ops.size → listed.getD j false = true) → Q .normal a w := by
    intro u listed a w p hi hall
    obtain ⟨b, fs, p', I, hb, hf, hp, hw⟩ := punroll hg hi.fits h ops.size (Nat.le_refl _)
    have hba : a = b := hi.slot.unique hg (hb.congr (fun j hj => by simp only [hall j hj]; simp [hj]) (fun _ _ => rfl))
    subst hba
    have hdr : ops.toList.drop ops.size = [] := by simp
    rw [hdr] at hw
    cases hs : sp.drop ops.size with
    | cons s sp' => rw [hs] at hw; simp [wpPhase] at hw
    | nil =>
      rw [hs] at hw
      simp only [wpPhase] at hw
      have hpp : p' = p := by
        rcases Nat.lt_trichotomy p' p with hlt | rfl | hgt
        · exfalso
          obtain ⟨j, J, s, hj, hsj⟩ := hi.had p' hlt
          have := hp.lt j p' J s hj hsj
          omega
        · rfl
        · exfalso
          obtain ⟨j, J, s, hj, hsj⟩ := hp.had p hgt
          have := (hi.turn j p J s hj hsj).1 (hall j hj)
          omega
      subst hpp
      refine hw w hi.keep (hp.inv hi.inv) fun f hmem => ?_
      obtain ⟨hlt, t, G, hG, he⟩ := hf f hmem
      rw [he]
      exact hi.tells f.1 t G (hall _ hlt) hG
  have allOf : ∀ (u : Nat → Value) (listed : Array Bool) (a : Act) (w : World) (p : Nat), PhaseInv ops K a0 w0 I0 sp u listed a w p → Region.ready .any ops listed = [] → ∀ j, j < ops.size → listed.getD j false = true := by
    intro u listed a w p hi hr j
    exact all_of_ready hg.back hi.size hr j
  intro fuel
  induction fuel with
  | zero =>
    intro u listed a w p hc hi
    have hall : ∀ j, j < ops.size → listed.getD j false = true := fun j hj => by
      have hjs : j < listed.size := by rw [hi.size]; exact hj
      by_cases hl : listed[j] = true
      · simp [Array.getD, hjs, hl]
      · exfalso
        have hmem : false ∈ listed.toList := by
          have : listed[j] = false := by simpa using hl
          rw [← this]; simp
        have := List.count_pos_iff.2 hmem
        omega
    refine ⟨?_, done u listed a w p hi hall⟩
    rw [List.eq_nil_iff_forall_not_mem]
    intro j hj
    obtain ⟨hf, o, ho, _⟩ := mem_ready.1 hj
    have hj' := (Array.getElem?_eq_some_iff.1 ho).1
    have := hall j hj'
    have hjs : j < listed.size := by rw [hi.size]; exact hj'
    simp [Array.getD, hjs] at hf this
    rw [hf] at this
    cases this
  | succ fuel ih =>
    intro u listed a w p hc hi
    refine ⟨fun hr => done u listed a w p hi (allOf u listed a w p hi hr), fun i hir => ?_⟩
    obtain ⟨hun, o, ho, hdeps⟩ := mem_ready.1 hir
    have hlt := (Array.getElem?_eq_some_iff.1 ho).1
    have hjs : i < listed.size := by rw [hi.size]; exact hlt
    have hun' : listed[i] = false := by simpa [Array.getD, hjs] using hun
    have hunF : listed.getD i false = false := by simp [Array.getD, hjs, hun']
    obtain ⟨b, fs, p', I, s, hb, hf, hp, hsi, hwant, hnot⟩ := punroll_at hg hi.fits h i o ho
    have hread : ∀ t ∈ o.looksAt ops, a.tmps[t]? = b.tmps[t]? := fun t ht =>
      hi.slot.read hg hb t fun j oj hj hd => ⟨by
        by_cases hji : j = i
        · subst hji; simp [hunF]
        · rcases hg.read i j o oj t ho hj hji hd ht with ⟨h1, h2⟩ | ⟨h1, h2⟩
          · rw [waits_listed h2 hdeps]; simp [h1]
          · have : listed.getD j false = false := by
              by_cases hl : listed.getD j false = true
              · have := waits_listed h2 (hi.closed j oj hj hl)
                rw [hunF] at this; cases this
              · simpa using hl
            rw [this]
            have : ¬ j < i := by omega
            simp [this], fun _ => rfl⟩
    have hex : execOp a.eval o = execOp b.eval o := execOp_congr o (fun cs bb => Region.noSelect_spec hg.sel i o cs bb ho) (eval_of_slots hread)
    have hwa := wanted_of_slots hread
    have hget : ∀ j, (listed.setIfInBounds i true).getD j false = (j == i || listed.getD j false) := fun j => by
      by_cases e : j = i
      · subst e; simp [Array.getD, hjs]
      · have e' : i ≠ j := fun h => e h.symm
        by_cases hj : j < listed.size
        · simp [Array.getD, hj, e, Array.getElem_setIfInBounds, e']
        · simp [Array.getD, hj, e]
    -- what follows once it has yielded v, the world being w', the turn being p2
    have next : ∀ v w' p2, K w w' → (∀ c, s.spec = .fixed c → v = c) → (∀ G, s.spec = .free G → G v w') → PInv sp (upd u i v) I0 p2 w' →
        (∀ j k J s', j < ops.size → sp[j]? = some ⟨some (k, J), s'⟩ → ((j = i ∨ listed.getD j false = true) ↔ k < p2)) → (∀ m, m < p2 → ∃ j J s', j < ops.size ∧ sp[j]? = some ⟨some (m, J), s'⟩) →
        wpAny P .any ops Q fuel (listed.setIfInBounds i true) (a.put o.dst v) w' := by
      intro v w' p2 hkw hfix hfree hinv hturn hhad
      refine ih (upd u i v) _ _ _ p2 ?_ ⟨by simp [hi.size], ?_, ?_, hK.trans hi.keep hkw, ?_, ?_, hinv, ?_, hhad⟩
      · have hcs := List.count_set (a := true) (b := false) (l := listed.toList) (i := i) (by simpa using hjs)
        have e1 : (listed.toList[i]'(by simpa using hjs) == false) = true := by simp [hun']
        rw [Array.toList_setIfInBounds, hcs, if_pos e1, if_neg (by decide)]
        omega
      · intro j c t hj
        by_cases e : j = i
        · subst e
          rw [hsi] at hj
          cases hj
          simp only [upd, if_true]
          exact hfix c rfl
        · simp only [upd, e, if_false]; exact hi.fits j c t hj
      · exact (hi.slot.put hg ho v).congr (fun j _ => by rw [hget j]; rfl) (fun _ _ => rfl)
      · intro j t G hl hj
        by_cases e : j = i
        · subst e
          rw [hsi] at hj; cases hj
          simp only [upd, if_true]
          exact hfree G rfl
        · have hl' : listed.getD j false = true := by rw [hget j] at hl; simpa [e] using hl
          simp only [upd, e, if_false]
          exact hm j t G hj _ _ _ (hi.tells j t G hl' hj) hkw
      · intro j oj hj hl e he hbd
        rw [hget]
        by_cases ej : j = i
        · subst ej
          rw [ho] at hj; cases hj
          have h2 : listed.getD e.on false = true := hdeps e he hbd
          simp [h2]
        · have hl' : listed.getD j false = true := by rw [hget j] at hl; simpa [ej] using hl
          simp [hi.closed j oj hj hl' e he hbd]
      · intro j k J s' hj hs'
        rw [hget]
        have := hturn j k J s' hj hs'
        simp only [Bool.or_eq_true, beq_iff_eq]
        exact this
    -- an operation of no turn leaves the state
    have still : s.turn = none → ∀ v w', K0 w w' → PInv sp (upd u i v) I0 p w' := fun hn v w' hk => by
      refine ⟨fun e => hst.1 w w' hk (hi.inv.1 e), fun j k J s' hj e => ?_⟩
      have hne : j ≠ i := fun e2 => by
        subst e2
        rw [hsi] at hj
        injection hj with hj
        rw [hj] at hn; cases hn
      simp only [upd, hne, if_false]
      exact hst.2 j k J s' hj _ _ _ hk (hi.inv.2 j k J s' hj e)
    have sturn : s.turn = none → ∀ j k J s', j < ops.size → sp[j]? = some ⟨some (k, J), s'⟩ → ((j = i ∨ listed.getD j false = true) ↔ k < p) := fun hn j k J s' hj hs' => by
      have hne : j ≠ i := fun e2 => by
        subst e2
        rw [hsi] at hs'
        injection hs' with hs'
        rw [hs'] at hn; cases hn
      simp only [hne, false_or]
      exact hi.turn j k J s' hj hs'
    unfold wpOp
    simp only [ho]
    split
    · rename_i hw
      rw [hwa] at hw
      refine .inl ?_
      obtain ⟨how, _⟩ := hwant hw
      have hfacts : ∀ f ∈ fs, waits o f.1 = true → f.2 w := fun f hmem hwt => by
        obtain ⟨_, t, G, hG, he⟩ := hf f hmem
        rw [he]
        exact hi.tells f.1 t G (waits_listed hwt hdeps) hG
      unfold owes at how
      have main : growUpon P (fun v w' => K w w' ∧ s.spec.tells v w' ∧ wpAny P .any ops Q fuel (listed.setIfInBounds i true) (a.put o.dst v) w') ((execOp b.eval o).run P w) := by
        cases hts : s.turn with
        | none =>
          rw [hts] at how
          have hgw := (how w hi.keep hfacts).out
          refine growUpon_mono (fun v w' hq => ⟨hK.sub hq.1, hq.2, next v w' p (hK.sub hq.1) (fun c e => by have := hq.2; rw [e] at this; exact this) (fun G e => by have := hq.2; rw [e] at this; exact this) (still hts v w' hq.1) (sturn hts) hi.had⟩) hgw
        | some q =>
          obtain ⟨k, J⟩ := q
          rw [hts] at how
          obtain ⟨⟨hkp, hJ⟩, how⟩ := how
          have hsi' : sp[i]? = some ⟨some (k, J), s.spec⟩ := by rw [hsi, ← hts]
          have hnk : ¬ k < p := fun e => by
            have := (hi.turn i k J _ hlt hsi').2 e
            rw [hunF] at this; cases this
          have hpk : p = k := by
            rcases Nat.lt_or_ge p k with e | e
            · exfalso
              obtain ⟨j, J', s', hj, hwf⟩ := hto.ahead i k J _ hsi' p e
              have hl := waitsFor_listed hi.closed _ _ _ hwf (fun o' ho' => by rw [ho] at ho'; cases ho'; exact hdeps)
              have := (hi.turn j p J' s' (hjlt hj) hj).1 hl
              omega
            · omega
          have hpp : p' = p := by omega
          rw [hpp] at hp
          rw [← hpk] at hsi'
          have hgw := (how w hi.keep hfacts (hp.inv hi.inv)).out
          refine growUpon_mono (fun v w' hq => ⟨hq.1, hq.2.2, ?_⟩) hgw
          have n1 : PInv sp (upd u i v) I0 (p + 1) w' := by
            refine ⟨fun e => by omega, fun j k2 J' s' hj e => ?_⟩
            have e2 : k2 = p := by omega
            rw [e2] at hj
            have hji := hto.one i j p J J' _ s' hsi' hj
            rw [hji, hsi'] at hj
            injection hj with hj
            injection hj with h1 _
            injection h1 with h1
            injection h1 with _ h1
            rw [← h1, hji]
            simp only [upd, if_true]
            exact hq.2.1
          have n2 : ∀ (j k2 : Nat) (J' : Value → World → Prop) (s' : Spec), j < ops.size → sp[j]? = some ⟨some (k2, J'), s'⟩ → ((j = i ∨ listed.getD j false = true) ↔ k2 < p + 1) := by
            intro j k2 J' s' hj hs'
            constructor
            · rintro (hji | hl)
              · rw [hji, hsi'] at hs'
                injection hs' with hs'
                injection hs' with h1 _
                injection h1 with h1
                injection h1 with h1 _
                omega
              · have := (hi.turn j k2 J' s' hj hs').1 hl
                omega
            · intro e
              rcases Nat.lt_or_ge k2 p with h1 | h1
              · exact .inr ((hi.turn j k2 J' s' hj hs').2 h1)
              · have e2 : k2 = p := by omega
                rw [e2] at hs'
                exact .inl (hto.one i j p J J' _ s' hsi' hs')
          have n3 : ∀ m, m < p + 1 → ∃ (j : Nat) (J : Value → World → Prop) (s' : Spec), j < ops.size ∧ sp[j]? = some ⟨some (m, J), s'⟩ := by
            intro m hm'
            rcases Nat.lt_or_ge m p with h1 | h1
            · exact hi.had m h1
            · have e2 : m = p := by omega
              rw [e2]
              exact ⟨i, J, _, hlt, hsi'⟩
          exact next v w' (p + 1) hq.1 (fun c e => by have := hq.2.2; rw [e] at this; exact this) (fun G e => by have := hq.2.2; rw [e] at this; exact this) n1 n2 n3
      unfold Oper.wp
      rw [hex]
      generalize (execOp b.eval o).run P w = r at main
      cases r with
      | ok n w' =>
        cases n <;> simp only [growUpon] at main <;> simp only [Oper.upon]
        case value v => exact main.2.2
        case skip => exact main.2.2
        case enter f args => exact main.mono fun e w'' ⟨v, he, hR⟩ => by subst he; exact hR.2.2
      | halt x w' => simp only [growUpon] at main
    · rename_i hw
      rw [hwa] at hw
      have := hnot (by simpa using hw)
      subst this
      refine next undef w p (hK.refl w) (fun c e => by injection e) (fun G e => by cases e) ⟨hi.inv.1, fun j k J s' hj e => ?_⟩ (sturn rfl) hi.had
      have hne : j ≠ i := fun e2 => by subst e2; rw [hsi] at hj; cases hj
      simp only [upd, hne, if_false]
      exact hi.inv.2 j k J s' hj e

/-- What is owed of the specs at the end: read off the walk. -/
def tStay (K0 : World → World → Prop) : Option (Nat × (Value → World → Prop)) → Prop
  | none => True
  | some (_, J) => ∀ v w w', K0 w w' → J v w → J v w'
def pAll (K0 K : World → World → Prop) : List PSpec → Prop
  | [] => True
  | s :: sp => (match s.spec with | .fixed _ => True | .free G => ∀ v w w', G v w → K w w' → G v w') ∧ tStay K0 s.turn ∧ pAll K0 K sp
theorem pAll_at : ∀ {sp : List PSpec}, pAll K0 K sp → ∀ (j : Nat) (s : PSpec), sp[j]? = some s → (match s.spec with | .fixed _ => True | .free G => ∀ v w w', G v w → K w w' → G v w') ∧ tStay K0 s.turn
  | [], _, _, _, h => by simp at h
  | s :: sp, h, 0, s', e => by
    simp at e; subst e
    exact ⟨h.1, h.2.1⟩
  | s :: sp, h, j + 1, s', e => pAll_at h.2.2 j s' (by simpa using e)
theorem phase_all {P : Program} {ops' : Array Oper} {w0 : World} {Q : Act → World → Prop} : ∀ {sp : List PSpec} {l : List Oper} {i p : Nat} {I : World → Prop} {fs : List (Nat × (World → Prop))} {a : Act}, wpPhase P ops' K0 K w0 Q sp l i p I fs a → pAll K0 K sp
  | [], _, _, _, _, _, _, _ => trivial
  | _ :: _, [], _, _, _, _, _, h => by simp [wpPhase] at h
  | s :: sp, o :: l, i, p, I, fs, a, h => by
    simp only [wpPhase] at h
    split at h
    · obtain ⟨how, h⟩ := h
      obtain ⟨t, s'⟩ := s
      have ht : tStay K0 t := by
        cases t with
        | none => trivial
        | some q => exact how.1.2
      cases s' with
      | fixed c => exact ⟨trivial, ht, phase_all h⟩
      | free G => exact ⟨h.1, ht, phase_all (h.2 undef)⟩
    · obtain ⟨h1, h2, h⟩ := h
      obtain ⟨t, s'⟩ := s
      obtain rfl : t = none := h1
      obtain rfl : s' = .fixed undef := h2
      exact ⟨trivial, trivial, phase_all h⟩

/-- **ONE WALK IN THE ORDER OF THE TEXT, WITH TURNS.** -/
theorem wp_region_phase {id : Nat} {Q : Exit → Act → World → Prop} {a : Act} {w : World} {l : List Oper} (K0 K : World → World → Prop) (hK : PhaseK K0 K) (I0 : World → Prop) (h0 : I0 w) (hI : ∀ w w', K0 w w' → I0 w → I0 w') (sp : List PSpec)
    (hm : P.follows .mixedOrders = true) (hB : growB l.toArray = true)
    (h : wpPhase P l.toArray K0 K w (fun a' w' => Q .normal a' w') sp l 0 0 I0 [] a) (ht : turnsB l.toArray (turnsOf sp) = true) : (Code.region id l.toArray true).wp P Q a w := by
  have hpa := phase_all h
  refine wp_region_any hm (phase_any (growOk_of hB) hK (w0 := w) (a0 := a) (I0 := I0) (fun j t G hj => (pAll_at hpa j _ hj).1) ⟨hI, fun j k J s hj => by have := (pAll_at hpa j _ hj).2; exact this⟩ (turnsOk_of ht) (by simpa using h) _
    (fun j => match sp[j]? with | some ⟨_, .fixed c⟩ => c | _ => undef) _ _ _ 0 ?_ ⟨by simp, ?_, ?_, ?_, ?_, ?_, ⟨fun _ => hI _ _ (hK.drew w) h0, fun j k J s hj e => by omega⟩, ?_, fun m hm => by omega⟩)
  · simp [List.count_replicate]
  · intro j c t hj; simp [hj]
  · exact (Slot.refl _).congr (fun j hj => by simp at hj; simp [Array.getD, hj]) (fun _ _ => rfl)
  · exact hK.sub (hK.drew w)
  · intro j t G hl
    exfalso
    by_cases hj : j < l.length <;> simp [Array.getD, hj] at hl
  · intro j o ho hl
    exfalso
    by_cases hj : j < l.length <;> simp [Array.getD, hj] at hl
  · intro j k J s hj hs
    constructor
    · intro hl
      exfalso
      by_cases hj : j < l.length <;> simp [Array.getD, hj] at hl
    · intro e; omega
end

/-! ### The moves of the walk -/
section
variable {P : Program} {ops : Array Oper} {K0 K : World → World → Prop} {w0 : World} {Q : Act → World → Prop} {o : Oper} {rest : List Oper} {i p : Nat} {I : World → Prop} {fs : List (Nat × (World → Prop))} {a : Act} {sp : List PSpec}
theorem phase_fixed {c : Value} (hw : Region.wanted o (yielded ops a.tmps) = true)
    (ho : ∀ w, K w0 w → (∀ f ∈ fs, waits o f.1 = true → f.2 w) → growAt P o a w fun v w' => K0 w w' ∧ v = c)
    (h : wpPhase P ops K0 K w0 Q sp rest (i + 1) p I fs (a.put o.dst c)) : wpPhase P ops K0 K w0 Q (⟨none, .fixed c⟩ :: sp) (o :: rest) i p I fs a := by
  simp only [wpPhase]; rw [if_pos hw]; exact ⟨ho, h⟩
theorem phase_free {G : Value → World → Prop} (hw : Region.wanted o (yielded ops a.tmps) = true)
    (ho : ∀ w, K w0 w → (∀ f ∈ fs, waits o f.1 = true → f.2 w) → growAt P o a w fun v w' => K0 w w' ∧ G v w')
    (hm : ∀ v w w', G v w → K w w' → G v w')
    (h : ∀ v, wpPhase P ops K0 K w0 Q sp rest (i + 1) p I ((i, G v) :: fs) (a.put o.dst v)) : wpPhase P ops K0 K w0 Q (⟨none, .free G⟩ :: sp) (o :: rest) i p I fs a := by
  simp only [wpPhase]; rw [if_pos hw]; exact ⟨ho, hm, h⟩
theorem phase_turn {c : Value} {J : World → Prop} (hw : Region.wanted o (yielded ops a.tmps) = true)
    (ho : ∀ w, K w0 w → (∀ f ∈ fs, waits o f.1 = true → f.2 w) → I w → growAt P o a w fun v w' => K w w' ∧ J w' ∧ v = c)
    (hJ : ∀ w w', K0 w w' → J w → J w')
    (h : wpPhase P ops K0 K w0 Q sp rest (i + 1) (p + 1) J fs (a.put o.dst c)) : wpPhase P ops K0 K w0 Q (⟨some (p, fun _ => J), .fixed c⟩ :: sp) (o :: rest) i p I fs a := by
  simp only [wpPhase]; rw [if_pos hw]; exact ⟨⟨⟨rfl, fun _ => hJ⟩, ho⟩, h⟩
theorem phase_turn_free {G : Value → World → Prop} {J : Value → World → Prop} (hw : Region.wanted o (yielded ops a.tmps) = true)
    (ho : ∀ w, K w0 w → (∀ f ∈ fs, waits o f.1 = true → f.2 w) → I w → growAt P o a w fun v w' => K w w' ∧ J v w' ∧ G v w')
    (hJ : ∀ v w w', K0 w w' → J v w → J v w') (hm : ∀ v w w', G v w → K w w' → G v w')
    (h : ∀ v, wpPhase P ops K0 K w0 Q sp rest (i + 1) (p + 1) (J v) ((i, G v) :: fs) (a.put o.dst v)) : wpPhase P ops K0 K w0 Q (⟨some (p, J), .free G⟩ :: sp) (o :: rest) i p I fs a := by
  simp only [wpPhase]; rw [if_pos hw]; exact ⟨⟨⟨rfl, hJ⟩, ho⟩, hm, h⟩
theorem phase_skip (hw : Region.wanted o (yielded ops a.tmps) = false)
    (h : wpPhase P ops K0 K w0 Q sp rest (i + 1) p I fs (a.put o.dst undef)) : wpPhase P ops K0 K w0 Q (⟨none, .fixed undef⟩ :: sp) (o :: rest) i p I fs a := by
  unfold wpPhase; rw [if_neg (by simp [hw])]; exact ⟨rfl, rfl, h⟩
theorem phase_nil (h : ∀ w, K w0 w → I w → (∀ f ∈ fs, f.2 w) → Q a w) : wpPhase P ops K0 K w0 Q [] [] i p I fs a := by
  simp only [wpPhase]; exact h
end
/-- Blocks of S alone may turn; all others stay. -/
structure KeepS (S : Nat → Prop) (w w' : World) : Prop where
  os : w'.os = w.os
  tape : w'.tape = w.tape
  output : w'.output = w.output
  size : w.heap.size ≤ w'.heap.size
  block : ∀ k, k < w.heap.size → ¬ S k → w'.heap[k]? = w.heap[k]?
theorem KeepS.refl (S : Nat → Prop) (w : World) : KeepS S w w := ⟨rfl, rfl, rfl, Nat.le_refl _, fun _ _ _ => rfl⟩
theorem KeepS.trans {S : Nat → Prop} {a b c : World} (h : KeepS S a b) (k : KeepS S b c) : KeepS S a c :=
  ⟨k.os.trans h.os, k.tape.trans h.tape, k.output.trans h.output, Nat.le_trans h.size k.size, fun i hi hn => (k.block i (Nat.lt_of_lt_of_le hi h.size) hn).trans (h.block i hi hn)⟩
theorem KeepS.mono {S T : Nat → Prop} {a b : World} (h : KeepS S a b) (hs : ∀ k, k < a.heap.size → S k → T k) : KeepS T a b :=
  ⟨h.os, h.tape, h.output, h.size, fun i hi hn => h.block i hi fun e => hn (hs i hi e)⟩
/-- What grows alone. -/
def Grows (w w' : World) : Prop := Below w.heap.size w w'
theorem KeepS.of_grows {S : Nat → Prop} {w w' : World} (h : Grows w w') : KeepS S w w' := ⟨h.os, h.tape, h.output, h.size, fun k hk _ => h.block k hk⟩
theorem KeepS.below {S : Nat → Prop} {w w' : World} {B : Nat} (h : KeepS S w w') (hB : B ≤ w.heap.size) (hS : ∀ k, S k → B ≤ k) : Below B w w' :=
  ⟨h.os, h.tape, h.output, h.size, fun k hk => h.block k (Nat.lt_of_lt_of_le hk hB) fun e => by have := hS k e; omega⟩
theorem KeepS.of_grown {w w' : World} {row : Option Nat} {S : Nat → Prop} (h : w.grownBy w' row) (hS : ∀ k, row = some k → S k) : KeepS S w w' :=
  ⟨h.os, h.tape, h.output, h.size, fun k hk hn => h.block k hk fun e => hn (hS k e.symm)⟩
theorem Grows.refl (w : World) : Grows w w := Below.refl _ _
theorem phaseK (S : Nat → Prop) : PhaseK Grows (KeepS S) := ⟨KeepS.refl S, KeepS.trans, KeepS.of_grows, fun w => (Below.refl w.heap.size w).drew⟩
theorem KeepS.cell {S : Nat → Prop} {w w' : World} (h : KeepS S w w') {p : Addr} (hp : p.block < w.heap.size) (hn : ¬ S p.block) : w'.cell? p = w.cell? p := World.cell?_of_block (w := w) (h.block p.block hp hn)
end Go.Proofs.Ytomlnflblecpbaa
