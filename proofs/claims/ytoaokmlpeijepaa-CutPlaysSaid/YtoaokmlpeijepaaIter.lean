/-
  The cutter's iterator.
-/
import Derived.Test.YtoaokmlpeijepaaState
import Derived.Test.YtoaokmlpeijepaaGrow
import Derived.RangeFuncNested
import Derived.RangeFuncCalls
import Derived.WalkKit
import Derived.OwnWalkIn
import Derived.TacticsInMore
import Derived.Sort.LoopGhostIn
namespace Go.Proofs.Ytoaokmlpeijepaa
set_option linter.unusedVariables false
set_option linter.unusedSimpArgs false
open Go.RowKit Go.Proofs.YtoaokmlpeijepaaW.PrintWords
attribute [local go_sem] Oper.semAt_some

theorem full_in (F : Fence) (n : Nat) (h22 : F.fn 22) (hro : F.round = none) (g : Nat) (w : World) :
    CallsIn F n Try.prog 22 #[.pointer (some ⟨g, 0, none⟩)] w fun e w' => e = .returned (.func (.func 24) #[] #[.pointer (some ⟨w.heap.size, 0, none⟩)]) ∧ w' = w.alloc (.cells #[.pointer (some ⟨g, 0, none⟩)] 25) := by
  refine callsIn_of_wp Try.func22 rfl h22 ?_ hro
  simp only [Try.ntmps22, List.size_toArray, List.length_cons, List.length_nil, Nat.reduceAdd, Nat.reduceSub, Array.replicate_succ, Array.replicate_zero, List.push_toArray, List.append_toArray, List.nil_append, List.cons_append]
  gi_wp2
  go_ret
  exact ⟨rfl, rfl⟩
/-- Rows of bytes, cutters and boxes of these are as they were. -/
structure TypeKept (W W' : World) : Prop where
  size : W.heap.size ≤ W'.heap.size
  same : ∀ (k : Nat) (cs : Array Value) (t : TypeId) (fr : Nat × Nat), W.heap[k]? = some (Obj.cells cs t fr) → t = 5 ∨ t = 25 ∨ t = 45 → W'.heap[k]? = some (Obj.cells cs t fr)
theorem TypeKept.trans {A B C : World} (h : TypeKept A B) (k : TypeKept B C) : TypeKept A C := ⟨Nat.le_trans h.size k.size, fun i cs t fr e ht => k.same i cs t fr (h.same i cs t fr e ht) ht⟩
theorem TypeKept.put (W : World) (l : Nat) (o o' : Obj) (hl : W.heap[l]? = some o) (ho : o.isCells = false) : TypeKept W (W.putObj l o') :=
  ⟨by simp, fun k cs t fr e ht => by
    by_cases h : k = l
    · subst h; rw [hl] at e; cases e; cases ho
    · rw [World.putObj_heap_other h]; exact e⟩
/-- What is handed out: so many bytes in a block. -/
def enc1 (each : Nat) (x : Nat × Nat) : Array Value := #[.slice (some ⟨x.1, 0, none⟩) each x.2]
def chunk (L : List Int) (each j : Nat) : List Int := (L.drop (each * j)).take each
def Piece (W : World) (n0 : Nat) (x : Nat × Nat) (ch : List Int) : Prop := W.ownsRow n0 5 1 (.slice (some ⟨x.1, 0, none⟩) ch.length x.2) ch.length (nums .u8 ch)
theorem Piece.blk {W : World} {n0 : Nat} {x : Nat × Nat} {ch : List Int} (h : Piece W n0 x ch) : n0 ≤ x.1 ∧ ∃ cs, W.heap[x.1]? = some (Obj.cells cs 5 (0, 0)) := by
  rcases h.2 with ⟨e, _⟩ | ⟨g, cap, cur, e, h1, h2, _⟩
  · cases e
  · injection e with e1 e2 e3
    injection e1 with e1
    injection e1 with e1
    rw [e1]; exact ⟨h1, cur, h2⟩
theorem Piece.step {W W' : World} {n0 : Nat} {x : Nat × Nat} {ch : List Int} (h : Piece W n0 x ch) (hk : ∀ (cs : Array Value), W.heap[x.1]? = some (Obj.cells cs 5 (0, 0)) → W'.heap[x.1]? = some (Obj.cells cs 5 (0, 0))) : Piece W' n0 x ch := by
  rcases h.2 with ⟨e, _⟩ | ⟨g, cap, cur, e, h1, h2, h3⟩
  · cases e
  · have e0 := e
    injection e with e1 e2 e3
    injection e1 with e1
    injection e1 with e1
    refine ⟨h.1, .inr ⟨g, cap, cur, e0, h1, ?_, h3⟩⟩
    rw [← e1] at h2 ⊢
    exact hk cur h2
/-- An address that lies in no block below n0. -/
def From (n0 : Nat) (A : Option Addr) : Prop := ∀ ad, A = some ad → n0 ≤ ad.block
theorem From.add {n0 : Nat} {A : Option Addr} (h : From n0 A) (n : Nat) : From n0 (A.map (·.add n)) := by
  intro ad e
  cases A with
  | none => cases e
  | some a =>
    have e' := Option.some.inj e
    have hb : (a.add n).block = a.block := by unfold Addr.add; split <;> rfl
    have := h a rfl
    rw [← e']
    show n0 ≤ (a.add n).block
    rw [hb]
    exact this
theorem From.ite {n0 : Nat} {c : Prop} [Decidable c] {A B : Option Addr} (h : From n0 A) (k : From n0 B) : From n0 (if c then A else B) := by
  split
  · exact h
  · exact k
/-- An address whose block stands ahead of all that were handed out. -/
def Ahead (A : Option Addr) (xs : List (Nat × Nat)) : Prop := ∀ ad, A = some ad → ∀ x ∈ xs, ad.block < x.1
theorem Ahead.add {A : Option Addr} {xs : List (Nat × Nat)} (h : Ahead A xs) (n : Nat) : Ahead (A.map (·.add n)) xs := by
  intro ad e x hx
  cases A with
  | none => cases e
  | some a =>
    have e' := Option.some.inj e
    have hb : (a.add n).block = a.block := by unfold Addr.add; split <;> rfl
    have := h a rfl x hx
    rw [← e']
    show (a.add n).block < x.1
    rw [hb]
    exact this
theorem Ahead.ite {xs : List (Nat × Nat)} {c : Prop} [Decidable c] {A B : Option Addr} (h : Ahead A xs) (k : Ahead B xs) : Ahead (if c then A else B) xs := by
  split
  · exact h
  · exact k
theorem Ahead.snoc {A : Option Addr} {xs : List (Nat × Nat)} (h : Ahead A xs) {x : Nat × Nat} (hx : ∀ ad, A = some ad → ad.block < x.1) : Ahead A (xs ++ [x]) := by
  intro ad e y hy
  rcases List.mem_append.1 hy with hy | hy
  · exact h ad e y hy
  · rw [List.mem_singleton] at hy
    rw [hy]; exact hx ad e
/-- All that was handed out, and the cutter. -/
structure Out (W : World) (g n0 : Nat) (each : Nat) (all : Int) (L : List Int) (xs : List (Nat × Nat)) : Prop where
  le : each * xs.length ≤ L.length
  cut : ∃ A c, CutAt W g each all A c (L.drop (each * xs.length)) ∧ From n0 A ∧ Ahead A xs
  piece : ∀ (j : Nat) (x : Nat × Nat), xs[j]? = some x → Piece W n0 x (chunk L each j)
  rise : (xs.map Prod.fst).Pairwise (· < ·)
theorem Out.step {W W' : World} {g n0 each : Nat} {all : Int} {L : List Int} {xs : List (Nat × Nat)} (h : Out W g n0 each all L xs) (hg : W'.heap[g]? = W.heap[g]?) (hk : ∀ (b : Nat) (cs : Array Value), W.heap[b]? = some (Obj.cells cs 5 (0, 0)) → W'.heap[b]? = some (Obj.cells cs 5 (0, 0))) : Out W' g n0 each all L xs :=
  ⟨h.le, let ⟨A, c, hc, hf⟩ := h.cut; ⟨A, c, hc.step hg hk, hf⟩, fun j x e => (h.piece j x e).step (fun cs => hk x.1 cs), h.rise⟩
theorem Out.kept {W W' : World} {g n0 each : Nat} {all : Int} {L : List Int} {xs : List (Nat × Nat)} (h : Out W g n0 each all L xs) (hk : TypeKept W W') : Out W' g n0 each all L xs := by
  obtain ⟨A, c, hc, hf⟩ := h.cut
  exact h.step ((hk.same g _ 45 (0, 0) hc.blk (.inr (.inr rfl))).trans hc.blk.symm) (fun b cs e => hk.same b cs 5 (0, 0) e (.inl rfl))
theorem Out.below {W W' : World} {g n0 each : Nat} {all : Int} {L : List Int} {xs : List (Nat × Nat)} (h : Out W g n0 each all L xs) (hb : Below W.heap.size W W') : Out W' g n0 each all L xs := by
  obtain ⟨A, c, hc, hf⟩ := h.cut
  exact h.step (hb.block g hc.lt) (fun b cs e => (hb.block b (lt_heap e)).trans e)

theorem piece_of {W : World} {B n0 b each : Nat} {v : Value} {ch : List Int} (h : W.ownsRow B 5 1 v ch.length (nums .u8 ch)) (hp : 0 < ch.length) (he : ch.length = each) (hn : n0 ≤ B) (hb : b ≤ B) :
    ∃ x : Nat × Nat, v = .slice (some ⟨x.1, 0, none⟩) each x.2 ∧ Piece W n0 x ch ∧ b ≤ x.1 := by
  rcases h.2 with ⟨_, h0⟩ | ⟨g, cap, cur, e, h1, h2, h3⟩
  · omega
  · subst e
    exact ⟨(g, cap), by rw [he], ⟨h.1, .inr ⟨g, cap, cur, rfl, by omega, h2, h3⟩⟩, by show b ≤ g; omega⟩
theorem drop_chunk (L : List Int) (each k : Nat) : (L.drop (each * k)).drop each = L.drop (each * (k + 1)) := by rw [List.drop_drop, Nat.mul_succ]

set_option maxRecDepth 100000 in
set_option maxHeartbeats 4000000 in
theorem full1_in (n : Nat) (hn : 1 ≤ n) (l Bs g n0 : Nat) (each : Nat) (all : Int) (L : List Int) (he : 1 ≤ each) (he2 : each ≤ 4096) (hL : L.length ≤ 140737488355328) (J : List (Nat × Nat) → World → Prop)
    (hJ : ∀ s A B, J s A → A.grownBy B (some g) → J s B) (hY : ∀ pre x W1, J pre W1 → pre.length < L.length → YieldAt Fence.wide (n - 1) Try.prog l (enc1 each x) W1 fun e W' => e = .returned (.bool true) ∧ J (pre ++ [x]) W' ∧ TypeKept W1 W')
    (W : World) (hBs : W.heap[Bs]? = some (Obj.cells #[.pointer (some ⟨g, 0, none⟩)] 25 (0, 0))) (A : Option Addr) (c : Nat) (hc : CutAt W g each all A c L) (hfrom : From n0 A) (hn0 : n0 ≤ W.heap.size) (h0 : J [] W) :
    CallsIn Fence.wide n Try.prog 24 #[.func (.yield l) #[] #[], .pointer (some ⟨Bs, 0, none⟩)] W fun e W' => (∃ v, e = .returned v) ∧ ∃ xs, (Out W' g n0 each all L xs ∧ L.length < each * (xs.length + 1)) ∧ J xs W' := by
  have HC := Aside0.mk hc
  have HBS := Aside0.mk hBs
  have HF0 := Aside0.mk hfrom
  have HN0' := Aside0.mk hn0
  have HJ := Aside0.mk hJ
  have HL := Aside0.mk hL
  have hro : Fence.wide.round = none := rfl
  have hmx : Try.prog.follows .mixedOrders = true := by kernel_rfl
  clear hc hBs hn0 hJ hL hfrom
  refine callsIn_of_wp Try.func24 rfl trivial ?_ hro
  simp only [Try.ntmps24, List.size_toArray, List.length_cons, List.length_nil, Nat.reduceAdd, Nat.reduceSub, Array.replicate_succ, Array.replicate_zero, List.push_toArray, List.append_toArray, List.nil_append, List.cons_append]
  gi_wp2
  gi_loopg [3] L.length (fun q v3 wz => ∃ pre, Aside0 (q = L.length - each * pre.length) ∧ Aside0 (Out wz g n0 each all L pre) ∧ Aside0 (J pre wz) ∧ Aside0 (wz.heap[Bs]? = some (Obj.cells #[.pointer (some ⟨g, 0, none⟩)] 25 (0, 0))) ∧ Aside0 (n0 ≤ wz.heap.size))
  case atStart => exact ⟨[], ⟨by simp⟩, ⟨⟨by simp, ⟨A, c, HC.out, HF0.out, fun _ _ x hx => by simp at hx⟩, fun j x e => by simp at e, by simp⟩⟩, ⟨h0⟩, HBS, HN0'⟩
  case round =>
    obtain ⟨pre, HQ, HO, HJP, HBX, HN0⟩ := hrel
    obtain ⟨A', c, hcut, hfr⟩ := HO.out.cut
    have HFR := Aside0.mk hfr
    clear hfr
    have HLL := Aside0.mk (show (L.drop (each * pre.length)).length = L.length - each * pre.length from List.length_drop)
    have HCH := Aside0.mk (show (L.drop (each * pre.length)).take each = chunk L each pre.length from rfl)
    have HDR := Aside0.mk (drop_chunk L each pre.length)
    generalize L.drop (each * pre.length) = LL at hcut HLL HCH HDR
    have hle := hcut.le
    have HCUT := Aside0.mk hcut
    have HBOX := Aside0.mk (cell_of_row wr Bs 0 _ 25 (0, 0) HBX.out)
    clear hcut
    by_cases hge : each ≤ LL.length
    · have hd1 : decide (each ≤ LL.length) = true := by simpa using hge
      have hd2 : decide ((each : Int) ≤ (LL.length : Int)) = true := by simp; omega
      have hec : each ≤ c := by omega
      have hec2 : (each : Int) ≤ (c : Int) := by omega
      obtain ⟨ad, rfl⟩ : ∃ ad, A' = some ad := by
        obtain ⟨ad, e, _⟩ := (HCUT.out.left.reads (by have := HLL.out; have := HL.out; omega)).2.2 (by omega)
        exact ⟨ad, e⟩
      have HTK := Aside0.mk (show (LL.take each).length = each by rw [List.length_take]; omega)
      gi_wp2
      apply wpIn_region_grow (hF := lets_wide) (hm := by kernel_rfl) (hB := by kernel_rfl) (hnd := by kernel_rfl)
      case h =>
        apply grow_fixed
        case hw => simp [Region.wanted, yielded]
        case ho =>
          intro w' hb hf
          clear hf
          have k0 := (HCUT.out.below hb).c0
          have k2 := (HCUT.out.below hb).c2
          have kb := pw_cell_below hb HBOX.out
          refine ⟨?_⟩
          go_simp
          exact ⟨Ext.refl _ _, rfl⟩
        simp only [Act.put]
        apply grow_fixed
        case hw => simp [Region.wanted, yielded]
        case ho =>
          intro w' hb hf
          clear hf
          have k0 := (HCUT.out.below hb).c0
          have k2 := (HCUT.out.below hb).c2
          have kb := pw_cell_below hb HBOX.out
          refine ⟨?_⟩
          go_simp
          exact ⟨Ext.refl _ _, rfl⟩
        simp only [Act.put]
        apply grow_fixed
        case hw => simp [Region.wanted, yielded]
        case ho =>
          intro w' hb hf
          clear hf
          have k0 := (HCUT.out.below hb).c0
          have k2 := (HCUT.out.below hb).c2
          have kb := pw_cell_below hb HBOX.out
          refine ⟨?_⟩
          go_simp
          exact ⟨Ext.refl _ _, rfl⟩
        simp only [Act.put]
        apply grow_fixed
        case hw => simp [Region.wanted, yielded]
        case ho =>
          intro w' hb hf
          clear hf
          have k0 := (HCUT.out.below hb).c0
          have k2 := (HCUT.out.below hb).c2
          have kb := pw_cell_below hb HBOX.out
          refine ⟨?_⟩
          go_simp
          exact ⟨Ext.refl _ _, rfl⟩
        simp only [Act.put]
        apply grow_fixed
        case hw => simp [Region.wanted, yielded]
        case ho =>
          intro w' hb hf
          clear hf
          have k0 := (HCUT.out.below hb).c0
          have k2 := (HCUT.out.below hb).c2
          have kb := pw_cell_below hb HBOX.out
          refine ⟨?_⟩
          go_simp
          exact ⟨Ext.refl _ _, rfl⟩
        simp only [Act.put]
        apply grow_fixed
        case hw => simp [Region.wanted, yielded]
        case ho =>
          intro w' hb hf
          clear hf
          have k0 := (HCUT.out.below hb).c0
          have k2 := (HCUT.out.below hb).c2
          have kb := pw_cell_below hb HBOX.out
          refine ⟨?_⟩
          go_simp
          exact ⟨Ext.refl _ _, rfl⟩
        simp only [Act.put]
        apply grow_fixed
        case hw => simp [Region.wanted, yielded]
        case ho =>
          intro w' hb hf
          clear hf
          have k0 := (HCUT.out.below hb).c0
          have k2 := (HCUT.out.below hb).c2
          have kb := pw_cell_below hb HBOX.out
          refine ⟨?_⟩
          go_simp
          exact ⟨Ext.refl _ _, rfl⟩
        simp only [Act.put]
        apply grow_fixed
        case hw => simp [Region.wanted, yielded]
        case ho =>
          intro w' hb hf
          clear hf
          have k0 := (HCUT.out.below hb).c0
          have k2 := (HCUT.out.below hb).c2
          have kb := pw_cell_below hb HBOX.out
          refine ⟨?_⟩
          go_simp
          exact ⟨Ext.refl _ _, rfl⟩
        simp only [Act.put]
        apply grow_fixed
        case hw => simp [Region.wanted, yielded]
        case ho =>
          intro w' hb hf
          clear hf
          have k0 := (HCUT.out.below hb).c0
          have k2 := (HCUT.out.below hb).c2
          have kb := pw_cell_below hb HBOX.out
          refine ⟨?_⟩
          go_simp
          exact ⟨Ext.refl _ _, rfl⟩
        simp only [Act.put]
        apply grow_fixed
        case hw => simp [Region.wanted, yielded]
        case ho =>
          intro w' hb hf
          clear hf
          have k0 := (HCUT.out.below hb).c0
          have k2 := (HCUT.out.below hb).c2
          have kb := pw_cell_below hb HBOX.out
          refine ⟨?_⟩
          go_simp
          exact ⟨Ext.refl _ _, rfl⟩
        simp only [Act.put]
        refine grow_nil (fun w5 hb hf => ?_)
        clear hf
        have HO5 := Aside0.mk (HO.out.below hb)
        have HJ5 := Aside0.mk (HJ.out _ _ _ HJP.out (grown_of_below hb (some g)))
        have HBX5 := Aside0.mk ((hb.block Bs (lt_heap HBX.out)).trans HBX.out)
        have HN5 := Aside0.mk (Nat.le_trans HN0.out hb.size)
        have HCUT5 := Aside0.mk (HCUT.out.below hb)
        have HBOX5 := Aside0.mk (pw_cell_below hb HBOX.out)
        clear hb HO HJP HBX HN0 HCUT HBOX
        simp only [List.setIfInBounds_toArray, List.set_cons_zero, List.set_cons_succ]
        repeat gi_step
        apply wpIn_region_grow (hF := lets_wide) (hm := by kernel_rfl) (hB := by kernel_rfl) (hnd := by kernel_rfl)
        case h =>
          apply grow_fixed
          case hw => simp [Region.wanted, yielded]
          case ho =>
            intro w' hb hf
            clear hf
            have k0 := (HCUT5.out.below hb).c0
            have k2 := (HCUT5.out.below hb).c2
            have kb := pw_cell_below hb HBOX5.out
            refine ⟨?_⟩
            go_simp
            exact ⟨Ext.refl _ _, rfl⟩
          simp only [Act.put]
          apply grow_fixed
          case hw => simp [Region.wanted, yielded]
          case ho =>
            intro w' hb hf
            clear hf
            have k0 := (HCUT5.out.below hb).c0
            have k2 := (HCUT5.out.below hb).c2
            have kb := pw_cell_below hb HBOX5.out
            refine ⟨?_⟩
            go_simp
            exact ⟨Ext.refl _ _, rfl⟩
          simp only [Act.put]
          apply grow_fixed
          case hw => simp [Region.wanted, yielded]
          case ho =>
            intro w' hb hf
            clear hf
            have k0 := (HCUT5.out.below hb).c0
            have k2 := (HCUT5.out.below hb).c2
            have kb := pw_cell_below hb HBOX5.out
            refine ⟨?_⟩
            go_simp
            exact ⟨Ext.refl _ _, rfl⟩
          simp only [Act.put]
          apply grow_fixed
          case hw => simp [Region.wanted, yielded]
          case ho =>
            intro w' hb hf
            clear hf
            have k0 := (HCUT5.out.below hb).c0
            have k2 := (HCUT5.out.below hb).c2
            have kb := pw_cell_below hb HBOX5.out
            refine ⟨?_⟩
            go_simp
            exact ⟨Ext.refl _ _, rfl⟩
          simp only [Act.put]
          apply grow_fixed
          case hw => simp [Region.wanted, yielded]
          case ho =>
            intro w' hb hf
            clear hf
            have k0 := (HCUT5.out.below hb).c0
            have k2 := (HCUT5.out.below hb).c2
            have kb := pw_cell_below hb HBOX5.out
            refine ⟨?_⟩
            go_simp
            exact ⟨Ext.refl _ _, rfl⟩
          simp only [Act.put]
          apply grow_fixed
          case hw => simp [Region.wanted, yielded]
          case ho =>
            intro w' hb hf
            clear hf
            have k0 := (HCUT5.out.below hb).c0
            have k2 := (HCUT5.out.below hb).c2
            have kb := pw_cell_below hb HBOX5.out
            refine ⟨?_⟩
            go_simp
            exact ⟨Ext.refl _ _, rfl⟩
          simp only [Act.put]
          apply grow_fixed
          case hw => simp [Region.wanted, yielded]
          case ho =>
            intro w' hb hf
            clear hf
            have k0 := (HCUT5.out.below hb).c0
            have k2 := (HCUT5.out.below hb).c2
            have kb := pw_cell_below hb HBOX5.out
            refine ⟨?_⟩
            go_simp
            exact ⟨Ext.refl _ _, rfl⟩
          simp only [Act.put]
          apply grow_fixed
          case hw => simp [Region.wanted, yielded]
          case ho =>
            intro w' hb hf
            clear hf
            have k0 := (HCUT5.out.below hb).c0
            have k2 := (HCUT5.out.below hb).c2
            have kb := pw_cell_below hb HBOX5.out
            refine ⟨?_⟩
            go_simp
            exact ⟨Ext.refl _ _, rfl⟩
          simp only [Act.put]
          apply grow_fixed
          case hw => simp [Region.wanted, yielded]
          case ho =>
            intro w' hb hf
            clear hf
            have k0 := (HCUT5.out.below hb).c0
            have k2 := (HCUT5.out.below hb).c2
            have kb := pw_cell_below hb HBOX5.out
            refine ⟨?_⟩
            go_simp
            exact ⟨Ext.refl _ _, rfl⟩
          simp only [Act.put]
          apply grow_free (G := fun v W => ∃ x : Nat × Nat, v = .slice (some ⟨x.1, 0, none⟩) each x.2 ∧ Piece W n0 x (LL.take each) ∧ w5.heap.size ≤ x.1)
          case hw => simp [Region.wanted, yielded]
          case hm =>
            rintro v B A C ⟨x, e, hp, hx⟩ hE
            exact ⟨x, e, hp.step (fun cs => hE.objs x.1 _), hx⟩
          case ho =>
            intro w' hb hf
            clear hf
            have hrd := ((HCUT5.out.below hb).left.take each).reads (by rw [List.length_take]; omega)
            rw [HTK.out] at hrd
            have HRD := Aside0.mk hrd
            clear hrd
            refine ⟨?_⟩
            go_simp
            refine (clone_calls ad each c _ w' HRD.out (by omega)).mono ?_
            rintro e w2 ⟨v, rfl, hown, hb2⟩
            refine ⟨v, rfl, .of_below hb.size hb2, ?_⟩
            obtain ⟨x, e, hp, hx⟩ := piece_of hown (by rw [HTK.out]; omega) HTK.out (Nat.le_trans HN5.out hb.size) hb.size
            exact ⟨x.1, x.2, e, hp, hx⟩
          intro v
          simp only [Act.put]
          apply grow_free (G := fun v W => ∃ x : Nat × Nat, v = .slice (some ⟨x.1, 0, none⟩) each x.2 ∧ Piece W n0 x (LL.take each) ∧ w5.heap.size ≤ x.1)
          case hw => simp [Region.wanted, yielded]
          case hm =>
            rintro v B A C ⟨x, e, hp, hx⟩ hE
            exact ⟨x, e, hp.step (fun cs => hE.objs x.1 _), hx⟩
          case ho =>
            intro w' hb hf
            have hx := hf _ List.mem_cons_self (by kernel_rfl)
            dsimp only at hx
            obtain ⟨x, e, hp, hx⟩ := hx
            clear hf
            refine ⟨?_⟩
            go_simp
            first | exact ⟨Ext.refl _ _, x.1, x.2, e, hp, hx⟩ | (subst e; exact ⟨Ext.refl _ _, x.1, x.2, rfl, hp, hx⟩)
          intro u
          simp only [Act.put]
          refine grow_nil (fun w6 hb hf => ?_)
          have hx := hf _ List.mem_cons_self
          dsimp only at hx
          obtain ⟨x, rfl, hp, hx⟩ := hx
          clear hf
          have HP6 := Aside0.mk hp
          have HX6 := Aside0.mk hx
          clear hp hx
          have HO6 := Aside0.mk (HO5.out.below hb)
          have HJ6 := Aside0.mk (HJ.out _ _ _ HJ5.out (grown_of_below hb (some g)))
          have HBX6 := Aside0.mk ((hb.block Bs (lt_heap HBX5.out)).trans HBX5.out)
          have HN6 := Aside0.mk (Nat.le_trans HN5.out hb.size)
          have HCUT6 := Aside0.mk (HCUT5.out.below hb)
          have HBOX6 := Aside0.mk (pw_cell_below hb HBOX5.out)
          have HLT6 := Aside0.mk (show ∀ (j : Nat) (y : Nat × Nat), pre[j]? = some y → y.1 < x.1 from fun j y e => by
            obtain ⟨_, cs, hcs⟩ := (HO5.out.piece j y e).blk
            exact Nat.lt_of_lt_of_le (lt_heap hcs) HX6.out)
          have HAX := Aside0.mk (show ∀ ad' : Addr, some ad = some ad' → ad'.block < x.1 from fun ad' e => by
            injection e with e
            subst e
            rcases HCUT5.out.left with h | ⟨b, off, cs, e, hb5, _⟩
            · rw [h] at hge; simp at hge; omega
            · injection e with e
              rw [e]; exact Nat.lt_of_lt_of_le (lt_heap hb5) HX6.out)
          clear hb HO5 HJ5 HBX5 HN5 HCUT5 HBOX5
          simp only [List.setIfInBounds_toArray, List.set_cons_zero, List.set_cons_succ]
          repeat gi_step
          apply wpIn_region_last (hF := lets_wide) (hL := by rfl) (hm := hmx) (hB := by kernel_rfl) (hB2 := by kernel_rfl) (hnd := by kernel_rfl)
          case h =>
            simp only [List.dropLast_cons_cons, List.dropLast_singleton]
            apply grow_fixed
            case hw => simp [Region.wanted, yielded]
            case ho =>
              intro w' hb hf
              clear hf
              have k0 := (HCUT6.out.below hb).c0
              have k2 := (HCUT6.out.below hb).c2
              have kb := pw_cell_below hb HBOX6.out
              refine ⟨?_⟩
              go_simp
              exact ⟨Ext.refl _ _, rfl⟩
            simp only [Act.put]
            apply grow_fixed
            case hw => simp [Region.wanted, yielded]
            case ho =>
              intro w' hb hf
              clear hf
              have k0 := (HCUT6.out.below hb).c0
              have k2 := (HCUT6.out.below hb).c2
              have kb := pw_cell_below hb HBOX6.out
              refine ⟨?_⟩
              go_simp
              exact ⟨Ext.refl _ _, rfl⟩
            simp only [Act.put]
            apply grow_fixed
            case hw => simp [Region.wanted, yielded]
            case ho =>
              intro w' hb hf
              clear hf
              have k0 := (HCUT6.out.below hb).c0
              have k2 := (HCUT6.out.below hb).c2
              have kb := pw_cell_below hb HBOX6.out
              refine ⟨?_⟩
              go_simp
              exact ⟨Ext.refl _ _, rfl⟩
            simp only [Act.put]
            apply grow_fixed
            case hw => simp [Region.wanted, yielded]
            case ho =>
              intro w' hb hf
              clear hf
              have k0 := (HCUT6.out.below hb).c0
              have k2 := (HCUT6.out.below hb).c2
              have kb := pw_cell_below hb HBOX6.out
              refine ⟨?_⟩
              go_simp
              exact ⟨Ext.refl _ _, rfl⟩
            simp only [Act.put]
            apply grow_fixed
            case hw => simp [Region.wanted, yielded]
            case ho =>
              intro w' hb hf
              clear hf
              have k0 := (HCUT6.out.below hb).c0
              have k2 := (HCUT6.out.below hb).c2
              have kb := pw_cell_below hb HBOX6.out
              refine ⟨?_⟩
              go_simp
              exact ⟨Ext.refl _ _, rfl⟩
            simp only [Act.put]
            apply grow_fixed
            case hw => simp [Region.wanted, yielded]
            case ho =>
              intro w' hb hf
              clear hf
              have k0 := (HCUT6.out.below hb).c0
              have k2 := (HCUT6.out.below hb).c2
              have kb := pw_cell_below hb HBOX6.out
              refine ⟨?_⟩
              go_simp
              exact ⟨Ext.refl _ _, rfl⟩
            simp only [Act.put]
            apply grow_fixed
            case hw => simp [Region.wanted, yielded]
            case ho =>
              intro w' hb hf
              clear hf
              have k0 := (HCUT6.out.below hb).c0
              have k2 := (HCUT6.out.below hb).c2
              have kb := pw_cell_below hb HBOX6.out
              refine ⟨?_⟩
              go_simp
              exact ⟨Ext.refl _ _, rfl⟩
            simp only [Act.put]
            apply grow_fixed
            case hw => simp [Region.wanted, yielded]
            case ho =>
              intro w' hb hf
              clear hf
              have k0 := (HCUT6.out.below hb).c0
              have k2 := (HCUT6.out.below hb).c2
              have kb := pw_cell_below hb HBOX6.out
              refine ⟨?_⟩
              go_simp
              exact ⟨Ext.refl _ _, rfl⟩
            simp only [Act.put]
            apply grow_fixed
            case hw => simp [Region.wanted, yielded]
            case ho =>
              intro w' hb hf
              clear hf
              have k0 := (HCUT6.out.below hb).c0
              have k2 := (HCUT6.out.below hb).c2
              have kb := pw_cell_below hb HBOX6.out
              refine ⟨?_⟩
              go_simp
              exact ⟨Ext.refl _ _, rfl⟩
            simp only [Act.put]
            apply grow_fixed
            case hw => simp [Region.wanted, yielded]
            case ho =>
              intro w' hb hf
              clear hf
              have k0 := (HCUT6.out.below hb).c0
              have k2 := (HCUT6.out.below hb).c2
              have kb := pw_cell_below hb HBOX6.out
              refine ⟨?_⟩
              go_simp
              exact ⟨Ext.refl _ _, rfl⟩
            simp only [Act.put]
            apply grow_fixed
            case hw => simp [Region.wanted, yielded]
            case ho =>
              intro w' hb hf
              clear hf
              have k0 := (HCUT6.out.below hb).c0
              have k2 := (HCUT6.out.below hb).c2
              have kb := pw_cell_below hb HBOX6.out
              refine ⟨?_⟩
              go_simp
              exact ⟨Ext.refl _ _, rfl⟩
            simp only [Act.put]
            apply grow_fixed
            case hw => simp [Region.wanted, yielded]
            case ho =>
              intro w' hb hf
              clear hf
              have k0 := (HCUT6.out.below hb).c0
              have k2 := (HCUT6.out.below hb).c2
              have kb := pw_cell_below hb HBOX6.out
              refine ⟨?_⟩
              go_simp
              exact ⟨Ext.refl _ _, rfl⟩
            simp only [Act.put]
            refine grow_nil (fun w7 hb hf => ?_)
            clear hf
            have k2 := (HCUT6.out.below hb).c2
            have f2 := (HCUT6.out.below hb).fr 2
            refine ⟨by simp [Region.wanted, yielded], ⟨?_⟩⟩
            go_simp
            simp only [OnlyNormal, growUpon]
            have hlen2 : LL.length - each = (LL.drop each).length := by rw [List.length_drop]
            have HSET := Aside0.mk ((HCUT6.out.below hb).setLeft ((HCUT6.out.below hb).left.drop each c (by omega) (by omega)) (show (LL.drop each).length ≤ c - each by rw [List.length_drop]; omega))
            have HGR := Aside0.mk (grown_set w7 g 2 (.slice (if c = each then some ad else (some ad).map (·.add each)) (LL.drop each).length (c - each)))
            have hother : ∀ (b : Nat) (cs : Array Value) (t : TypeId), t ≠ 45 → w7.heap[b]? = some (Obj.cells cs t (0, 0)) → (w7.setCell ⟨g, 2, none⟩ (.slice (if c = each then some ad else (some ad).map (·.add each)) (LL.drop each).length (c - each))).heap[b]? = some (Obj.cells cs t (0, 0)) := fun b cs t ht e => by
              refine (Below.heap_setCell w7 _ _ b (fun e2 => ?_)).trans e
              have e2' : b = g := e2
              subst e2'
              have := (HCUT6.out.below hb).blk
              rw [this] at e
              injection e with e
              injection e with _ e3
              exact ht e3.symm
            have HBX8 := Aside0.mk (hother Bs _ 25 (by decide) ((hb.block Bs (lt_heap HBX6.out)).trans HBX6.out))
            have HO8 := Aside0.mk (show Out (w7.setCell ⟨g, 2, none⟩ (.slice (if c = each then some ad else (some ad).map (·.add each)) (LL.drop each).length (c - each))) g n0 each all L (pre ++ [x]) from by
              have ho := HO6.out.below hb
              have hpx := (HP6.out.step (fun cs e => (hb.block x.1 (lt_heap e)).trans e)).step (fun cs => hother x.1 cs 5 (by decide))
              have hl1 : (pre ++ [x]).length = pre.length + 1 := by simp
              refine ⟨?_, ⟨_, _, by rw [hl1, ← HDR.out]; exact HSET.out, HFR.out.1.ite (HFR.out.1.add each), (HFR.out.2.snoc HAX.out).ite ((HFR.out.2.snoc HAX.out).add each)⟩, fun j y e => ?_, ?_⟩
              · rw [hl1, Nat.mul_succ]
                have := HLL.out
                have := HO6.out.le
                omega
              · by_cases hj : j < pre.length
                · rw [List.getElem?_append_left hj] at e
                  exact (ho.piece j y e).step (fun cs => hother y.1 cs 5 (by decide))
                · have hj2 : j = pre.length := by
                    rcases Nat.lt_or_ge pre.length j with h | h
                    · rw [List.getElem?_eq_none (by simp; omega)] at e; cases e
                    · omega
                  subst hj2
                  rw [List.getElem?_append_right (Nat.le_refl _), Nat.sub_self] at e
                  obtain rfl := Option.some.inj e
                  rw [← HCH.out]
                  exact hpx
              · rw [List.map_append, List.pairwise_append]
                refine ⟨ho.rise, by simp, fun a ha b hb2 => ?_⟩
                obtain ⟨y, hy, rfl⟩ := List.mem_map.1 ha
                obtain ⟨j, hj, e⟩ := List.getElem_of_mem hy
                simp at hb2
                subst hb2
                exact HLT6.out j y (by rw [List.getElem?_eq_getElem hj, e]))
            have HJ8 := Aside0.mk (HJ.out _ _ _ (HJ.out _ _ _ HJ6.out (grown_of_below hb (some g))) HGR.out)
            have HN8 := Aside0.mk (Nat.le_trans HN6.out (Nat.le_trans hb.size HGR.out.size))
            rw [hlen2]
            change Exit.then _ _ _ _ (w7.setCell ⟨g, 2, none⟩ (.slice (if c = each then some ad else (some ad).map (·.add each)) (LL.drop each).length (c - each)))
            generalize w7.setCell ⟨g, 2, none⟩ (.slice (if c = each then some ad else (some ad).map (·.add each)) (LL.drop each).length (c - each)) = W8 at HBX8 HO8 HJ8 HN8 ⊢
            clear hother HGR HSET k2 f2 hb hlen2
            obtain ⟨fn, tmps, assign, body, hy, hR⟩ := hY pre x W8 HJ8.out (by
              have h1 := HO8.out.le
              rw [List.length_append, List.length_singleton, Nat.mul_succ] at h1
              have h2 : pre.length ≤ each * pre.length := Nat.le_mul_of_pos_left _ (by omega)
              omega)
            unfold enc1 at hy
            have HR := Aside0.mk @hR
            clear hR
            gi_wp2
            all_goals (
              refine RoundIn.mono HR.out ?_
              rintro e W9 ⟨rfl, hJ9, hK9⟩
              have HJ9 := Aside0.mk hJ9
              have HO9 := Aside0.mk (HO8.out.kept hK9)
              have HBX9 := Aside0.mk (hK9.same Bs _ 25 (0, 0) HBX8.out (.inr (.inl rfl)))
              have HN9 := Aside0.mk (Nat.le_trans HN8.out hK9.size)
              clear hJ9 hK9
              gi_wp2
              gi_roundg (L.length - each * (pre.length + 1))
              case measure =>
                have := HLL.out
                have := HQ.out
                have e2 : each * (pre.length + 1) = each * pre.length + each := Nat.mul_succ _ _
                omega
              case rel => exact ⟨pre ++ [x], ⟨by simp⟩, HO9, HJ9, HBX9, HN9⟩)
          case hsp => simp [monoAll]
        case hsp => exact ⟨by rintro v B A C ⟨x, e, hp, hx⟩ hE; exact ⟨x, e, hp.step (fun cs => hE.objs x.1 _), hx⟩, by rintro v B A C ⟨x, e, hp, hx⟩ hE; exact ⟨x, e, hp.step (fun cs => hE.objs x.1 _), hx⟩, trivial⟩
      case hsp => simp [monoAll]
    · have hd1 : decide (each ≤ LL.length) = false := by simpa using hge
      have hd2 : decide ((each : Int) ≤ (LL.length : Int)) = false := by simp; omega
      gi_wp2
      apply wpIn_region_grow (hF := lets_wide) (hm := by kernel_rfl) (hB := by kernel_rfl) (hnd := by kernel_rfl)
      case h =>
        apply grow_fixed
        case hw => simp [Region.wanted, yielded]
        case ho =>
          intro w' hb hf
          clear hf
          have k0 := (HCUT.out.below hb).c0
          have k2 := (HCUT.out.below hb).c2
          have kb := pw_cell_below hb HBOX.out
          refine ⟨?_⟩
          go_simp
          exact ⟨Ext.refl _ _, rfl⟩
        simp only [Act.put]
        apply grow_fixed
        case hw => simp [Region.wanted, yielded]
        case ho =>
          intro w' hb hf
          clear hf
          have k0 := (HCUT.out.below hb).c0
          have k2 := (HCUT.out.below hb).c2
          have kb := pw_cell_below hb HBOX.out
          refine ⟨?_⟩
          go_simp
          exact ⟨Ext.refl _ _, rfl⟩
        simp only [Act.put]
        apply grow_fixed
        case hw => simp [Region.wanted, yielded]
        case ho =>
          intro w' hb hf
          clear hf
          have k0 := (HCUT.out.below hb).c0
          have k2 := (HCUT.out.below hb).c2
          have kb := pw_cell_below hb HBOX.out
          refine ⟨?_⟩
          go_simp
          exact ⟨Ext.refl _ _, rfl⟩
        simp only [Act.put]
        apply grow_fixed
        case hw => simp [Region.wanted, yielded]
        case ho =>
          intro w' hb hf
          clear hf
          have k0 := (HCUT.out.below hb).c0
          have k2 := (HCUT.out.below hb).c2
          have kb := pw_cell_below hb HBOX.out
          refine ⟨?_⟩
          go_simp
          exact ⟨Ext.refl _ _, rfl⟩
        simp only [Act.put]
        apply grow_fixed
        case hw => simp [Region.wanted, yielded]
        case ho =>
          intro w' hb hf
          clear hf
          have k0 := (HCUT.out.below hb).c0
          have k2 := (HCUT.out.below hb).c2
          have kb := pw_cell_below hb HBOX.out
          refine ⟨?_⟩
          go_simp
          exact ⟨Ext.refl _ _, rfl⟩
        simp only [Act.put]
        apply grow_fixed
        case hw => simp [Region.wanted, yielded]
        case ho =>
          intro w' hb hf
          clear hf
          have k0 := (HCUT.out.below hb).c0
          have k2 := (HCUT.out.below hb).c2
          have kb := pw_cell_below hb HBOX.out
          refine ⟨?_⟩
          go_simp
          exact ⟨Ext.refl _ _, rfl⟩
        simp only [Act.put]
        apply grow_fixed
        case hw => simp [Region.wanted, yielded]
        case ho =>
          intro w' hb hf
          clear hf
          have k0 := (HCUT.out.below hb).c0
          have k2 := (HCUT.out.below hb).c2
          have kb := pw_cell_below hb HBOX.out
          refine ⟨?_⟩
          go_simp
          exact ⟨Ext.refl _ _, rfl⟩
        simp only [Act.put]
        apply grow_fixed
        case hw => simp [Region.wanted, yielded]
        case ho =>
          intro w' hb hf
          clear hf
          have k0 := (HCUT.out.below hb).c0
          have k2 := (HCUT.out.below hb).c2
          have kb := pw_cell_below hb HBOX.out
          refine ⟨?_⟩
          go_simp
          exact ⟨Ext.refl _ _, rfl⟩
        simp only [Act.put]
        apply grow_fixed
        case hw => simp [Region.wanted, yielded]
        case ho =>
          intro w' hb hf
          clear hf
          have k0 := (HCUT.out.below hb).c0
          have k2 := (HCUT.out.below hb).c2
          have kb := pw_cell_below hb HBOX.out
          refine ⟨?_⟩
          go_simp
          exact ⟨Ext.refl _ _, rfl⟩
        simp only [Act.put]
        apply grow_fixed
        case hw => simp [Region.wanted, yielded]
        case ho =>
          intro w' hb hf
          clear hf
          have k0 := (HCUT.out.below hb).c0
          have k2 := (HCUT.out.below hb).c2
          have kb := pw_cell_below hb HBOX.out
          refine ⟨?_⟩
          go_simp
          exact ⟨Ext.refl _ _, rfl⟩
        simp only [Act.put]
        refine grow_nil (fun w5 hb hf => ?_)
        clear hf
        have HO5 := Aside0.mk (HO.out.below hb)
        have HJ5 := Aside0.mk (HJ.out _ _ _ HJP.out (grown_of_below hb (some g)))
        clear hb
        simp only [List.setIfInBounds_toArray, List.set_cons_zero, List.set_cons_succ]
        gi_wp2
        go_end0
        refine ⟨⟨_, rfl⟩, pre, ⟨HO5.out, ?_⟩, HJ5.out⟩
        have := HLL.out
        have := HO5.out.le
        rw [Nat.mul_succ]
        omega
      case hsp => simp [monoAll]
end Go.Proofs.Ytoaokmlpeijepaa
