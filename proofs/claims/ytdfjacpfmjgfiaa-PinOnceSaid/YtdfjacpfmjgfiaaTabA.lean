/-
  Layer 17: a table of handles, whatever it owns; a handle pins one segment more.
-/
import Derived.Shelf.Slices.SearchI
import Derived.Shelf.Slices.Empties
import Derived.Test.YtdfjacpfmjgfiaaInsAll
import Derived.Test.YtdfjacpfmjgfiaaPure
namespace Go.Proofs.Ytdfjacpfmjgfiaa
set_option linter.unusedVariables false
set_option linter.unusedSimpArgs false
open Go.Shelf Go.RowKit Go.Proofs.YtdfjacpfmjgfiaaW.PrintWords Go.Proofs.YtdfjacpfmjgfiaaW.PrintMore
attribute [local go_sem] max2_int
def laysBs_ren : Go.Shelf.Ren := ⟨fun | 25 => 30 | 31 => 36 | 32 => 37 | 37 => 40 | n => n, fun | 22 => 29 | 3 => 3 | 4 => 4 | 40 => 65 | 0 => 0 | n => n, fun | n => n⟩
theorem laysBs : Go.Proofs.Lays2.n25 Try.prog laysBs_ren := {
  mixed := by kernel_rfl
  f25 := Try.func30.trans (congrArg some (by kernel_rfl))
  f31 := Try.func36.trans (congrArg some (by kernel_rfl))
  f32 := Try.func37.trans (congrArg some (by kernel_rfl))
  f37 := Try.func40.trans (congrArg some (by kernel_rfl))
  t0 := Try.underlying0
  a0 := Try.isAgg0
  z0 := Try.sizeOf0
  v0 := Try.zeroValue0
  t3 := Try.underlying3
  a3 := Try.isAgg3
  z3 := Try.sizeOf3
  v3 := Try.zeroValue3
  t4 := Try.underlying4
  a4 := Try.isAgg4
  z4 := Try.sizeOf4
  v4 := Try.zeroValue4
  t22 := Try.underlying29
  a22 := Try.isAgg29
  z22 := Try.sizeOf29
  v22 := Try.zeroValue29
  t40 := Try.underlying65
  a40 := Try.isAgg65
  z40 := Try.sizeOf65
  v40 := Try.zeroValue65 }
def absH (hs : List Hd) : HL := hs.map fun x => (x.key, x.l)
structure PinsOk (ps : List (Int × Int)) (hl : HL) : Prop where
  keys : (ps.map (·.1)).Nodup
  cnt : ∀ n, pinOf ps n = (cnt hl n : Int)
/-- A table at t, all of whose blocks are some of O. -/
def TabA (W : World) (O : Nat → Prop) (t : Nat) (most next : Int) (hl : HL) : Prop :=
  ∃ S P hs ps, Tab W 0 t S P most next hs ps ∧ absH hs = hl ∧ PinsOk ps hl ∧ HOk next hl ∧ ∀ k, OwnT t S P hs k → O k
/-- What a call does of a table: its own blocks alone turn, or are new. -/
def TPost (W : World) (O : Nat → Prop) (t : Nat) (most next : Int) (hl : HL) (r : Value) (e : Ending) (w' : World) : Prop :=
  e = .returned r ∧ ∃ O', TabA w' O' t most next hl ∧ KeepS O W w' ∧ ∀ k, O' k → O k ∨ W.heap.size ≤ k
theorem TabA.keep {W W' : World} {O : Nat → Prop} {t : Nat} {most next : Int} {hl : HL} (h : TabA W O t most next hl) (hk : ∀ k, O k → k < W.heap.size → W'.heap[k]? = W.heap[k]?) : TabA W' O t most next hl := by
  obtain ⟨S, P, hs, ps, h1, h2, h3, h4, h5⟩ := h
  exact ⟨S, P, hs, ps, h1.keep fun k hk2 => hk k (h5 k hk2) (h1.lt hk2), h2, h3, h4, h5⟩
theorem TabA.mono {W : World} {O O' : Nat → Prop} {t : Nat} {most next : Int} {hl : HL} (h : TabA W O t most next hl) (hk : ∀ k, O k → O' k) : TabA W O' t most next hl := by
  obtain ⟨S, P, hs, ps, h1, h2, h3, h4, h5⟩ := h
  exact ⟨S, P, hs, ps, h1, h2, h3, h4, fun k hk2 => hk k (h5 k hk2)⟩
theorem hdOf_abs (hs : List Hd) (k : Int) : getL (absH hs) k = (hdOf hs k).map (·.l) := by
  unfold getL absH hdOf
  rw [List.find?_map]
  cases h : List.find? (fun x : Hd => x.key == k) hs with
  | none =>
    have : List.find? ((fun x : Int × List Int => x.1 == k) ∘ fun x : Hd => (x.key, x.l)) hs = none := h
    rw [this]; rfl
  | some x =>
    have : List.find? ((fun x : Int × List Int => x.1 == k) ∘ fun x : Hd => (x.key, x.l)) hs = some x := h
    rw [this]; rfl
/-- A handle whose row has turned. -/
def setH (hs : List Hd) (k : Int) (v : Value) (l : List Int) : List Hd := hs.map fun x => if x.key = k then ⟨x.key, x.box, v, l⟩ else x
theorem absH_keys (hs : List Hd) : (absH hs).map (·.1) = hs.map (·.key) := by unfold absH; rw [List.map_map]; rfl
theorem split_hd {hs : List Hd} {k : Int} {x : Hd} (hk : Keyed' (absH hs)) (hx : hdOf hs k = some x) : ∃ A B, hs = A ++ x :: B ∧ x.key = k ∧ (∀ y ∈ A, y.key ≠ k) ∧ ∀ y ∈ B, y.key ≠ k := by
  obtain ⟨hm, he⟩ := hdOf_mem hx
  obtain ⟨A, B, rfl⟩ := List.append_of_mem hm
  unfold Keyed' at hk
  rw [absH_keys, List.map_append, List.map_cons] at hk
  obtain ⟨h1, h2, h3⟩ := List.nodup_append.1 hk
  obtain ⟨h4, h5⟩ := List.nodup_cons.1 h2
  refine ⟨A, B, rfl, he, fun y hy e => h3 y.key (List.mem_map_of_mem hy) x.key (by simp) (e.trans he.symm), fun y hy e => h4 (by rw [he, ← e]; exact List.mem_map_of_mem hy)⟩
theorem setH_split {A B : List Hd} {x : Hd} {v : Value} {l : List Int} (h1 : ∀ y ∈ A, y.key ≠ x.key) (h2 : ∀ y ∈ B, y.key ≠ x.key) : setH (A ++ x :: B) x.key v l = A ++ ⟨x.key, x.box, v, l⟩ :: B := by
  have id_of : ∀ {L : List Hd}, (∀ y ∈ L, y.key ≠ x.key) → L.map (fun y => if y.key = x.key then ⟨y.key, y.box, v, l⟩ else y) = L := fun {L} h => by
    conv => rhs; rw [← List.map_id L]
    exact List.map_congr_left fun y hy => by rw [if_neg (h y hy)]; rfl
  unfold setH
  rw [List.map_append, List.map_cons, id_of h1, id_of h2, if_pos rfl]
theorem absH_app (A B : List Hd) : absH (A ++ B) = absH A ++ absH B := List.map_append
theorem absH_ne {A : List Hd} {k : Int} (h : ∀ y ∈ A, y.key ≠ k) : ∀ y ∈ absH A, y.1 ≠ k := fun y hy => by
  obtain ⟨z, hz, rfl⟩ := List.mem_map.1 hy
  exact h z hz
theorem setH_abs {hs : List Hd} {k n : Int} {x : Hd} (hk : Keyed' (absH hs)) (hx : hdOf hs k = some x) (v : Value) : absH (setH hs k v (ins x.l n)) = pinL (absH hs) k n := by
  obtain ⟨A, B, rfl, rfl, h1, h2⟩ := split_hd hk hx
  rw [setH_split h1 h2, absH_app, absH_app]
  exact (pinL_split (absH_ne h1) (absH_ne h2)).symm
theorem pw_mid {α : Type} {R : α → α → Prop} {A B : List α} {x y : α} (h : (A ++ x :: B).Pairwise R) (h1 : ∀ a ∈ A, R a x → R a y) (h2 : ∀ b ∈ B, R x b → R y b) : (A ++ y :: B).Pairwise R := by
  obtain ⟨p1, p2, p3⟩ := List.pairwise_append.1 h
  obtain ⟨p4, p5⟩ := List.pairwise_cons.1 p2
  refine List.pairwise_append.2 ⟨p1, List.pairwise_cons.2 ⟨fun b hb => h2 b hb (p4 b hb), p5⟩, fun a ha b hb => ?_⟩
  rcases List.mem_cons.1 hb with rfl | hb
  · exact h1 a ha (p3 a ha x (by simp))
  · exact p3 a ha b (List.mem_cons_of_mem _ hb)
theorem pw_mid_get {α : Type} {R : α → α → Prop} {A B : List α} {x : α} (h : (A ++ x :: B).Pairwise R) : (∀ a ∈ A, R a x) ∧ ∀ b ∈ B, R x b := by
  obtain ⟨p1, p2, p3⟩ := List.pairwise_append.1 h
  exact ⟨fun a ha => p3 a ha x (by simp), (List.pairwise_cons.1 p2).1⟩
theorem map_not_cells {W : World} {k : Nat} {es : Ents} (h : IMap W k es) {cs : Array Value} {T : TypeId} {fr : Nat × Nat} : W.heap[k]? ≠ some (.cells cs T fr) := fun e => by
  obtain ⟨a, c, hb, _⟩ := h
  rw [e] at hb; injection hb with hb; cases hb
/-- A handle's row has turned, and lies in its box. -/
theorem Tab.rowTo {W W1 : World} {t S P : Nat} {most next : Int} {hs : List Hd} {ps : List (Int × Int)} (h : Tab W 0 t S P most next hs ps) (hk : Keyed' (absH hs)) {k : Int} {x : Hd} (hx : hdOf hs k = some x) (hg : W.grownBy W1 x.v.ownBlock) {v' : Value} {l' : List Int}
    (ho : W1.ownsRow 0 3 1 v' l'.length (nums .i64 l')) (hloc : v'.ownBlock = x.v.ownBlock ∨ ∃ b, W.heap.size ≤ b ∧ v'.ownBlock = some b) :
    Tab (W1.setCell ⟨x.box, 0, none⟩ v') 0 t S P most next (setH hs k v' l') ps ∧ W1.heap[x.box]? = some (.cells #[x.v] 29 (0, 0)) ∧ ∀ q, OwnT t S P (setH hs k v' l') q → OwnT t S P hs q ∨ W.heap.size ≤ q := by
  obtain ⟨A, B, rfl, rfl, h1, h2⟩ := split_hd hk hx
  have hmid : x ∈ A ++ x :: B := by simp
  have hxb := (h.box x hmid).1
  have hxo := (h.box x hmid).2
  -- what is not x's own row is as it was
  have keep1 : ∀ (q : Nat) (o : Obj), W.heap[q]? = some o → x.v.ownBlock ≠ some q → W1.heap[q]? = some o := fun q o ho2 hne => (hg.block q (lt_heap ho2) (fun e => hne e.symm)).trans ho2
  have keep2 : ∀ (q : Nat) (o : Obj), W.heap[q]? = some o → x.v.ownBlock ≠ some q → q ≠ x.box → (W1.setCell ⟨x.box, 0, none⟩ v').heap[q]? = some o := fun q o ho2 hne hb => set_other W1 x.box 0 v' (keep1 q o ho2 hne) hb
  have typ : ∀ (q : Nat) (cs : Array Value) (T : TypeId), W.heap[q]? = some (.cells cs T (0, 0)) → T ≠ 3 → x.v.ownBlock ≠ some q := fun q cs T hq hT e => by
    obtain ⟨cs2, h5⟩ := own_typed hxo q e
    rw [hq] at h5; injection h5 with h5; injection h5 with _ h5; exact hT h5
  have tmap : ∀ (q : Nat) (es : Ents), IMap W q es → x.v.ownBlock ≠ some q ∧ q ≠ x.box := fun q es hq => ⟨fun e => by
    obtain ⟨cs2, h5⟩ := own_typed hxo q e
    exact map_not_cells hq h5, fun e => map_not_cells hq (show W.heap[q]? = some (.cells #[x.v] 29 (0, 0)) by rw [e]; exact hxb)⟩
  have hbox1 := keep1 x.box _ hxb (typ _ _ _ hxb (by decide))
  obtain ⟨p1, p2⟩ := pw_mid_get h.apart
  rw [setH_split h1 h2]
  have hnb : ∀ q, v'.ownBlock = some q → q ≠ x.box := fun q e eq => by
    subst eq
    rcases hloc with hl | ⟨b, hb, hl⟩
    · exact typ _ _ _ hxb (by decide) (hl.symm.trans e)
    · rw [hl] at e; injection e with e; have := lt_heap hxb; omega
  have hoth : ∀ y : Hd, (y ∈ A ∨ y ∈ B) → y.box ≠ x.box ∧ (∀ q, y.v.ownBlock = some q → x.v.ownBlock ≠ some q ∧ v'.ownBlock ≠ some q) := fun y hy => by
    have hym : y ∈ A ++ x :: B := by rcases hy with hy | hy <;> simp [hy]
    have hap : y.box ≠ x.box ∧ ∀ q, y.v.ownBlock = some q → x.v.ownBlock ≠ some q := by
      rcases hy with hy | hy
      · exact p1 y hy
      · have := p2 y hy
        exact ⟨fun e => this.1 e.symm, fun q e e2 => this.2 q e2 e⟩
    refine ⟨hap.1, fun q e => ⟨hap.2 q e, fun e2 => ?_⟩⟩
    rcases hloc with hl | ⟨b, hb, hl⟩
    · exact hap.2 q e (hl.symm.trans e2)
    · rw [hl] at e2; injection e2 with e2; have := own_lt (h.box y hym).2 q e; omega
  refine ⟨⟨keep2 t _ h.blk (typ _ _ _ h.blk (by decide)) (fun e => by have := h.blk; rw [e, hxb] at this; injection this with this; injection this with _ this; cases this),
    ?_, ?_, ?_, ?_, h.SP⟩, hbox1, ?_⟩
  · have e1 : entS (A ++ ⟨x.key, x.box, v', l'⟩ :: B) = entS (A ++ x :: B) := by simp [entS]
    rw [e1]
    obtain ⟨a, c, hb, hm⟩ := h.segs
    exact ⟨a, c, keep2 S _ hb (tmap S _ ⟨a, c, hb, hm⟩).1 (tmap S _ ⟨a, c, hb, hm⟩).2, hm⟩
  · obtain ⟨a, c, hb, hm⟩ := h.pins
    exact ⟨a, c, keep2 P _ hb (tmap P _ ⟨a, c, hb, hm⟩).1 (tmap P _ ⟨a, c, hb, hm⟩).2, hm⟩
  · have rest : ∀ y : Hd, (y ∈ A ∨ y ∈ B) → (W1.setCell ⟨x.box, 0, none⟩ v').heap[y.box]? = some (.cells #[y.v] 29 (0, 0)) ∧ (W1.setCell ⟨x.box, 0, none⟩ v').ownsRow 0 3 1 y.v y.l.length (nums .i64 y.l) := fun y hy => by
      have hym : y ∈ A ++ x :: B := by rcases hy with hy | hy <;> simp [hy]
      obtain ⟨a1, a2⟩ := hoth y hy
      have hyb := h.box y hym
      refine ⟨keep2 _ _ hyb.1 (typ _ _ _ hyb.1 (by decide)) a1, own_move hyb.2 fun q e => ?_⟩
      obtain ⟨cs, hcs⟩ := own_typed hyb.2 q e
      rw [keep2 q _ hcs (a2 q e).1 (fun e2 => by rw [e2, hxb] at hcs; injection hcs with hcs; injection hcs with _ hcs; cases hcs), hcs]
    intro y hy
    rcases List.mem_append.1 hy with hy | hy
    · exact rest y (.inl hy)
    · rcases List.mem_cons.1 hy with rfl | hy
      · refine ⟨?_, own_move ho fun q e => Below.heap_setCell W1 ⟨x.box, 0, none⟩ v' q (hnb q e)⟩
        have := heap_spl x.box [v'] 0 W1 _ hbox1
        exact this
      · exact rest y (.inr hy)
  · refine pw_mid h.apart (fun a ha _ => ⟨(hoth a (.inl ha)).1, fun q e => ((hoth a (.inl ha)).2 q e).2⟩) (fun b hb _ => ⟨fun e => (hoth b (.inr hb)).1 e.symm, fun q e e2 => ((hoth b (.inr hb)).2 q e2).2 e⟩)
  · rintro q (rfl | rfl | rfl | ⟨y, hy, hq⟩)
    · exact .inl (.inl rfl)
    · exact .inl (.inr (.inl rfl))
    · exact .inl (.inr (.inr (.inl rfl)))
    · rcases List.mem_append.1 hy with hy | hy
      · exact .inl (.inr (.inr (.inr ⟨y, by simp [hy], hq⟩)))
      · rcases List.mem_cons.1 hy with rfl | hy
        · rcases hq with rfl | hq
          · exact .inl (.inr (.inr (.inr ⟨x, hmid, .inl rfl⟩)))
          · rcases hloc with hl | ⟨b, hb, hl⟩
            · exact .inl (.inr (.inr (.inr ⟨x, hmid, .inr (hl.symm.trans hq)⟩)))
            · right
              have : some b = some q := hl.symm.trans hq
              injection this with this; omega
        · exact .inl (.inr (.inr (.inr ⟨y, by simp [hy], hq⟩)))
end Go.Proofs.Ytdfjacpfmjgfiaa
