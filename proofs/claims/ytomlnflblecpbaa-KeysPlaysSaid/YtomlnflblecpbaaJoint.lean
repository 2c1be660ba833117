/-
  Layer 13: two bodies and a law's own blocks, side by side; calls as they are handed to the laws.
-/
import Derived.Test.YtomlnflblecpbaaRPut
import Derived.Test.YtomlnflblecpbaaGreat
namespace Go.Proofs.Ytomlnflblecpbaa
set_option linter.unusedVariables false
set_option linter.unusedSimpArgs false
open Go.RowKit Go.Proofs.YtomlnflblecpbaaW.PrintWords Go.Proofs.YtomlnflblecpbaaW.PrintMore PKeysPlays
attribute [local go_sem] max2_int min2_int
theorem DirM.keep {W W' : World} {O O' : Nat → Prop} {d : Nat} {m : List Pl} (h : DirM W O d m) (hk : ∀ k, O k → k < W.heap.size → W'.heap[k]? = W.heap[k]?) (hO : ∀ k, O k → k < W.heap.size → O' k) : DirM W' O' d m := by
  obtain ⟨rs, vs, h1, h2⟩ := h
  exact ⟨rs, vs, h1.keep hk hO, h2⟩
/-- A body: what stands in blocks of its own. -/
structure Keeps (B : World → (Nat → Prop) → Prop) : Prop where
  keep : ∀ {W W' : World} {O O' : Nat → Prop}, B W O → (∀ k, O k → k < W.heap.size → W'.heap[k]? = W.heap[k]?) → (∀ k, O k → k < W.heap.size → O' k) → B W' O'
def dirB (d : Nat) (m : List Pl) (W : World) (O : Nat → Prop) : Prop := DirM W O d m
def rdB (g : Nat) (m : List Pl) (W : World) (O : Nat → Prop) : Prop := RD W O g m
def noB (_ : World) (_ : Nat → Prop) : Prop := True
theorem keepsD (d : Nat) (m : List Pl) : Keeps (dirB d m) := ⟨fun h hk hO => DirM.keep h hk hO⟩
theorem keepsR (g : Nat) (m : List Pl) : Keeps (rdB g m) := ⟨fun h hk hO => RD.keep h hk hO⟩
theorem keepsN : Keeps noB := ⟨fun _ _ _ => trivial⟩
def BPost (B : World → (Nat → Prop) → Prop) (W : World) (O : Nat → Prop) (r : Value) (e : Ending) (w' : World) : Prop := e = .returned r ∧ ∃ O', B w' O' ∧ KeepS O W w' ∧ ∀ k, O' k → O k ∨ W.heap.size ≤ k
/-- Two bodies, apart from each other, from what was there ahead of the law, and from blocks M that are the law's. -/
structure P2 (B1 B2 : World → (Nat → Prop) → Prop) (M : Nat → Prop) (w W : World) : Prop where
  k1 : Keeps B1
  k2 : Keeps B2
  ex : ∃ O1 O2, B1 W O1 ∧ B2 W O2 ∧ (∀ k, O1 k → w.heap.size ≤ k ∧ k < W.heap.size ∧ ¬ O2 k ∧ ¬ M k) ∧ ∀ k, O2 k → w.heap.size ≤ k ∧ k < W.heap.size ∧ ¬ M k
  keep : KeepS (fun k => w.heap.size ≤ k) w W
  mlt : ∀ k, M k → k < W.heap.size
  mge : ∀ k, M k → w.heap.size ≤ k
section
variable {B1 B2 B1' B2' : World → (Nat → Prop) → Prop} {M M' : Nat → Prop} {w W W' : World}
theorem P2.below (h : P2 B1 B2 M w W) : Below w.heap.size w W := h.keep.below (Nat.le_refl _) fun _ h => h
theorem P2.swap (h : P2 B1 B2 M w W) : P2 B2 B1 M w W := by
  obtain ⟨O1, O2, h1, h2, a1, a2⟩ := h.ex
  exact ⟨h.k2, h.k1, ⟨O2, O1, h2, h1, fun k hk => ⟨(a2 k hk).1, (a2 k hk).2.1, fun q => (a1 k q).2.2.1 hk, (a2 k hk).2.2⟩, fun k hk => ⟨(a1 k hk).1, (a1 k hk).2.1, (a1 k hk).2.2.2⟩⟩, h.keep, h.mlt, h.mge⟩
/-- The law does something to its own blocks, and makes some. -/
theorem P2.law (h : P2 B1 B2 M w W) (hK : KeepS (fun k => M k ∧ w.heap.size ≤ k) W W') (hM : ∀ k, M' k → k < W'.heap.size ∧ (M k ∨ W.heap.size ≤ k)) : P2 B1 B2 M' w W' := by
  obtain ⟨O1, O2, h1, h2, a1, a2⟩ := h.ex
  refine ⟨h.k1, h.k2, ⟨O1, O2, h.k1.keep h1 (fun k hk hlt => hK.block k hlt fun q => (a1 k hk).2.2.2 q.1) fun k hk _ => hk, h.k2.keep h2 (fun k hk hlt => hK.block k hlt fun q => (a2 k hk).2.2 q.1) fun k hk _ => hk, fun k hk => ⟨(a1 k hk).1, Nat.lt_of_lt_of_le (a1 k hk).2.1 hK.size, (a1 k hk).2.2.1, fun q => ?_⟩, fun k hk => ⟨(a2 k hk).1, Nat.lt_of_lt_of_le (a2 k hk).2.1 hK.size, fun q => ?_⟩⟩, ?_, fun k hk => (hM k hk).1, fun k hk => (hM k hk).2.elim (h.mge k) fun q => Nat.le_trans h.keep.size q⟩
  · rcases (hM k q).2 with q | q
    · exact (a1 k hk).2.2.2 q
    · have := (a1 k hk).2.1; omega
  · rcases (hM k q).2 with q | q
    · exact (a2 k hk).2.2 q
    · have := (a2 k hk).2.1; omega
  · exact ⟨hK.os.trans h.keep.os, hK.tape.trans h.keep.tape, hK.output.trans h.keep.output, Nat.le_trans h.keep.size hK.size, fun k hk hn => (hK.block k (Nat.lt_of_lt_of_le hk h.keep.size) fun q => hn q.2).trans (h.keep.block k hk hn)⟩
theorem P2.grows (h : P2 B1 B2 M w W) (hg : Grows W W') : P2 B1 B2 M w W' := h.law (KeepS.of_grows hg) fun k hk => ⟨Nat.lt_of_lt_of_le (h.mlt k hk) hg.size, .inl hk⟩
theorem P2.more (h : P2 B1 B2 M w W) (hg : Grows W W') (hM : ∀ k, M' k → k < W'.heap.size ∧ (M k ∨ W.heap.size ≤ k)) : P2 B1 B2 M' w W' := h.law (KeepS.of_grows hg) hM
/-- What a call of the first body does. -/
theorem P2.of1 {f : Nat} {args : Array Value} {r : Value} (h : P2 B1 B2 M w W) (hk1 : Keeps B1')
    (hc : ∀ O1, B1 W O1 → (∀ k, O1 k → k < W.heap.size) → Calls Try.prog f args W (BPost B1' W O1 r)) :
    Calls Try.prog f args W fun e w' => e = .returned r ∧ P2 B1' B2 M w w' ∧ KeepS (fun k => ¬ M k) W w' := by
  obtain ⟨O1, O2, h1, h2, a1, a2⟩ := h.ex
  refine (hc O1 h1 fun k hk => (a1 k hk).2.1).mono ?_
  rintro e w' ⟨he, O', h1', hK, hO'⟩
  have hK2 : KeepS (fun k => ¬ M k) W w' := hK.mono fun k _ hk => (a1 k hk).2.2.2
  refine ⟨he, ⟨hk1, h.k2, ⟨fun k => O' k ∧ k < w'.heap.size, O2, hk1.keep h1' (fun k _ _ => rfl) fun k hk hl => ⟨hk, hl⟩, h.k2.keep h2 (fun k hk hlt => hK.block k hlt fun q => (a1 k q).2.2.1 hk) fun k hk _ => hk, fun k hk => ?_, fun k hk => ⟨(a2 k hk).1, Nat.lt_of_lt_of_le (a2 k hk).2.1 hK.size, (a2 k hk).2.2⟩⟩, ?_, fun k hk => Nat.lt_of_lt_of_le (h.mlt k hk) hK.size, h.mge⟩, hK2⟩
  · rcases hO' k hk.1 with q | q
    · exact ⟨(a1 k q).1, hk.2, (a1 k q).2.2⟩
    · exact ⟨Nat.le_trans h.keep.size q, hk.2, fun q2 => by have := (a2 k q2).2.1; omega, fun hm => by have := h.mlt k hm; omega⟩
  · exact ⟨hK.os.trans h.keep.os, hK.tape.trans h.keep.tape, hK.output.trans h.keep.output, Nat.le_trans h.keep.size hK.size, fun k hk hn => (hK.block k (Nat.lt_of_lt_of_le hk h.keep.size) fun q => hn (a1 k q).1).trans (h.keep.block k hk hn)⟩
theorem P2.of2 {f : Nat} {args : Array Value} {r : Value} (h : P2 B1 B2 M w W) (hk2 : Keeps B2')
    (hc : ∀ O2, B2 W O2 → (∀ k, O2 k → k < W.heap.size) → Calls Try.prog f args W (BPost B2' W O2 r)) :
    Calls Try.prog f args W fun e w' => e = .returned r ∧ P2 B1 B2' M w w' ∧ KeepS (fun k => ¬ M k) W w' :=
  (h.swap.of1 hk2 hc).mono fun e w' h => ⟨h.1, h.2.1.swap, h.2.2⟩
/-- What the first body tells. -/
theorem P2.see1 {f : Nat} {args : Array Value} {Q : Ending → World → Prop} (h : P2 B1 B2 M w W) (hc : ∀ O1, B1 W O1 → Calls Try.prog f args W Q) : Calls Try.prog f args W Q := by
  obtain ⟨O1, O2, h1, h2, a1, a2⟩ := h.ex
  exact hc O1 h1
theorem P2.see2 {f : Nat} {args : Array Value} {Q : Ending → World → Prop} (h : P2 B1 B2 M w W) (hc : ∀ O2, B2 W O2 → Calls Try.prog f args W Q) : Calls Try.prog f args W Q := by
  obtain ⟨O1, O2, h1, h2, a1, a2⟩ := h.ex
  exact hc O2 h2
end
theorem DPost.b {W : World} {O : Nat → Prop} {d : Nat} {m : List Pl} {r : Value} {e : Ending} {w' : World} (h : DPost W O d m r e w') : BPost (dirB d m) W O r e w' := h
theorem RPost.b {W : World} {O : Nat → Prop} {g : Nat} {m : List Pl} {r : Value} {e : Ending} {w' : World} (hO : O g) (h : RPost W O g m r e w') : BPost (rdB g m) W O r e w' := by
  obtain ⟨he, O', h1, h2, h3⟩ := h
  exact ⟨he, O', h1, h2.mono fun k _ hk => by subst hk; exact hO, h3⟩
/-- What Get, Put and Del answer. -/
def ans (m : List Pl) (key : ByteArray) : Value := .tuple #[.agg ((getM m key).getD zeroPl).cells, .bool (getM m key).isSome]
section
variable {B2 : World → (Nat → Prop) → Prop} {M : Nat → Prop} {w W : World} {d g : Nat} {m : List Pl}
theorem p_put (h : P2 (dirB d m) B2 M w W) (p : Pl) (hn : p.key.size ≤ 1000000) (hm : m.length ≤ 100000) :
    Calls Try.prog 20 #[.pointer (some ⟨d, 0, none⟩), .agg p.cells] W fun e w' => e = .returned (ans m p.key) ∧ P2 (dirB d (putM m p)) B2 M w w' ∧ KeepS (fun k => ¬ M k) W w' :=
  h.of1 (keepsD _ _) fun O1 h1 hO => (put_calls h1 hO p hn hm).mono fun e w' h => h.b
theorem p_del (h : P2 (dirB d m) B2 M w W) (key : ByteArray) (hn : key.size ≤ 1000000) (hm : m.length ≤ 100000) :
    Calls Try.prog 13 #[.pointer (some ⟨d, 0, none⟩), .string key] W fun e w' => e = .returned (ans m key) ∧ P2 (dirB d (delM m key)) B2 M w w' ∧ KeepS (fun k => ¬ M k) W w' :=
  h.of1 (keepsD _ _) fun O1 h1 hO => (del_calls h1 hO key hn hm).mono fun e w' h => h.b
theorem p_get (h : P2 (dirB d m) B2 M w W) (key : ByteArray) (hn : key.size ≤ 1000000) (hm : m.length ≤ 100000) :
    Calls Try.prog 15 #[.pointer (some ⟨d, 0, none⟩), .string key] W fun e w' => e = .returned (ans m key) ∧ P2 (dirB d m) B2 M w w' ∧ Grows W w' :=
  (h.see1 fun O1 h1 => get_calls h1 key hn (by omega)).mono fun e w' hh => ⟨hh.1, h.grows hh.2, hh.2⟩
theorem p_list (h : P2 (dirB d m) B2 M w W) (hm : m.length ≤ 100000) :
    Calls Try.prog 24 #[.pointer (some ⟨d, 0, none⟩)] W fun e w' => ∃ v, e = .returned v ∧ ToldS (keysM m) v w' ∧ P2 (dirB d m) B2 M w w' ∧ Grows W w' :=
  (h.see1 fun O1 h1 => list_calls h1 hm).mono fun e w' ⟨v, he, ho, hg⟩ => ⟨v, he, own_told ho, h.grows hg, hg⟩
theorem p_from (h : P2 (dirB d m) B2 M w W) (hm : m.length ≤ 100000) (key : ByteArray) (many : Int) :
    Calls Try.prog 18 #[.pointer (some ⟨d, 0, none⟩), .string key, .int .i64 many] W fun e w' => ∃ v, e = .returned v ∧ ToldS ((fromK (keysM m) key).take many.toNat) v w' ∧ P2 (dirB d m) B2 M w w' ∧ Grows W w' :=
  (h.see1 fun O1 h1 => from_calls h1 hm key many).mono fun e w' ⟨v, he, ho, hg⟩ => ⟨v, he, ho.told, h.grows hg, hg⟩
/-- What is new is the law's. -/
theorem P2.fresh (h : P2 (dirB d m) B2 M w W) {W' : World} (hg : Grows W W') : P2 (dirB d m) B2 (fun k => M k ∨ (W.heap.size ≤ k ∧ k < W'.heap.size)) w W' :=
  h.more hg fun k hk => hk.elim (fun hk => ⟨Nat.lt_of_lt_of_le (h.mlt k hk) hg.size, .inl hk⟩) fun hk => ⟨hk.2, .inr hk.1⟩
theorem p_listF (h : P2 (dirB d m) B2 M w W) (hm : m.length ≤ 100000) :
    Calls Try.prog 24 #[.pointer (some ⟨d, 0, none⟩)] W fun e w' => ∃ v M', e = .returned v ∧ ToldF M' (keysM m) v w' ∧ P2 (dirB d m) B2 M' w w' ∧ Grows W w' ∧ ∀ k, M k → M' k :=
  (h.see1 fun O1 h1 => list_calls h1 hm).mono fun e w' ⟨v, he, ho, hg⟩ => ⟨v, _, he, (own_toldF ho).lt.imp fun k hk => .inr hk, h.fresh hg, hg, fun k hk => .inl hk⟩
theorem p_fromF (h : P2 (dirB d m) B2 M w W) (hm : m.length ≤ 100000) (key : ByteArray) (many : Int) :
    Calls Try.prog 18 #[.pointer (some ⟨d, 0, none⟩), .string key, .int .i64 many] W fun e w' => ∃ v M', e = .returned v ∧ ToldF M' ((fromK (keysM m) key).take many.toNat) v w' ∧ P2 (dirB d m) B2 M' w w' ∧ Grows W w' ∧ ∀ k, M k → M' k :=
  (h.see1 fun O1 h1 => from_calls h1 hm key many).mono fun e w' ⟨v, he, ho, hg⟩ => ⟨v, _, he, ho.lt.imp fun k hk => .inr hk, h.fresh hg, hg, fun k hk => .inl hk⟩
theorem p_many (h : P2 (dirB d m) B2 M w W) : Calls Try.prog 22 #[.pointer (some ⟨d, 0, none⟩)] W fun e w' => e = .returned (.int .i64 m.length) ∧ w' = W := h.see1 fun O1 h1 => many_calls h1
theorem r_put {B1 : World → (Nat → Prop) → Prop} (h : P2 B1 (rdB g m) M w W) (p : Pl) (hm : m.length ≤ 100000) :
    Calls Try.prog 21 #[.pointer (some ⟨g, 0, none⟩), .agg p.cells] W fun e w' => e = .returned (ans m p.key) ∧ P2 B1 (rdB g (putM m p)) M w w' ∧ KeepS (fun k => ¬ M k) W w' :=
  h.of2 (keepsR _ _) fun O1 h1 hO => (rput_calls h1 p hm).mono fun e w' hh => hh.b (h1.elim fun v h => h.og)
theorem r_del {B1 : World → (Nat → Prop) → Prop} (h : P2 B1 (rdB g m) M w W) (key : ByteArray) (hm : m.length ≤ 100000) :
    Calls Try.prog 14 #[.pointer (some ⟨g, 0, none⟩), .string key] W fun e w' => e = .returned (ans m key) ∧ P2 B1 (rdB g (delM m key)) M w w' ∧ KeepS (fun k => ¬ M k) W w' :=
  h.of2 (keepsR _ _) fun O1 h1 hO => (rdel_calls h1 key hm).mono fun e w' hh => hh.b (h1.elim fun v h => h.og)
theorem r_get {B1 : World → (Nat → Prop) → Prop} (h : P2 B1 (rdB g m) M w W) (key : ByteArray) (hm : m.length ≤ 100000) :
    Calls Try.prog 16 #[.pointer (some ⟨g, 0, none⟩), .string key] W fun e w' => e = .returned (ans m key) ∧ P2 B1 (rdB g m) M w w' ∧ Grows W w' :=
  (h.see2 fun O1 h1 => rget_calls h1 key (by omega)).mono fun e w' hh => ⟨hh.1, h.grows hh.2, hh.2⟩
theorem r_list {B1 : World → (Nat → Prop) → Prop} (h : P2 B1 (rdB g m) M w W) (hm : m.length ≤ 100000) :
    Calls Try.prog 25 #[.pointer (some ⟨g, 0, none⟩)] W fun e w' => ∃ v, e = .returned v ∧ ToldS (keysM m) v w' ∧ P2 B1 (rdB g m) M w w' ∧ Grows W w' :=
  (h.see2 fun O1 h1 => rlist_calls h1 hm).mono fun e w' ⟨v, he, ho, hg⟩ => ⟨v, he, ho, h.grows hg, hg⟩
theorem r_from {B1 : World → (Nat → Prop) → Prop} (h : P2 B1 (rdB g m) M w W) (hm : m.length ≤ 100000) (key : ByteArray) (many : Int) :
    Calls Try.prog 19 #[.pointer (some ⟨g, 0, none⟩), .string key, .int .i64 many] W fun e w' => ∃ v, e = .returned v ∧ ToldS ((fromK (keysM m) key).take many.toNat) v w' ∧ P2 B1 (rdB g m) M w w' ∧ Grows W w' :=
  (h.see2 fun O1 h1 => rfrom_calls h1 hm key many).mono fun e w' ⟨v, he, ho, hg⟩ => ⟨v, he, ho, h.grows hg, hg⟩
theorem r_many {B1 : World → (Nat → Prop) → Prop} (h : P2 B1 (rdB g m) M w W) : Calls Try.prog 23 #[.pointer (some ⟨g, 0, none⟩)] W fun e w' => e = .returned (.int .i64 m.length) ∧ w' = W := h.see2 fun O1 h1 => rmany_calls h1
/-- A directory is made beside what is there. -/
theorem p_new (h : P2 noB B2 M w W) : Calls Try.prog 10 #[] W fun e w' => ∃ d, e = .returned (.pointer (some ⟨d, 0, none⟩)) ∧ P2 (dirB d []) B2 M w w' := by
  refine (new_calls W).mono ?_
  rintro e w' ⟨d, he, hd, hg⟩
  have hh := h.grows hg
  obtain ⟨O1, O2, h1, h2, a1, a2⟩ := h.ex
  refine ⟨d, he, ⟨keepsD _ _, h.k2, ⟨_, O2, hd, h.k2.keep h2 (fun k _ hlt => hg.block k hlt) fun k hk _ => hk, fun k hk => ⟨Nat.le_trans h.keep.size hk.1, hk.2, fun q => ?_, fun q => ?_⟩, fun k hk => ⟨(a2 k hk).1, Nat.lt_of_lt_of_le (a2 k hk).2.1 hg.size, (a2 k hk).2.2⟩⟩, hh.keep, hh.mlt, hh.mge⟩⟩
  · have := (a2 k q).2.1; have := hk.1; omega
  · have := h.mlt k q; have := hk.1; omega
theorem r_new {B1 : World → (Nat → Prop) → Prop} (h : P2 B1 noB M w W) : Calls Try.prog 11 #[] W fun e w' => ∃ g, e = .returned (.pointer (some ⟨g, 0, none⟩)) ∧ P2 B1 (rdB g []) M w w' := by
  refine (rnew_calls W).mono ?_
  rintro e w' ⟨g, he, hd, hg⟩
  have hh := (h.grows hg).swap
  obtain ⟨O1, O2, h1, h2, a1, a2⟩ := h.ex
  refine ⟨g, he, P2.swap ⟨keepsR _ _, h.k1, ⟨fun k => W.heap.size ≤ k ∧ k < w'.heap.size, O1, (keepsR g []).keep hd (fun k _ _ => rfl) fun k hk hl => ⟨hk, hl⟩, h.k1.keep h1 (fun k _ hlt => hg.block k hlt) fun k hk _ => hk, fun k hk => ⟨Nat.le_trans h.keep.size hk.1, hk.2, fun q => ?_, fun q => ?_⟩, fun k hk => ⟨(a1 k hk).1, Nat.lt_of_lt_of_le (a1 k hk).2.1 hg.size, (a1 k hk).2.2.2⟩⟩, hh.keep, hh.mlt, hh.mge⟩⟩
  · have := (a1 k q).2.1; have := hk.1; omega
  · have := h.mlt k q; have := hk.1; omega
end
/-- A box of a law's. -/
structure BoxM (M : Nat → Prop) (W : World) (q : Nat) (p : Pl) : Prop where
  box : PBox W q p
  mine : M q
section
variable {B1 B2 : World → (Nat → Prop) → Prop} {M M' : Nat → Prop} {w W W' : World} {q : Nat} {p : Pl}
theorem BoxM.kept (h : BoxM M W q p) (hK : KeepS (fun k => ¬ M k) W W') : BoxM M W' q p := ⟨h.box.keep (hK.block q (lt_heap h.box.blk) fun hn => hn h.mine), h.mine⟩
theorem BoxM.grows (h : BoxM M W q p) (hg : Grows W W') (hM : ∀ k, M k → M' k) : BoxM M' W' q p := ⟨h.box.grows hg, hM _ h.mine⟩
theorem ToldF.kept {l : List ByteArray} {v : Value} (h : ToldF M l v W) (hK : KeepS (fun k => ¬ M k) W W') : ToldF M l v W' := h.keep fun k hk hlt => hK.block k hlt fun hn => hn hk
theorem ToldF.growsM {l : List ByteArray} {v : Value} (h : ToldF M l v W) (hg : Grows W W') (hM : ∀ k, M k → M' k) : ToldF M' l v W' := (h.keep fun k _ hlt => hg.block k hlt).imp hM
/-- A block is made for the law. -/
theorem P2.alloc (h : P2 B1 B2 M w W) (o : Obj) : ∃ M', P2 B1 B2 M' w (W.alloc o) ∧ M' W.heap.size ∧ ∀ k, M k → M' k := by
  have e : (W.alloc o).heap.size = W.heap.size + 1 := Array.size_push _
  refine ⟨fun k => M k ∨ k = W.heap.size, h.more ((Below.refl W.heap.size W).alloc (Nat.le_refl _) _) fun k hk => ?_, .inr rfl, fun k hk => .inl hk⟩
  rcases hk with hk | hk
  · exact ⟨by have := h.mlt k hk; omega, .inl hk⟩
  · exact ⟨by omega, .inr (by omega)⟩
theorem P2.boxed (h : P2 B1 B2 M w W) (p : Pl) : ∃ M', P2 B1 B2 M' w (W.alloc (.cells p.cells 32)) ∧ BoxM M' (W.alloc (.cells p.cells 32)) W.heap.size p ∧ ∀ k, M k → M' k := by
  obtain ⟨M', h1, h2, h3⟩ := h.alloc (.cells p.cells 32)
  exact ⟨M', h1, ⟨PBox.new W p, h2⟩, h3⟩
/-- The law writes a box anew. -/
theorem P2.set (h : P2 B1 B2 M w W) (hq : M q) (vs : List Value) : P2 B1 B2 M w (W.setCells q 0 vs) :=
  h.law (KeepS.of_grown (grown_spl q vs 0 W) fun k e => by injection e with e; subst e; exact ⟨hq, h.mge _ hq⟩) fun k hk => ⟨Nat.lt_of_lt_of_le (h.mlt k hk) (grown_spl q vs 0 W).size, .inl hk⟩
theorem BoxM.set (h : BoxM M W q p) (p' : Pl) : BoxM M (W.setCells q 0 p'.vals) q p' := ⟨h.box.set p', h.mine⟩
theorem BoxM.far (h : BoxM M W q p) {q2 : Nat} (hne : q ≠ q2) (vs : List Value) : BoxM M (W.setCells q2 0 vs) q p := ⟨h.box.keep (heap_spl_ne q2 vs 0 W q hne), h.mine⟩
theorem P2.less (h : P2 B1 B2 M w W) (hs : ∀ k, M' k → M k) : P2 B1 B2 M' w W := h.law (KeepS.refl _ _) fun k hk => ⟨h.mlt k (hs k hk), .inl (hs k hk)⟩
end
theorem p_start {w W : World} (h : Below w.heap.size w W) : P2 noB noB (fun _ => False) w W :=
  ⟨keepsN, keepsN, ⟨fun _ => False, fun _ => False, trivial, trivial, fun k h => h.elim, fun k h => h.elim⟩, ⟨h.os, h.tape, h.output, h.size, fun k hk hn => h.block k (by omega)⟩, fun k h => h.elim, fun k h => h.elim⟩
/-! ### Names -/
theorem same_l0 (xs ys : List ByteArray) (he : xs.length = ys.length) (hl : xs.length ≤ 4611686018427387904) : ∀ (d i k : Nat), i + d = xs.length → d < k → souterrainref08_SameNames.l0 k xs ys i = some (decide (xs.drop i = ys.drop i))
  | 0, i, k, h, hk => by
    obtain ⟨k, rfl⟩ : ∃ m, k = m + 1 := ⟨k - 1, by omega⟩
    simp only [souterrainref08_SameNames.l0]
    rw [if_neg (by omega), List.drop_eq_nil_of_le (by omega), List.drop_eq_nil_of_le (by omega)]
    rfl
  | d + 1, i, k, h, hk => by
    obtain ⟨k, rfl⟩ : ∃ m, k = m + 1 := ⟨k - 1, by omega⟩
    have h1 : i < xs.length := by omega
    have h2 : i < ys.length := by omega
    have r1 : rdOf ByteArray.empty xs (i : Int) = xs[i] := by unfold rdOf; simp [List.getD_eq_getElem?_getD, List.getElem?_eq_getElem h1]
    have r2 : rdOf ByteArray.empty ys (i : Int) = ys[i] := by unfold rdOf; simp [List.getD_eq_getElem?_getD, List.getElem?_eq_getElem h2]
    simp only [souterrainref08_SameNames.l0]
    rw [if_pos (by omega), if_pos (by omega), if_pos (by omega), r1, r2, List.drop_eq_getElem_cons h1, List.drop_eq_getElem_cons h2]
    by_cases he2 : xs[i].toList = ys[i].toList
    · rw [if_pos he2]
      have he3 : xs[i] = ys[i] := key_eqb (beq_iff_eq.2 he2)
      have hw : wrap64 ((i : Int) + 1) = ((i + 1 : Nat) : Int) := by rw [IntWalk.wrap64_in _ ⟨by omega, by omega⟩]; rfl
      rw [hw, same_l0 xs ys he hl d (i + 1) k (by omega) (by omega), he3]
      exact congrArg some (decide_eq_decide.2 ⟨fun h => by rw [h], fun h => (List.cons.inj h).2⟩)
    · rw [if_neg he2]
      exact congrArg some (decide_eq_false fun h => he2 (by rw [(List.cons.inj h).1])).symm
theorem same_f (xs ys : List ByteArray) (hl : xs.length ≤ 4611686018427387904) : souterrainref08_SameNames.f (xs.length + 1) xs ys = some (decide (xs = ys)) := by
  unfold souterrainref08_SameNames.f
  by_cases he : xs.length = ys.length
  · rw [if_pos (by omega)]
    have := same_l0 xs ys he hl xs.length 0 (xs.length + 1) (by omega) (by omega)
    simpa using this
  · rw [if_neg (by omega)]
    have : xs ≠ ys := fun e => he (by rw [e])
    simp [this]
/-- SameNames of names that are told. -/
theorem same_calls {W : World} {xs ys : List ByteArray} {v1 v2 : Value} (h1 : ToldS xs v1 W) (h2 : ToldS ys v2 W) (hl : xs.length ≤ 1000000) :
    Calls Try.prog 17 #[v1, v2] W fun e w' => e = .returned (.bool (decide (xs = ys))) ∧ ∃ q, w' = W.drewN q := by
  obtain ⟨A1, c1, rfl, k1, r1⟩ := h1
  obtain ⟨A2, c2, rfl, k2, r2⟩ := h2
  refine (souterrainref08_SameNames.calls (xs.length + 1) A1 c1 xs A2 c2 ys _ W r1 k1 r2 k2 (same_f xs ys (by omega))).mono ?_
  rintro e w' ⟨rfl, hd⟩
  exact ⟨rfl, hd.out⟩
def placeOf (key : ByteArray) (n : Int) : Pl := ⟨n, 3, key, 13, 20⟩
theorem place_calls (W : World) (key : ByteArray) (n : Int) : Calls Try.prog 26 #[.string key, .int .i64 n] W fun e w' => e = .returned (.agg (placeOf key n).cells) ∧ Grows W w' :=
  souterrainlaw13_place.calls key n n 3 key 13 20 W rfl
/-! ### Calls as they are handed to the laws -/
def opPl (x : S34) : Pl := ⟨x.f1.f0, x.f1.f1.f0, x.f1.f1.f1, x.f1.f1.f2, x.f1.f1.f3⟩
def ktot (l : List S34) : Nat := (l.map fun x => x.f1.f1.f1.size).sum
theorem great_l (l : List S34) (hl : l.length ≤ 4611686018427387904) : ∀ (d : Nat) (i : Nat) (n : Nat) (k : Nat), i + d = l.length → d < k → n ≤ 4611686018427387904 → ∃ r, souterrainlaw13_great.l0 k l (n : Int) (i : Int) = some r ∧ (r = false → n + ktot (l.drop i) < 9000 ∧ l.length ≤ 300)
  | 0, i, n, k, hd, hk, hn => by
    obtain ⟨k, rfl⟩ : ∃ m, k = m + 1 := ⟨k - 1, by omega⟩
    have hz : ktot (l.drop i) = 0 := by rw [List.drop_eq_nil_of_le (by omega)]; rfl
    rw [hz]
    simp only [souterrainlaw13_great.l0]
    rw [if_neg (by omega)]
    by_cases h : (n : Int) ≥ 9000
    · exact ⟨true, by rw [if_pos h], fun h => by cases h⟩
    · refine ⟨decide ((l.length : Int) > 300), by rw [if_neg h], fun h2 => ?_⟩
      simp at h2; omega
  | d + 1, i, n, k, hd, hk, hn => by
    obtain ⟨k, rfl⟩ : ∃ m, k = m + 1 := ⟨k - 1, by omega⟩
    have hi : i < l.length := by omega
    by_cases hlt : n < 9000
    · have hrd : rd_T34 l (i : Int) = l[i] := by simp [rd_T34, List.getD_eq_getElem?_getD, List.getElem?_eq_getElem hi]
      obtain ⟨r, hr, hf⟩ := great_l l hl d (i + 1) (n + min l[i].f1.f1.f1.size 9000) k (by omega) (by omega) (by omega)
      refine ⟨r, ?_, fun h => ?_⟩
      · simp only [souterrainlaw13_great.l0]
        rw [if_pos (by omega), if_pos (by omega), if_pos (by omega), hrd]
        have e1 : wrap64 ((n : Int) + mn (l[i].f1.f1.f1.size : Int) 9000) = ((n + min l[i].f1.f1.f1.size 9000 : Nat) : Int) := by
          have : mn (l[i].f1.f1.f1.size : Int) 9000 = ((min l[i].f1.f1.f1.size 9000 : Nat) : Int) := by unfold mn; omega
          rw [this, IntWalk.wrap64_in _ ⟨by omega, by omega⟩]; omega
        have e2 : wrap64 ((i : Int) + 1) = ((i + 1 : Nat) : Int) := by rw [IntWalk.wrap64_in _ ⟨by omega, by omega⟩]; omega
        rw [e1, e2]; exact hr
      · have h1 := hf h
        have h2 : ktot (l.drop i) = l[i].f1.f1.f1.size + ktot (l.drop (i + 1)) := by
          unfold ktot
          rw [List.drop_eq_getElem_cons hi, List.map_cons, List.sum_cons]
        rw [h2]
        omega
    · simp only [souterrainlaw13_great.l0]
      rw [if_pos (by omega), if_neg (by omega), if_pos (by omega)]
      exact ⟨true, rfl, fun h => by cases h⟩
theorem ktot_mem {l : List S34} {x : S34} (h : x ∈ l) : x.f1.f1.f1.size ≤ ktot l := by
  unfold ktot
  induction l with
  | nil => cases h
  | cons a l ih =>
    rw [List.map_cons, List.sum_cons]
    rcases List.mem_cons.1 h with rfl | h
    · omega
    · have := ih h; omega
theorem great_tells (l : List S34) (hl : l.length ≤ 4611686018427387904) : ∃ k r, souterrainlaw13_great.f k l = some r ∧ (r = false → (∀ x ∈ l, (opPl x).key.size ≤ 9000) ∧ l.length ≤ 300) := by
  obtain ⟨r, hr, hf⟩ := great_l l hl l.length 0 l.length (l.length + 1) (by omega) (by omega) hl
  refine ⟨l.length + 1, r, hr, fun h => ?_⟩
  have := hf h
  rw [List.drop_zero] at this
  exact ⟨fun x hx => by have h2 := ktot_mem hx; show x.f1.f1.f1.size ≤ 9000; omega, this.2⟩
theorem cell_below {w W : World} (hb : Below w.heap.size w W) {p : Addr} {v : Value} (h : w.cell? p = some v) : W.cell? p = some v :=
  (World.cell?_of_block (w := w) (hb.block p.block (World.block_lt_of_cell? w p h))).trans h
/-- A call's cells. -/
structure OpAt (W : World) (p : Addr) (what : Int) (q : Pl) (n : Int) : Prop where
  c0 : W.cell? p = some (.int .i64 what)
  c1 : W.cell? ⟨p.block, p.off + 1, none⟩ = some (.int .i64 q.seg)
  c2 : W.cell? ⟨p.block, p.off + 2, none⟩ = some (.int .i64 q.kind)
  c3 : W.cell? ⟨p.block, p.off + 3, none⟩ = some (.string q.key)
  c4 : W.cell? ⟨p.block, p.off + 4, none⟩ = some (.int .i64 q.at_)
  c5 : W.cell? ⟨p.block, p.off + 5, none⟩ = some (.int .i64 q.size)
  c6 : W.cell? ⟨p.block, p.off + 6, none⟩ = some (.int .i64 n)
theorem op_at {w W : World} {A : Option Addr} {l : List S34} (h : Kd.C k34 w A l.length l) (hb : Below w.heap.size w W) {i : Nat} (hi : i < l.length) :
    ∃ ad, A = some ad ∧ OpAt W (ad.add (i * 7)) l[i].f0 (opPl l[i]) l[i].f2 := by
  obtain ⟨ad, e, h0, h1, h2, h3, h4, h5, h6⟩ := at_T34 h (i : Int) (by omega) (by omega)
  have hrd : rd_T34 l (i : Int) = l[i] := by simp [rd_T34, List.getD_eq_getElem?_getD, List.getElem?_eq_getElem hi]
  rw [hrd, Int.toNat_natCast] at h0 h1 h2 h3 h4 h5 h6
  exact ⟨ad, e, cell_below hb h0, cell_below hb h1, cell_below hb h2, cell_below hb h3, cell_below hb h4, cell_below hb h5, cell_below hb h6⟩
/-- A call in a box. -/
def opCells (what : Int) (q : Pl) (n : Int) : Array Value := #[.int .i64 what, .int .i64 q.seg, .int .i64 q.kind, .string q.key, .int .i64 q.at_, .int .i64 q.size, .int .i64 n]
structure OpBox (W : World) (b : Nat) (what : Int) (q : Pl) (n : Int) : Prop where
  blk : W.heap[b]? = some (.cells (opCells what q n) 34 (0, 0))
section
variable {W W' : World} {b : Nat} {what n : Int} {q : Pl}
theorem OpBox.keep (h : OpBox W b what q n) (hk : W'.heap[b]? = W.heap[b]?) : OpBox W' b what q n := ⟨hk.trans h.blk⟩
theorem OpBox.new (W : World) (what : Int) (q : Pl) (n : Int) : OpBox (W.alloc (.cells (opCells what q n) 34)) W.heap.size what q n := ⟨heap_alloc_new W _⟩
theorem OpBox.lt (h : OpBox W b what q n) : b < W.heap.size := lt_heap h.blk
theorem OpBox.c0 (h : OpBox W b what q n) : W.cell? ⟨b, 0, none⟩ = some (.int .i64 what) := cell_of_row W b 0 _ 34 (0, 0) h.blk
theorem OpBox.c1 (h : OpBox W b what q n) : W.cell? ⟨b, 1, none⟩ = some (.int .i64 q.seg) := cell_of_row W b 1 _ 34 (0, 0) h.blk
theorem OpBox.c2 (h : OpBox W b what q n) : W.cell? ⟨b, 2, none⟩ = some (.int .i64 q.kind) := cell_of_row W b 2 _ 34 (0, 0) h.blk
theorem OpBox.c3 (h : OpBox W b what q n) : W.cell? ⟨b, 3, none⟩ = some (.string q.key) := cell_of_row W b 3 _ 34 (0, 0) h.blk
theorem OpBox.c4 (h : OpBox W b what q n) : W.cell? ⟨b, 4, none⟩ = some (.int .i64 q.at_) := cell_of_row W b 4 _ 34 (0, 0) h.blk
theorem OpBox.c5 (h : OpBox W b what q n) : W.cell? ⟨b, 5, none⟩ = some (.int .i64 q.size) := cell_of_row W b 5 _ 34 (0, 0) h.blk
theorem OpBox.c6 (h : OpBox W b what q n) : W.cell? ⟨b, 6, none⟩ = some (.int .i64 n) := cell_of_row W b 6 _ 34 (0, 0) h.blk
end
/-- A call in a box of the law's. -/
structure OpM (M : Nat → Prop) (W : World) (b : Nat) (what : Int) (q : Pl) (n : Int) : Prop where
  box : OpBox W b what q n
  mine : M b
section
variable {B1 B2 : World → (Nat → Prop) → Prop} {M M' : Nat → Prop} {w W W' : World} {b : Nat} {what n : Int} {q : Pl}
theorem OpM.kept (h : OpM M W b what q n) (hK : KeepS (fun k => ¬ M k) W W') : OpM M W' b what q n := ⟨h.box.keep (hK.block b h.box.lt fun hn => hn h.mine), h.mine⟩
theorem OpM.grows (h : OpM M W b what q n) (hg : Grows W W') (hM : ∀ k, M k → M' k) : OpM M' W' b what q n := ⟨h.box.keep (hg.block b h.box.lt), hM _ h.mine⟩
theorem P2.oped (h : P2 B1 B2 M w W) (what : Int) (q : Pl) (n : Int) : ∃ M', P2 B1 B2 M' w (W.alloc (.cells (opCells what q n) 34)) ∧ OpM M' (W.alloc (.cells (opCells what q n) 34)) W.heap.size what q n ∧ ∀ k, M k → M' k := by
  obtain ⟨M', h1, h2, h3⟩ := h.alloc (.cells (opCells what q n) 34)
  exact ⟨M', h1, ⟨OpBox.new W what q n, h2⟩, h3⟩
theorem P2.sorted {d : Nat} {m : List Pl} (h : P2 (dirB d m) B2 M w W) : SortedM m := by
  obtain ⟨O1, O2, h1, _⟩ := h.ex
  obtain ⟨rs, vs, hB, hR⟩ := h1
  exact hR.sorted
end
end Go.Proofs.Ytomlnflblecpbaa
