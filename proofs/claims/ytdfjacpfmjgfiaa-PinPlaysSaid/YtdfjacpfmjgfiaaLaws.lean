/-
  The law PinMore: to pin a segment again changes nothing; by another handle it is pinned until both are closed.
-/
import Derived.Test.YtdfjacpfmjgfiaaHead
import Derived.Test.YtdfjacpfmjgfiaaGreat
namespace Go.Proofs.Ytdfjacpfmjgfiaa
set_option linter.unusedVariables false
set_option linter.unusedSimpArgs false
open Go.Shelf Go.RowKit Go.Proofs.YtdfjacpfmjgfiaaW.PrintWords Go.Proofs.YtdfjacpfmjgfiaaW.PrintMore
attribute [local go_sem] max2_int
/-- A world that the law has come to: what was there is as it was. -/
theorem below_of {w W : World} (h : KeepS (fun k => w.heap.size ≤ k) w W) : Below w.heap.size w W := ⟨h.os, h.tape, h.output, h.size, fun k hk => h.block k hk (by omega)⟩
theorem keep_of {w W : World} (h : Below w.heap.size w W) : KeepS (fun k => w.heap.size ≤ k) w W := ⟨h.os, h.tape, h.output, h.size, fun k _ hk => h.block k (by omega)⟩
theorem TB.grows {R : Nat → Prop} {W W' : World} {t : Nat} {most next : Int} {hl : HL} (h : TB R W t most next hl) (hg : Grows W W') : TB R W' t most next hl := h.other ⟨hg.os, hg.tape, hg.output, hg.size, fun k hk _ => hg.block k hk⟩
theorem keep_grows {w W W' : World} (h : KeepS (fun k => w.heap.size ≤ k) w W) (hg : Grows W W') : KeepS (fun k => w.heap.size ≤ k) w W' := h.trans (KeepS.of_grows hg)
theorem ins_nil (s : Int) : ins [] s = [s] := rfl
theorem more_pin (s : Int) : pinL [(1, [s]), (2, [])] 1 s = [(1, [s]), (2, [])] := pin_same (by decide : ([(1 : Int), 2] : List Int).Nodup) rfl (by simp)
theorem more_cnt (s : Int) : cnt [(2, [s])] s = 1 := by simp [cnt]
/-- The table of a law's walk: apart from what was there ahead of it. -/
structure At (w W : World) (t : Nat) (most next : Int) (hl : HL) : Prop where
  tb : TB (fun k => k < w.heap.size) W t most next hl
  keep : KeepS (fun k => w.heap.size ≤ k) w W
theorem At.post {w W w' : World} {t : Nat} {most next most' next' : Int} {hl hl' : HL} {r : Value} {e : Ending} (h : At w W t most next hl) (hp : TBPost (fun k => k < w.heap.size) W t most' next' hl' r e w') : e = .returned r ∧ At w w' t most' next' hl' :=
  ⟨hp.1, hp.2.1, keep_on h.keep hp.2.2 fun k hk => hk⟩
theorem At.grows {w W W' : World} {t : Nat} {most next : Int} {hl : HL} (h : At w W t most next hl) (hg : Grows W W') : At w W' t most next hl := ⟨h.tb.grows hg, keep_grows h.keep hg⟩
theorem at_pin {w W : World} {t : Nat} {most next : Int} {hl : HL} (h : At w W t most next hl) (hb : ∀ x ∈ hl, x.2.length ≤ 99999) (hb2 : hl.length ≤ 100000) (k n : Int) {hl' : HL} (e1 : pinL hl k n = hl') {b : Bool} (e2 : (getL hl k).isSome = b) :
    Calls Try.prog 13 #[.pointer (some ⟨t, 0, none⟩), .int .i64 k, .int .i64 n] W fun e w' => e = .returned (.bool b) ∧ At w w' t most next hl' := by
  subst e1 e2; exact (pin_tb h.tb hb hb2 k n).mono fun e w' hp => h.post hp
theorem at_close {w W : World} {t : Nat} {most next : Int} {hl : HL} (h : At w W t most next hl) (hb : ∀ x ∈ hl, x.2.length ≤ 100000) (hb2 : hl.length ≤ 100000) (k : Int) {hl' : HL} (e1 : delL hl k = hl') {b : Bool} (e2 : (getL hl k).isSome = b) :
    Calls Try.prog 15 #[.pointer (some ⟨t, 0, none⟩), .int .i64 k] W fun e w' => e = .returned (.bool b) ∧ At w w' t most next hl' := by
  subst e1 e2; exact (close_tb h.tb hb hb2 k).mono fun e w' hp => h.post hp
theorem at_open {w W : World} {t : Nat} {most next : Int} {hl : HL} (h : At w W t most next hl) (hf : hl.length < most) (hb : ∀ x ∈ hl, x.2.length ≤ 50000) (hb2 : hl.length ≤ 50000) (h1n : 1 ≤ next) (hn40 : next ≤ 1000000) {A : Option Addr} {m c : Nat} {xs : List Int} (hr : ReadsR W (fun k => k < w.heap.size) A m xs) (hm : m ≤ 40000) {hl' : HL} (e1 : hl ++ [(next, insAll [] xs)] = hl') {n' : Int} (e2 : next + 1 = n') :
    Calls Try.prog 17 #[.pointer (some ⟨t, 0, none⟩), .slice A m c] W fun e w' => e = .returned (.tuple #[.int .i64 next, .int .i64 0]) ∧ At w w' t most n' hl' := by
  subst e1 e2; exact (open_tb h.tb hf hb hb2 h1n hn40 hr hm).mono fun e w' hp => h.post hp
/-- Open of a row that is newer than the table. -/
theorem at_open_new {w W W2 : World} {t : Nat} {most next : Int} {hl : HL} (h : At w W t most next hl) (hg : Grows W W2) (hf : hl.length < most) (hb : ∀ x ∈ hl, x.2.length ≤ 50000) (hb2 : hl.length ≤ 50000) (h1n : 1 ≤ next) (hn40 : next ≤ 1000000) {ad : Addr} {m c : Nat} {xs : List Int} (hr : ReadsInt W2 .i64 (some ad) m xs) (had : W.heap.size ≤ ad.block) (hm : m ≤ 40000) {hl' : HL} (e1 : hl ++ [(next, insAll [] xs)] = hl') {n' : Int} (e2 : next + 1 = n') :
    Calls Try.prog 17 #[.pointer (some ⟨t, 0, none⟩), .slice (some ad) m c] W2 fun e w' => e = .returned (.tuple #[.int .i64 next, .int .i64 0]) ∧ At w w' t most n' hl' := by
  subst e1 e2
  refine (open_tb (h.tb.with (KeepS.of_grows hg)) hf hb hb2 h1n hn40 (ReadsR.of hr fun k hk a e1 e2 => by injection e1 with e1; subst e1; subst e2; exact .inr ⟨had, hk⟩) hm).mono fun e w' hp => ⟨hp.1, hp.2.1.sub fun k hk => .inl hk, keep_on (keep_grows h.keep hg) hp.2.2 fun k hk => .inl hk⟩
theorem at_pinned {w W : World} {t : Nat} {most next : Int} {hl : HL} (h : At w W t most next hl) (n : Int) {b : Bool} (e1 : decide (0 < cnt hl n) = b) : Calls Try.prog 26 #[.pointer (some ⟨t, 0, none⟩), .int .i64 n] W fun e w' => e = .returned (.bool b) ∧ w' = W := by
  subst e1; exact pinned_tb h.tb n
theorem at_of {w W : World} {t : Nat} {most next : Int} {hl : HL} (h : At w W t most next hl) (n : Int) (hb : ∀ x ∈ hl, x.2.length ≤ 1000000) {l : List Int} (e1 : (getL hl n).getD [] = l) :
    Calls Try.prog 24 #[.pointer (some ⟨t, 0, none⟩), .int .i64 n] W fun e w' => ∃ A c, e = .returned (.slice A l.length c) ∧ l.length ≤ c ∧ ReadsInt w' .i64 A l.length l ∧ w'.ownsRow W.heap.size 3 1 (.slice A l.length c) l.length (nums .i64 l) ∧ Grows W w' ∧ At w w' t most next hl := by
  subst e1
  refine (of_tb h.tb n hb).mono ?_
  rintro e w' ⟨v', rfl, ho, hg⟩
  obtain ⟨A, c, rfl, hc⟩ := own_slice ho
  exact ⟨A, c, rfl, hc, own_reads' ho, ho, hg, h.grows hg⟩
theorem at_new (w W : World) (hk : Below w.heap.size w W) (most : Int) (h : 1 ≤ most ∧ most ≤ 1024) : Calls Try.prog 10 #[.int .i64 most] W fun e w' => ∃ t, e = .returned (.pointer (some ⟨t, 0, none⟩)) ∧ At w w' t most 1 [] := by
  refine (new_tb W most h).mono ?_
  rintro e w' ⟨t, rfl, hT, hg⟩
  exact ⟨t, rfl, hT.sub fun k h => Nat.lt_of_lt_of_le h hk.size, keep_grows (keep_of hk) hg⟩
set_option maxRecDepth 100000 in
set_option maxHeartbeats 4000000 in
theorem more_calls (w : World) (s tm : Int) (h0 : 0 ≤ tm) (h1 : tm < 256) : Calls Try.prog 8 #[.int .i64 s, .int .u8 tm] w fun e w' => e = .returned (.bool true) ∧ Below w.heap.size w w' := by
  obtain ⟨n, rfl⟩ : ∃ n : Nat, tm = n := ⟨tm.toNat, by omega⟩
  go_enter Try.func8, Try.ntmps8
  go_upto_region 2 with (go_at_call 9; refine (head_calls _).mono ?_; rintro e w1 ⟨rfl, hb⟩; have HB := Aside0.mk hb; clear hb)
  go_upto_region 5 with (go_at_call 10; refine (at_new w _ HB.out 2 (by decide)).mono ?_; rintro e w2 ⟨t, rfl, hA⟩; have HA := Aside0.mk hA; clear hA)
  clear HB
  have HC := Aside0.mk (at_open_new (c := 1) (m := 1) (xs := [s]) (hl' := [(1, [s])]) (n' := 2) HA.out ((Below.refl w2.heap.size w2).alloc (Nat.le_refl _) (.cells #[.int .i64 s] 3)) (by simp) (by simp) (by simp) (by decide) (by decide) (lits_reads (by simp) (heap_alloc_new w2 _)) (Nat.le_refl _) (by decide) rfl rfl)
  clear HA
  go_upto_region 6 with (go_at_call 17; refine HC.out.mono ?_; clear HC; rintro e w3 ⟨rfl, hA⟩; have HA := Aside0.mk hA; clear hA)
  have HC := Aside0.mk (at_open (m := 0) (xs := []) (c := 0) (hl' := [(1, [s]), (2, [])]) (n' := 3) HA.out (by simp) (by simp) (by simp) (by decide) (by decide) ReadsR.none (by decide) rfl rfl)
  clear HA
  go_upto_region 7 with (go_at_call 17; refine HC.out.mono ?_; clear HC; rintro e w4 ⟨rfl, hA⟩; have HA := Aside0.mk hA; clear hA)
  go_wp2
  go_loopg [11] n (fun f v11 wr => ∃ i : Nat, Aside0 (f + i = n) ∧ i ≤ n ∧ v11 = .int .i64 i ∧ Aside0 (At w wr t 2 3 [(1, [s]), (2, [])]))
  case atStart => exact ⟨0, ⟨by omega⟩, by omega, rfl, HA⟩
  case round =>
    obtain ⟨i, HF, hi, rfl, HS⟩ := hrel
    clear HA
    have hu : IntKind.i64.wrap (n : Int) = n := IntWalk.i64_in _ ⟨by omega, by omega⟩
    by_cases hlt : i < n
    · have HC := Aside0.mk (at_pin HS.out (by simp) (by simp) 1 s (more_pin s) (b := true) rfl)
      clear HS
      go_wp2_with (first
        | (go_at_call 13; refine HC.out.mono ?_; clear HC; rintro e w5 ⟨rfl, hA⟩; have HD := Aside0.mk (at_of hA 1 (by simp) (l := [s]) rfl); clear hA)
        | (go_at_call 24; refine HD.out.mono ?_; clear HD; rintro e w6 ⟨A, c, rfl, hc, hr, ho, hg, hA⟩; have HA := Aside0.mk hA; clear hc hr ho hg hA))
      go_roundg (n - (i + 1))
      case measure => have := HF.out; omega
      case rel => exact ⟨i + 1, ⟨by omega⟩, by omega, by go_num, HA⟩
    · have HC := Aside0.mk (at_pin HS.out (by simp) (by simp) 2 s (hl' := [(1, [s]), (2, [s])]) rfl (b := true) rfl)
      clear HS
      go_upto_region 13 with (go_at_call 13; refine HC.out.mono ?_; clear HC; rintro e w5 ⟨rfl, hA⟩; have HA := Aside0.mk hA; clear hA)
      have HC := Aside0.mk (at_close HA.out (by simp) (by simp) 1 (hl' := [(2, [s])]) rfl (b := true) rfl)
      clear HA
      go_upto_region 14 with (go_at_call 15; refine HC.out.mono ?_; clear HC; rintro e w6 ⟨rfl, hA⟩; have HA := Aside0.mk hA; clear hA)
      have HC := Aside0.mk (at_pinned HA.out s (b := true) (by rw [more_cnt]; rfl))
      go_upto_region 15 with (go_at_call 26; refine HC.out.mono ?_; clear HC; rintro e w7 ⟨rfl, rfl⟩)
      have HC := Aside0.mk (at_close HA.out (by simp) (by simp) 2 (hl' := []) rfl (b := true) rfl)
      clear HA
      go_upto_region 16 with (go_at_call 15; refine HC.out.mono ?_; clear HC; rintro e w8 ⟨rfl, hA⟩; have HA := Aside0.mk hA; clear hA)
      have HC := Aside0.mk (at_pinned HA.out s (b := false) rfl)
      have HD := Aside0.mk (at_pin HA.out (by simp) (by simp) 1 s (hl' := []) rfl (b := false) rfl)
      clear HA
      go_wp2_with (first
        | (go_at_call 26; refine HC.out.mono ?_; clear HC; rintro e w9 ⟨rfl, rfl⟩)
        | (go_at_call 13; refine HD.out.mono ?_; clear HD; rintro e w10 ⟨rfl, hA⟩; have HA := Aside0.mk hA; clear hA))
      go_ret
      exact ⟨rfl, below_of HA.out.keep⟩
end Go.Proofs.Ytdfjacpfmjgfiaa

/-
  Layer 17: a table in a law's walk, apart from blocks that are the law's.
-/
namespace Go.Proofs.Ytdfjacpfmjgfiaa
set_option linter.unusedVariables false
set_option linter.unusedSimpArgs false
open Go.Shelf Go.RowKit Go.Proofs.YtdfjacpfmjgfiaaW.PrintWords Go.Proofs.YtdfjacpfmjgfiaaW.PrintMore
attribute [local go_sem] max2_int
structure AtR (R : Nat → Prop) (w W : World) (t : Nat) (most next : Int) (hl : HL) : Prop where
  tb : TB R W t most next hl
  keep : KeepS (fun k => w.heap.size ≤ k) w W
  sub : ∀ k, k < w.heap.size → R k
section
variable {R : Nat → Prop} {w W : World} {t : Nat} {most next : Int} {hl : HL}
theorem AtR.post {w' : World} {most' next' : Int} {hl' : HL} {r : Value} {e : Ending} (h : AtR R w W t most next hl) (hp : TBPost R W t most' next' hl' r e w') : e = .returned r ∧ AtR R w w' t most' next' hl' ∧ KeepS (fun k => ¬ R k) W w' :=
  ⟨hp.1, ⟨hp.2.1, keep_on h.keep hp.2.2 h.sub, h.sub⟩, hp.2.2⟩
/-- The law writes its own, or makes. -/
theorem AtR.other {W' : World} (h : AtR R w W t most next hl) (hk : KeepS R W W') (hb : KeepS (fun k => w.heap.size ≤ k) w W') : AtR R w W' t most next hl := ⟨h.tb.other hk, hb, h.sub⟩
theorem AtR.grows {W' : World} (h : AtR R w W t most next hl) (hg : Grows W W') : AtR R w W' t most next hl := ⟨h.tb.grows hg, keep_grows h.keep hg, h.sub⟩
/-- .. and what is new is the law's. -/
theorem AtR.with {W' : World} (h : AtR R w W t most next hl) (hk : KeepS R W W') (hb : KeepS (fun k => w.heap.size ≤ k) w W') : AtR (fun k => R k ∨ (W.heap.size ≤ k ∧ k < W'.heap.size)) w W' t most next hl := ⟨h.tb.with hk, hb, fun k hk => .inl (h.sub k hk)⟩
theorem AtR.below (h : AtR R w W t most next hl) : Below w.heap.size w W := below_of h.keep
theorem AtR.drewN (h : AtR R w W t most next hl) (q : Nat) : AtR R w (W.drewN q) t most next hl := h.grows ⟨rfl, rfl, rfl, Nat.le_refl _, fun _ _ => rfl⟩
theorem atR_pin (h : AtR R w W t most next hl) (hb : ∀ x ∈ hl, x.2.length ≤ 99999) (hb2 : hl.length ≤ 100000) (k n : Int) :
    Calls Try.prog 13 #[.pointer (some ⟨t, 0, none⟩), .int .i64 k, .int .i64 n] W fun e w' => e = .returned (.bool (getL hl k).isSome) ∧ AtR R w w' t most next (pinL hl k n) ∧ KeepS (fun k => ¬ R k) W w' :=
  (pin_tb h.tb hb hb2 k n).mono fun e w' hp => h.post hp
theorem atR_close (h : AtR R w W t most next hl) (hb : ∀ x ∈ hl, x.2.length ≤ 100000) (hb2 : hl.length ≤ 100000) (k : Int) :
    Calls Try.prog 15 #[.pointer (some ⟨t, 0, none⟩), .int .i64 k] W fun e w' => e = .returned (.bool (getL hl k).isSome) ∧ AtR R w w' t most next (delL hl k) ∧ KeepS (fun k => ¬ R k) W w' :=
  (close_tb h.tb hb hb2 k).mono fun e w' hp => h.post hp
theorem atR_open (h : AtR R w W t most next hl) (hf : hl.length < most) (hb : ∀ x ∈ hl, x.2.length ≤ 50000) (hb2 : hl.length ≤ 50000) (h1n : 1 ≤ next) (hn40 : next ≤ 1000000) {A : Option Addr} {m c : Nat} {xs : List Int} (hr : ReadsR W R A m xs) (hm : m ≤ 40000) :
    Calls Try.prog 17 #[.pointer (some ⟨t, 0, none⟩), .slice A m c] W fun e w' => e = .returned (.tuple #[.int .i64 next, .int .i64 0]) ∧ AtR R w w' t most (next + 1) (hl ++ [(next, insAll [] xs)]) ∧ KeepS (fun k => ¬ R k) W w' :=
  (open_tb h.tb hf hb hb2 h1n hn40 hr hm).mono fun e w' hp => h.post hp
theorem atR_full (h : AtR R w W t most next hl) (hf : most ≤ hl.length) (v : Value) :
    Calls Try.prog 17 #[.pointer (some ⟨t, 0, none⟩), v] W fun e w' => e = .returned (.tuple #[.int .i64 0, .int .i64 5]) ∧ AtR R w w' t most next hl ∧ KeepS (fun k => ¬ R k) W w' :=
  (full_tb h.tb hf v).mono fun e w' hp => h.post hp
theorem atR_of (h : AtR R w W t most next hl) (n : Int) (hb : ∀ x ∈ hl, x.2.length ≤ 1000000) {l : List Int} (e1 : (getL hl n).getD [] = l) :
    Calls Try.prog 24 #[.pointer (some ⟨t, 0, none⟩), .int .i64 n] W fun e w' => ∃ A c, e = .returned (.slice A l.length c) ∧ l.length ≤ c ∧ ReadsInt w' .i64 A l.length l ∧ w'.ownsRow W.heap.size 3 1 (.slice A l.length c) l.length (nums .i64 l) ∧ Grows W w' ∧ AtR R w w' t most next hl := by
  subst e1
  refine (of_tb h.tb n hb).mono ?_
  rintro e w' ⟨v', rfl, ho, hg⟩
  obtain ⟨A, c, rfl, hc⟩ := own_slice ho
  exact ⟨A, c, rfl, hc, own_reads' ho, ho, hg, h.grows hg⟩
theorem atR_new (w W : World) (hk : Below w.heap.size w W) (most : Int) (h : 1 ≤ most ∧ most ≤ 1024) : Calls Try.prog 10 #[.int .i64 most] W fun e w' => ∃ t, e = .returned (.pointer (some ⟨t, 0, none⟩)) ∧ AtR (fun k => k < w.heap.size) w w' t most 1 [] := by
  refine (new_tb W most h).mono ?_
  rintro e w' ⟨t, rfl, hT, hg⟩
  exact ⟨t, rfl, hT.sub fun k h => Nat.lt_of_lt_of_le h hk.size, keep_grows (keep_of hk) hg, fun k h => h⟩
theorem AtR.reads (h : AtR R w W t most next hl) {A : Option Addr} {n : Nat} {xs : List Int} (hr : ReadsInt w .i64 A n xs) : ReadsInt W .i64 A n xs ∧ ReadsR W R A n xs := by
  have h1 : ReadsInt W .i64 A n xs := hr.below h.below
  refine ⟨h1, h1, fun ad e h0 => ?_⟩
  have hlt := ReadsO.lt (O := fun _ => False) ⟨hr, fun _ _ _ h => h⟩ e h0
  exact h.sub _ hlt
end
/-- Is a number one of some? -/
theorem has_calls {W : World} {A : Option Addr} {n c : Nat} {xs : List Int} (hr : ReadsInt W .i64 A n xs) (x : Int) (hn : n ≤ 1000000) :
    Calls Try.prog 28 #[.slice A n c, .int .i64 x] W fun e w' => e = .returned (.bool (xs.contains x)) ∧ w' = W := by
  obtain ⟨hl, _, hc⟩ := hr
  have HL := Aside0.mk hl
  have HC := Aside0.mk hc
  clear hl hc
  go_enter Try.func28, Try.ntmps28
  go_wp2
  go_loopg [5] n (fun f v5 wr => ∃ i : Nat, Aside0 (f + i = n) ∧ i ≤ n ∧ v5 = .int .i64 i ∧ wr = W ∧ Aside0 (∀ j, j < i → xs.getD j 0 ≠ x))
  case atStart => exact ⟨0, ⟨by omega⟩, by omega, rfl, rfl, ⟨fun j hj => by omega⟩⟩
  case round =>
    obtain ⟨i, HF, hi, rfl, rfl, HS⟩ := hrel
    by_cases hlt : i < n
    · obtain ⟨ad, rfl, hcell⟩ := HC.out (by omega)
      replace hcell := hcell i hlt
      obtain ⟨y, hy⟩ : ∃ y, xs.getD i 0 = y := ⟨_, rfl⟩
      rw [hy] at hcell
      have HY := Aside0.mk hy
      clear hy
      by_cases hxy : y = x
      · have hxb : (y == x) = true := beq_iff_eq.2 hxy
        have HX := Aside0.mk hxy
        clear hxy
        go_wp2
        go_ret
        refine ⟨?_, rfl⟩
        have : xs.contains x = true := by
          rw [List.contains_iff_mem, ← HX.out, ← HY.out, List.getD_eq_getElem?_getD, List.getElem?_eq_getElem (by rw [HL.out]; exact hlt)]
          exact List.getElem_mem _
        rw [this]; rfl
      · have hxb : (y == x) = false := beq_eq_false_iff_ne.2 hxy
        have HX := Aside0.mk hxy
        clear hxy
        go_wp2
        go_roundg (n - (i + 1))
        case measure => have := HF.out; omega
        case rel =>
          refine ⟨i + 1, ⟨by omega⟩, by omega, by go_num, rfl, ⟨fun j hj => ?_⟩⟩
          by_cases hji : j = i
          · rw [hji, HY.out]; exact HX.out
          · exact HS.out j (by omega)
    · obtain rfl : i = n := by omega
      go_wp2
      go_ret
      refine ⟨?_, rfl⟩
      have : xs.contains x = false := by
        rw [Bool.eq_false_iff]
        intro h
        rw [List.contains_iff_mem] at h
        obtain ⟨j, hj, e⟩ := List.getElem_of_mem h
        exact HS.out j (by rw [← HL.out]; exact hj) (by rw [List.getD_eq_getElem?_getD, List.getElem?_eq_getElem hj]; exact e)
      rw [this]; rfl
end Go.Proofs.Ytdfjacpfmjgfiaa

/-
  The law PinOf: what a handle pins is told in order, each once, whatever was handed in twice; it is one's own.
-/
namespace Go.Proofs.Ytdfjacpfmjgfiaa
set_option linter.unusedVariables false
set_option linter.unusedSimpArgs false
open Go.Shelf Go.RowKit Go.Proofs.YtdfjacpfmjgfiaaW.PrintWords Go.Proofs.YtdfjacpfmjgfiaaW.PrintMore
attribute [local go_sem] max2_int
/-- A cell of an own row turns. -/
theorem own_set {W : World} {B b c : Nat} {xs : List Int} (ho : W.ownsRow B 3 1 (.slice (some ⟨b, 0, none⟩) xs.length c) xs.length (nums .i64 xs)) (i : Nat) (u : Int) : (W.setCell ⟨b, i, none⟩ (.int .i64 u)).ownsRow B 3 1 (.slice (some ⟨b, 0, none⟩) (xs.set i u).length c) (xs.set i u).length (nums .i64 (xs.set i u)) := by
  rcases ho.2 with ⟨h, _⟩ | ⟨b', cap, cur, hv, hBb, hb, hc, hcm, hcs, hcur⟩
  · cases h
  · injection hv with h1 h2 h3
    injection h1 with h1
    injection h1 with h1
    subst h1 h3
    rw [List.length_set]
    refine ⟨by simp [nums], .inr ⟨b, c, cur.setIfInBounds i (.int .i64 u), rfl, hBb, heap_spl b [.int .i64 u] i W cur hb, hc, hcm, by simpa using hcs, ?_⟩⟩
    rw [Nat.mul_one] at hcur ⊢
    rw [Array.toList_setIfInBounds, List.take_set, hcur]
    simp [nums, List.map_set]
/-- append([]int{}, xs...). -/
theorem append_new {W : World} {A : Option Addr} {n c : Nat} {xs : List Int} (hr : ReadsInt W .i64 A n xs) (hn : n ≤ 1000000) :
    ∃ v1 w1, (Builtin.append_ #[29, 29] 29 #[.slice (some ⟨W.heap.size, 0, none⟩) 0 0, .slice A n c]).run Try.prog (W.alloc (.cells #[] 3)) = .ok v1 w1 ∧ w1.ownsRow W.heap.size 3 1 v1 xs.length (nums .i64 xs) ∧ Grows W w1 := by
  have he0 : Grows W (W.alloc (.cells #[] 3)) := (Below.refl W.heap.size W).alloc (Nat.le_refl _) (.cells #[] 3)
  obtain ⟨v1, w1, hr2, ho1, hg1, hloc⟩ := ints_run (t := 29) (u := 29) (ty := 29) Try.underlying29 Try.underlying29 W.heap.size (.slice (some ⟨W.heap.size, 0, none⟩) 0 0) [] xs A n c (own_empty3 (heap_alloc_new W (.cells #[] 3))) (hr.below he0) he0.size (by simp; omega)
  rw [List.nil_append] at ho1
  exact ⟨v1, w1, hr2, ho1, grown_own he0 hg1 (own_empty3 (heap_alloc_new W (.cells #[] 3)))⟩
theorem getL_one (l : List Int) : getL [(1, l)] 1 = some l := rfl
theorem pinL_one (l : List Int) (n : Int) : pinL [(1, l)] 1 n = [(1, ins l n)] := rfl
/-- What PinOf's law has when the handle is there, and all is pinned. -/
structure OfState (w W : World) (t : Nat) (L : List Int) (A : Option Addr) (c : Nat) : Prop where
  tab : ∃ R, AtR R w W t 3 2 [(1, L)]
  row : ReadsInt W .i64 A L.length L
  cap : L.length ≤ c
theorem OfState.drewN {w W : World} {t : Nat} {L : List Int} {A : Option Addr} {c : Nat} (h : OfState w W t L A c) (q : Nat) : OfState w (W.drewN q) t L A c :=
  ⟨h.tab.elim fun R h => ⟨R, h.drewN q⟩, h.row, h.cap⟩
theorem OfState.below {w W : World} {t : Nat} {L : List Int} {A : Option Addr} {c : Nat} (h : OfState w W t L A c) : Below w.heap.size w W := h.tab.elim fun R h => h.below
theorem getD_lt {l : List Int} {i : Nat} (h : i < l.length) : l.getD i 0 = l[i] := by rw [List.getD_eq_getElem?_getD, List.getElem?_eq_getElem h]; rfl
theorem rises_at {l : List Int} (h : Rises l) {i : Nat} (h1 : i + 1 < l.length) : l[i] < l[i + 1] := List.pairwise_iff_getElem.1 h i (i + 1) (by omega) h1 (by omega)
/-- The law's own copy of what was handed in, as it is being overwritten. -/
structure OfCopy (R : Nat → Prop) (w W : World) (t B : Nat) (X : Option Addr) (cx n : Nat) (hl : HL) : Prop where
  tab : AtR R w W t 3 2 hl
  row : ∃ zs : List Int, zs.length = n ∧ W.ownsRow B 3 1 (.slice X zs.length cx) zs.length (nums .i64 zs)
  mine : ∀ ad, X = some ad → R ad.block
  base : w.heap.size ≤ B
set_option maxRecDepth 100000 in
set_option maxHeartbeats 4000000 in
theorem of_law_calls (w : World) {A0 A1 : Option Addr} {n0 n1 c0 c1 : Nat} {xs ys : List Int} (h0 : ReadsInt w .i64 A0 n0 xs) (h1 : ReadsInt w .i64 A1 n1 ys) (hb0 : n0 ≤ 140737488351232) (hb1 : n1 ≤ 140737488351232) (hc0 : n0 ≤ c0) (hc1 : n1 ≤ c1) :
    Calls Try.prog 6 #[.slice A0 n0 c0, .slice A1 n1 c1] w fun e w' => e = .returned (.bool true) ∧ Below w.heap.size w w' := by
  obtain rfl := h0.1
  obtain rfl := h1.1
  have H0 := Aside0.mk h0
  have H1 := Aside0.mk h1
  clear h0 h1
  have hw : IntKind.i64.wrap ((xs.length : Int) + ys.length) = (xs.length : Int) + ys.length := IntWalk.i64_in _ ⟨by omega, by omega⟩
  go_enter Try.func6, Try.ntmps6
  go_upto_region 2 with (go_at_call 9; refine (head_calls _).mono ?_; rintro e w1 ⟨rfl, hb⟩; have HB := Aside0.mk hb; clear hb)
  go_upto_region 3 with (go_at_call 10; refine (atR_new w _ HB.out 3 (by decide)).mono ?_; rintro e w2 ⟨t, rfl, hA⟩; have HA := Aside0.mk hA; clear hA)
  clear HB
  by_cases hgt : (xs.length : Int) + ys.length > 500
  · have hgd : decide (500 < (xs.length : Int) + ys.length) = true := by simp; omega
    clear hgt
    go_wp2
    go_ret
    exact ⟨rfl, HA.out.below⟩
  have hgd : decide (500 < (xs.length : Int) + ys.length) = false := by simp; omega
  have hsum : xs.length + ys.length ≤ 500 := by omega
  clear hgt
  go_upto_region 5 with fail
  obtain ⟨v1, w3, hr, ho, hg⟩ := append_new (c := c0) (HA.out.reads H0.out).1 (by omega)
  obtain ⟨X, cx, rfl, hcx⟩ := own_slice ho
  have hA3 := HA.out.with (KeepS.of_grows hg) (keep_grows HA.out.keep hg)
  have HRX := Aside0.mk (ReadsR.of (R := fun k => k < w.heap.size ∨ (w2.heap.size ≤ k ∧ k < w3.heap.size)) (own_reads' ho) fun k hk ad e1 e2 => .inr ⟨by subst e1; subst e2; exact own_base ho _ rfl, hk⟩)
  have HC := Aside0.mk (atR_open (c := cx) hA3 (by decide) (fun x hx => (by cases hx)) (by decide) (by decide) (by decide) HRX.out (by omega))
  have HI := Aside0.mk (fun (w4 : World) (hA : AtR (fun k => k < w.heap.size ∨ (w2.heap.size ≤ k ∧ k < w3.heap.size)) w w4 t 3 (1 + 1) ([] ++ [(1, insAll [] xs)])) (hK : KeepS (fun k => ¬ (k < w.heap.size ∨ (w2.heap.size ≤ k ∧ k < w3.heap.size))) w3 w4) =>
    (⟨hA, ⟨xs, rfl, own_keep ho fun k hk hBk cs hcs => (hK.block k (lt_heap hcs) fun h => h (.inr ⟨hBk, lt_heap hcs⟩)).trans hcs⟩, fun ad e => .inr ⟨by subst e; exact own_base ho _ rfl, by subst e; exact own_lt ho _ rfl⟩, HA.out.keep.size⟩ : OfCopy _ w w4 t w2.heap.size X cx xs.length [(1, insAll [] xs)]))
  have HX := Aside0.mk (AtR.reads (h := HA.out) H1.out)
  clear HA hA3 ho hg hcx HRX
  go_upto_region 7 with (first | (at_builtin; refine wpList_appendE (.tmp 33) (.tmp 34) 29 rfl rfl rfl rfl ⟨_, _, hr, ?_⟩) | (go_at_call 17; refine HC.out.mono ?_; clear HC; rintro e w4 ⟨rfl, hA, hK⟩; have HS := Aside0.mk (HI.out _ hA hK); clear hA hK HI))
  clear hr HX
  generalize hBe : w2.heap.size = B at HS ⊢
  have hRe : ∃ R, R = (fun k => k < w.heap.size ∨ (B ≤ k ∧ k < w3.heap.size)) := ⟨_, rfl⟩
  obtain ⟨R, hRe⟩ := hRe
  rw [← hRe] at HS
  clear hBe hRe
  go_wp2
  go_loopg [10] xs.length (fun f v10 wr => ∃ i : Nat, Aside0 (f + i = xs.length) ∧ i ≤ xs.length ∧ v10 = .int .i64 i ∧ Aside0 (OfCopy R w wr t B X cx xs.length [(1, insAll [] xs)]))
  case atStart => exact ⟨0, ⟨by omega⟩, by omega, rfl, HS⟩
  case round =>
    clear HS
    obtain ⟨i, HF, hi, rfl, HS⟩ := hrel
    by_cases hlt : i < xs.length
    · obtain ⟨hT, ⟨zs, hz, ho⟩, hmine, hbase⟩ := HS.out
      have hiz : i < zs.length := by omega
      obtain ⟨b, c, ev, _, hcell⟩ := own_cell ho hiz
      injection ev with ev _ ev3
      subst ev ev3
      obtain ⟨cs, hcs⟩ := own_typed ho b rfl
      have hfr : wr.frozen? ⟨b, i, none⟩ = false := frozen_of_row wr b i cs 3 hcs
      have hRb : R b := hmine _ rfl
      have hbb : w.heap.size ≤ b := Nat.le_trans hbase (own_base ho _ rfl)
      have hOC : OfCopy R w (wr.setCell ⟨b, i, none⟩ (.int .i64 (-7))) t B (some ⟨b, 0, none⟩) cx xs.length [(1, insAll [] xs)] :=
        ⟨hT.other (KeepS.of_grown (grown_set wr b i _) fun k e => by injection e with e; subst e; exact hRb) (hT.keep.trans (KeepS.of_grown (grown_set wr b i _) fun k e => by injection e with e; subst e; exact hbb)), ⟨zs.set i (-7), by rw [List.length_set]; exact hz, own_set ho i (-7)⟩, hmine, hbase⟩
      have HOC := Aside0.mk hOC
      generalize zs[i] = z at hcell
      clear HS hT ho hmine hbase hcs hRb hbb hOC hiz hz
      go_wp2
      go_roundg (xs.length - (i + 1))
      case measure => have := HF.out; omega
      case rel => exact ⟨i + 1, ⟨by omega⟩, by omega, by go_num, HOC⟩
    · obtain rfl : i = xs.length := by omega
      obtain ⟨w5, hw5⟩ : ∃ w5, w5 = wr := ⟨_, rfl⟩
      subst hw5
      have HT := Aside0.mk HS.out.tab
      clear HS HF hi hlt
      go_wp2
      go_loopg [11] ys.length (fun f v11 wr => ∃ i : Nat, Aside0 (f + i = ys.length) ∧ i ≤ ys.length ∧ v11 = .int .i64 i ∧ Aside0 (AtR R w wr t 3 2 [(1, insAll (insAll [] xs) (ys.take i))]))
      case atStart => exact ⟨0, ⟨by omega⟩, by omega, rfl, HT⟩
      case round =>
        clear HT
        obtain ⟨i, HF, hi, rfl, HS⟩ := hrel
        by_cases hlt : i < ys.length
        · obtain ⟨ad, rfl, hcell⟩ := (HS.out.reads H1.out).1.2.2 (by omega)
          replace hcell := hcell i hlt
          rw [getD_lt hlt] at hcell
          have hts := List.take_succ_eq_append_getElem hlt
          generalize ys[i] = y at hcell hts
          have HTS := Aside0.mk hts
          have hle := insAll_len (ys.take i) (insAll [] xs)
          have hle2 := insAll_len xs []
          have hle3 := List.length_take_le i ys
          have HC := Aside0.mk (atR_pin HS.out (fun x hx => (by
            obtain rfl := List.mem_singleton.1 hx
            simp only [List.length_nil] at hle2
            show (insAll (insAll [] xs) (ys.take i)).length ≤ 99999
            omega)) (by simp) 1 y)
          rw [pinL_one, getL_one] at HC
          clear HS hts hle hle2 hle3
          go_wp2_with (go_at_call 13; refine HC.out.mono ?_; clear HC; rintro e w6 ⟨rfl, hA, hK⟩; have HA := Aside0.mk hA; clear hA hK)
          go_roundg (ys.length - (i + 1))
          case measure => have := HF.out; omega
          case rel => exact ⟨i + 1, ⟨by omega⟩, by omega, by go_num, ⟨by rw [HTS.out, insAll_app]; exact HA.out⟩⟩
        · obtain rfl : i = ys.length := by omega
          obtain ⟨w6, hw6⟩ : ∃ w6, w6 = wr := ⟨_, rfl⟩
          subst hw6
          have HT := HS
          rw [List.take_of_length_le (Nat.le_refl _)] at HT
          clear HS HF hi hlt
          have hle := insAll_len ys (insAll [] xs)
          have hle2 := insAll_len xs []
          simp only [List.length_nil, Nat.zero_add] at hle2
          have hL : ∃ L, L = insAll (insAll [] xs) ys := ⟨_, rfl⟩
          obtain ⟨L, hL⟩ := hL
          rw [← hL] at HT hle
          have hLl : L.length ≤ 500 := by omega
          have HM := Aside0.mk (fun x => (by rw [hL, mem_insAll, mem_insAll]; simp [or_comm] : x ∈ L ↔ (x ∈ xs ∨ x ∈ ys)))
          have HRi := Aside0.mk (show Rises L by rw [hL]; exact insAll_rise ys (insAll_rise xs List.Pairwise.nil))
          clear hL hle hle2
          have HC := Aside0.mk (atR_of HT.out 1 (fun x hx => (by obtain rfl := List.mem_singleton.1 hx; show L.length ≤ 1000000; omega)) (l := L) rfl)
          clear HT
          go_wp2_with (go_at_call 24; refine HC.out.mono ?_; clear HC; rintro e w7 ⟨A, c, rfl, hc, hr, ho, hg, hA⟩; have HT := Aside0.mk (OfState.mk ⟨_, hA⟩ hr hc : OfState w w7 t L A c); clear hc hr ho hg hA)
          go_loopg [13] L.length (fun f v13 wr => ∃ i : Nat, Aside0 (f + i = L.length) ∧ i ≤ L.length ∧ v13 = .int .i64 i ∧ Aside0 (OfState w wr t L A c))
          case atStart => exact ⟨0, ⟨by omega⟩, by omega, rfl, HT⟩
          case round =>
            clear HT
            obtain ⟨i, HF, hi, rfl, HS⟩ := hrel
            by_cases hlt : i < L.length
            · obtain ⟨R2, hA2⟩ := HS.out.tab
              obtain ⟨ad, rfl, hcell⟩ := HS.out.row.2.2 (by omega)
              have hci := hcell i hlt
              rw [getD_lt hlt] at hci
              have hmem := (HM.out L[i]).1 (List.getElem_mem _)
              have hcnt : decide (0 < cnt [(1, L)] L[i]) = true := by
                have : L.contains L[i] = true := by rw [List.contains_iff_mem]; exact List.getElem_mem _
                simp [cnt, this]
              have HY := Aside0.mk (fun (x : Int) q => has_calls (W := wr.drewN q) (c := c1) ((hA2.drewN q).reads H1.out).1 x (by omega))
              have HX := Aside0.mk (fun (x : Int) q => has_calls (W := wr.drewN q) (c := c0) ((hA2.drewN q).reads H0.out).1 x (by omega))
              have HP := Aside0.mk (fun q => (pinned_tb (hA2.drewN q).tb L[i] : Calls Try.prog 26 #[.pointer (some ⟨t, 0, none⟩), .int .i64 L[i]] (wr.drewN q) _))
              rw [hcnt] at HP
              clear hcnt hA2
              have hbefore : 0 < i → ∃ z, wr.cell? (ad.add (i - 1)) = some (.int .i64 z) ∧ decide (L[i] ≤ z) = false := fun hk => by
                obtain ⟨k, rfl⟩ : ∃ k, i = k + 1 := ⟨i - 1, by omega⟩
                refine ⟨L[k], ?_, ?_⟩
                · have := hcell k (by omega)
                  rwa [getD_lt (by omega)] at this
                · have := rises_at HRi.out hlt
                  simpa using this
              clear hcell
              generalize L[i] = y at hci hmem HP hbefore
              cases hb1 : xs.contains y with
              | true =>
                have HX1 := Aside0.mk (HX.out y)
                rw [hb1] at HX1
                clear hmem hb1 HX
                by_cases h0 : i = 0
                · have hg0 : decide (0 < (i : Int)) = false := by simp [h0]
                  have hg1 : decide (0 < i) = false := by simp [h0]
                  clear hbefore h0
                  go_upto_region 19 with fail
                  go_quiet (first | (go_at_call 28; refine Calls.quiet_of_same (HX1.out _)) | (go_at_call 26; refine Calls.quiet_of_same (HP.out _)))
                  go_wp2
                  go_roundg (L.length - (i + 1))
                  case measure => have := HF.out; omega
                  case rel => exact ⟨i + 1, ⟨by omega⟩, by omega, by go_num, ⟨HS.out.drewN _⟩⟩
                · have hg0 : decide (0 < (i : Int)) = true := by simp; omega
                  have hg1 : decide (0 < i) = true := by simp; omega
                  obtain ⟨z, hz, hzy⟩ := hbefore (by omega)
                  have hwk : IntKind.i64.wrap ((i : Int) - 1) = i - 1 := IntWalk.i64_in _ ⟨by omega, by omega⟩
                  have hwk2 : (0 : Int) ≤ (i : Int) - 1 := by omega
                  clear hbefore h0
                  go_upto_region 19 with fail
                  go_quiet (first | (go_at_call 28; refine Calls.quiet_of_same (HX1.out _)) | (go_at_call 26; refine Calls.quiet_of_same (HP.out _)))
                  go_wp2
                  go_roundg (L.length - (i + 1))
                  case measure => have := HF.out; omega
                  case rel => exact ⟨i + 1, ⟨by omega⟩, by omega, by go_num, ⟨HS.out.drewN _⟩⟩
              | false =>
                have hyb : ys.contains y = true := by
                  rw [List.contains_iff_mem]
                  refine hmem.resolve_left fun h => ?_
                  rw [← List.contains_iff_mem, hb1] at h
                  cases h
                have HX1 := Aside0.mk (HX.out y)
                have HY1 := Aside0.mk (HY.out y)
                rw [hb1] at HX1
                rw [hyb] at HY1
                clear hmem hb1 hyb HX HY
                by_cases h0 : i = 0
                · have hg0 : decide (0 < (i : Int)) = false := by simp [h0]
                  have hg1 : decide (0 < i) = false := by simp [h0]
                  clear hbefore h0
                  go_upto_region 19 with fail
                  go_quiet (first | (go_at_call 28; (first | (with_reducible refine Calls.quiet_of_same (HX1.out _)) | (with_reducible refine Calls.quiet_of_same (HY1.out _)))) | (go_at_call 26; refine Calls.quiet_of_same (HP.out _)))
                  go_wp2
                  go_roundg (L.length - (i + 1))
                  case measure => have := HF.out; omega
                  case rel => exact ⟨i + 1, ⟨by omega⟩, by omega, by go_num, ⟨HS.out.drewN _⟩⟩
                · have hg0 : decide (0 < (i : Int)) = true := by simp; omega
                  have hg1 : decide (0 < i) = true := by simp; omega
                  obtain ⟨z, hz, hzy⟩ := hbefore (by omega)
                  have hwk : IntKind.i64.wrap ((i : Int) - 1) = i - 1 := IntWalk.i64_in _ ⟨by omega, by omega⟩
                  have hwk2 : (0 : Int) ≤ (i : Int) - 1 := by omega
                  clear hbefore h0
                  go_upto_region 19 with fail
                  go_quiet (first | (go_at_call 28; (first | (with_reducible refine Calls.quiet_of_same (HX1.out _)) | (with_reducible refine Calls.quiet_of_same (HY1.out _)))) | (go_at_call 26; refine Calls.quiet_of_same (HP.out _)))
                  go_wp2
                  go_roundg (L.length - (i + 1))
                  case measure => have := HF.out; omega
                  case rel => exact ⟨i + 1, ⟨by omega⟩, by omega, by go_num, ⟨HS.out.drewN _⟩⟩
            · obtain rfl : i = L.length := by omega
              obtain ⟨w8, hw8⟩ : ∃ w8, w8 = wr := ⟨_, rfl⟩
              subst hw8
              have HT := HS
              clear HS HF hi hlt
              go_wp2
              go_loopg [14] xs.length (fun f v14 wr => ∃ i : Nat, Aside0 (f + i = xs.length) ∧ i ≤ xs.length ∧ v14 = .int .i64 i ∧ Aside0 (OfState w wr t L A c))
              case atStart => exact ⟨0, ⟨by omega⟩, by omega, rfl, HT⟩
              case round =>
                clear HT
                obtain ⟨i, HF, hi, rfl, HS⟩ := hrel
                by_cases hlt : i < xs.length
                · obtain ⟨R2, hA2⟩ := HS.out.tab
                  obtain ⟨ad, rfl, hcell⟩ := (hA2.reads H0.out).1.2.2 (by omega)
                  replace hcell := hcell i hlt
                  rw [getD_lt hlt] at hcell
                  have hin : L.contains xs[i] = true := by rw [List.contains_iff_mem]; exact (HM.out _).2 (.inl (List.getElem_mem _))
                  generalize xs[i] = y at hcell hin
                  have HC := Aside0.mk (has_calls (c := c) HS.out.row y (by omega))
                  rw [hin] at HC
                  clear hA2 hin
                  go_wp2_with (go_at_call 28; refine HC.out.mono ?_; clear HC; rintro e w9 ⟨rfl, rfl⟩)
                  go_roundg (xs.length - (i + 1))
                  case measure => have := HF.out; omega
                  case rel => exact ⟨i + 1, ⟨by omega⟩, by omega, by go_num, HS⟩
                · obtain rfl : i = xs.length := by omega
                  obtain ⟨w9, hw9⟩ : ∃ w9, w9 = wr := ⟨_, rfl⟩
                  subst hw9
                  have HT := HS
                  clear HS HF hi hlt
                  go_wp2
                  go_loopg [15] ys.length (fun f v15 wr => ∃ i : Nat, Aside0 (f + i = ys.length) ∧ i ≤ ys.length ∧ v15 = .int .i64 i ∧ Aside0 (OfState w wr t L A c))
                  case atStart => exact ⟨0, ⟨by omega⟩, by omega, rfl, HT⟩
                  case round =>
                    clear HT
                    obtain ⟨i, HF, hi, rfl, HS⟩ := hrel
                    by_cases hlt : i < ys.length
                    · obtain ⟨R2, hA2⟩ := HS.out.tab
                      obtain ⟨ad, rfl, hcell⟩ := (hA2.reads H1.out).1.2.2 (by omega)
                      replace hcell := hcell i hlt
                      rw [getD_lt hlt] at hcell
                      have hin : L.contains ys[i] = true := by rw [List.contains_iff_mem]; exact (HM.out _).2 (.inr (List.getElem_mem _))
                      generalize ys[i] = y at hcell hin
                      have HC := Aside0.mk (has_calls (c := c) HS.out.row y (by omega))
                      rw [hin] at HC
                      clear hA2 hin
                      go_wp2_with (go_at_call 28; refine HC.out.mono ?_; clear HC; rintro e w9 ⟨rfl, rfl⟩)
                      go_roundg (ys.length - (i + 1))
                      case measure => have := HF.out; omega
                      case rel => exact ⟨i + 1, ⟨by omega⟩, by omega, by go_num, HS⟩
                    · go_wp2
                      go_ret
                      exact ⟨rfl, HS.out.below⟩
end Go.Proofs.Ytdfjacpfmjgfiaa

/-
  The law PinClosed: when all handles are closed, in whichever order, nothing is pinned.
-/
namespace Go.Proofs.Ytdfjacpfmjgfiaa
set_option linter.unusedVariables false
set_option linter.unusedSimpArgs false
open Go.Shelf Go.RowKit Go.Proofs.YtdfjacpfmjgfiaaW.PrintWords Go.Proofs.YtdfjacpfmjgfiaaW.PrintMore PPinPlays
attribute [local go_sem] max2_int
theorem reads_of_C {w : World} {A : Option Addr} {n : Nat} {xs : List Int} (h : Kd.C (Kd.int .i64) w A n xs) : ReadsInt w .i64 A n xs := by
  obtain ⟨h1, h2, h3⟩ := h
  refine ⟨h1, h2, fun hn => ?_⟩
  obtain ⟨ad, e, hc⟩ := h3 hn
  refine ⟨ad, e, fun j hj => ?_⟩
  obtain ⟨cs, _, hk, hcc⟩ := hc j _ (List.getElem?_eq_getElem (by omega))
  have hcs : cs = [.int .i64 xs[j]] := hk
  rw [hcs] at hcc
  have := hcc 0 _ rfl
  rw [show j * (Kd.int .i64).sz + 0 = j by show j * 1 + 0 = j; omega] at this
  rw [this]
  simp [List.getD_eq_getElem?_getD, List.getElem?_eq_getElem (show j < xs.length by omega)]
/-- A row of whole numbers that is the law's own. -/
structure Mine (R : Nat → Prop) (w W : World) (v : Value) (xs : List Int) : Prop where
  own : W.ownsRow w.heap.size 3 1 v xs.length (nums .i64 xs)
  mine : ∀ k, v.ownBlock = some k → R k
theorem Mine.keep {R : Nat → Prop} {w W W' : World} {v : Value} {xs : List Int} (h : Mine R w W v xs) (hk : KeepS (fun k => ¬ R k) W W') : Mine R w W' v xs :=
  ⟨own_move h.own fun k e => hk.block k (own_lt h.own k e) fun hn => hn (h.mine k e), h.mine⟩
theorem Mine.grows {R : Nat → Prop} {w W W' : World} {v : Value} {xs : List Int} (h : Mine R w W v xs) (hk : Grows W W') : Mine R w W' v xs :=
  ⟨own_grows h.own hk, h.mine⟩
theorem Mine.nil (R : Nat → Prop) (w W : World) : Mine R w W (.slice none 0 0) [] := ⟨World.ownsRow_nil _ _ _ _, fun k h => by cases h⟩
theorem Mine.more {R R' : Nat → Prop} {w W : World} {v : Value} {xs : List Int} (h : Mine R w W v xs) (hR : ∀ k, R k → R' k) : Mine R' w W v xs := ⟨h.own, fun k e => hR k (h.mine k e)⟩
/-- append(mine, x). -/
theorem append_mine {R : Nat → Prop} {w W : World} {t : Nat} {most next : Int} {hl : HL} {v : Value} {xs : List Int} (h : AtR R w W t most next hl) (hm : Mine R w W v xs) (x : Int) (hxl : xs.length ≤ 1000000) :
    ∃ v1 w1, (Builtin.append_ #[29, 29] 29 #[v, .slice (some ⟨W.heap.size, 0, none⟩) 1 1]).run Try.prog (W.alloc (.cells #[.int .i64 x] 3)) = .ok v1 w1 ∧ ∃ R', AtR R' w w1 t most next hl ∧ Mine R' w w1 v1 (xs ++ [x]) := by
  have g0 : Grows W (W.alloc (.cells #[.int .i64 x] 3)) := (Below.refl W.heap.size W).alloc (Nat.le_refl _) (.cells #[.int .i64 x] 3)
  obtain ⟨v1, w1, hr, ho1, hg1, hloc⟩ := ints_run (t := 29) (u := 29) (ty := 29) Try.underlying29 Try.underlying29 w.heap.size v xs [x] (some ⟨W.heap.size, 0, none⟩) 1 1 (own_grows hm.own g0) (lits_reads (by simp) (heap_alloc_new W _)) (Nat.le_trans h.keep.size g0.size) (by omega)
  have hK : KeepS R W w1 := KeepS.trans (KeepS.of_grows g0) (KeepS.of_grown hg1 fun k e => hm.mine k e)
  have hB : KeepS (fun k => w.heap.size ≤ k) w w1 := (h.keep.trans (KeepS.of_grows g0)).trans (KeepS.of_grown hg1 fun k e => own_base hm.own k e)
  refine ⟨v1, w1, hr, _, h.with hK hB, ho1, fun k e => ?_⟩
  rcases hloc with hl | hl
  · exact .inl (hm.mine k (hl.symm.trans e))
  · have e2 : some (W.alloc (.cells #[.int .i64 x] 3)).heap.size = some k := hl.symm.trans e
    injection e2 with e2
    exact .inr ⟨by have := g0.size; omega, own_lt ho1 k e⟩
/-! ### In plain Lean -/
def hdsUpto (rows : List (List Int)) (i : Nat) : HL := (List.range i).map fun (j : Nat) => ((j : Int) + 1, insAll [] (rows.getD j []))
def numsUpto (i : Nat) : List Int := (List.range i).map fun (j : Nat) => (j : Int) + 1
theorem hdsUpto_succ (rows : List (List Int)) (i : Nat) : hdsUpto rows (i + 1) = hdsUpto rows i ++ [((i : Int) + 1, insAll [] (rows.getD i []))] := by simp [hdsUpto, List.range_succ]
theorem numsUpto_succ (i : Nat) : numsUpto (i + 1) = numsUpto i ++ [(i : Int) + 1] := by simp [numsUpto, List.range_succ]
theorem numsUpto_len (i : Nat) : (numsUpto i).length = i := by simp [numsUpto]
theorem numsUpto_at {i n : Nat} (h : i < n) : (numsUpto n).getD i 0 = (i : Int) + 1 := by simp [numsUpto, List.getD_eq_getElem?_getD, List.getElem?_range h]
theorem hdsUpto_len (rows : List (List Int)) (i : Nat) : (hdsUpto rows i).length = i := by simp [hdsUpto]
theorem hds_bound {rows : List (List Int)} {i : Nat} (h : ∀ j, j < i → (rows.getD j []).length ≤ 60) : ∀ x ∈ hdsUpto rows i, x.2.length ≤ 60 := fun x hx => by
  obtain ⟨j, hj, rfl⟩ := List.mem_map.1 hx
  have h1 := insAll_len (rows.getD j []) []
  have h2 := h j (List.mem_range.1 hj)
  show (insAll [] (rows.getD j [])).length ≤ 60
  rw [List.length_nil] at h1
  omega
/-- What is left when so many are closed, from some one on. -/
def clo (h0 : HL) (n tn : Nat) : Nat → HL
  | 0 => h0
  | i + 1 => delL (clo h0 n tn i) ((((i + tn) % n : Nat) : Int) + 1)
theorem del_len {hl : HL} {k : Int} (hk : Keyed' hl) (h : (getL hl k).isSome = true) : (delL hl k).length + 1 = hl.length := by
  obtain ⟨l, hl2⟩ := Option.isSome_iff_exists.1 h
  obtain ⟨A, B, rfl, h1, h2⟩ := split_key hk (getL_mem hl2)
  rw [delL_split h1 h2]; simp; omega
theorem del_keys' (hl : HL) (k m : Int) : m ∈ (delL hl k).map (·.1) ↔ m ∈ hl.map (·.1) ∧ m ≠ k := by
  unfold delL
  simp only [List.mem_map, List.mem_filter]
  constructor
  · rintro ⟨x, ⟨h1, h2⟩, rfl⟩
    exact ⟨⟨x, h1, rfl⟩, by simpa using h2⟩
  · rintro ⟨⟨x, h1, rfl⟩, h2⟩
    exact ⟨x, ⟨h1, by simpa using h2⟩, rfl⟩
theorem getL_some {hl : HL} {k : Int} : (getL hl k).isSome = true ↔ k ∈ hl.map (·.1) := by
  constructor
  · intro h
    obtain ⟨l, hl2⟩ := Option.isSome_iff_exists.1 h
    exact List.mem_map.2 ⟨_, getL_mem hl2, rfl⟩
  · intro h
    cases hg : getL hl k with
    | some l => rfl
    | none =>
      obtain ⟨x, hx, e⟩ := List.mem_map.1 h
      exact absurd e (getL_none.1 hg x hx)
theorem rot_inj {i j tn n : Nat} (hi : i < n) (hj : j < i) : (j + tn) % n ≠ (i + tn) % n := by
  intro h
  have h1 := Nat.div_add_mod (i + tn) n
  have h2 := Nat.div_add_mod (j + tn) n
  rw [h] at h2
  rcases Nat.lt_or_ge ((j + tn) / n) ((i + tn) / n) with hq | hq
  · have := Nat.mul_le_mul_left n (Nat.succ_le_of_lt hq)
    rw [Nat.mul_succ] at this
    omega
  · have := Nat.mul_le_mul_left n hq
    omega
theorem hds_keys (rows : List (List Int)) (n : Nat) : Keyed' (hdsUpto rows n) ∧ ∀ j, j < n → (j : Int) + 1 ∈ (hdsUpto rows n).map (·.1) := by
  have e : (hdsUpto rows n).map (·.1) = (List.range n).map fun (j : Nat) => (j : Int) + 1 := by unfold hdsUpto; rw [List.map_map]; rfl
  unfold Keyed'
  rw [e]
  refine ⟨?_, fun j hj => List.mem_map.2 ⟨j, List.mem_range.2 hj, rfl⟩⟩
  rw [List.nodup_iff_pairwise_ne, List.pairwise_map]
  exact List.Pairwise.imp (fun h e => by omega) (List.nodup_range (n := n))
theorem clo_ok (rows : List (List Int)) (n tn : Nat) : ∀ i, i ≤ n → Keyed' (clo (hdsUpto rows n) n tn i) ∧ (clo (hdsUpto rows n) n tn i).length + i = n ∧ (∀ j, i ≤ j → j < n → (((j + tn) % n : Nat) : Int) + 1 ∈ (clo (hdsUpto rows n) n tn i).map (·.1)) ∧ (∀ x ∈ clo (hdsUpto rows n) n tn i, x ∈ hdsUpto rows n)
  | 0, _ => ⟨(hds_keys rows n).1, by rw [clo, hdsUpto_len]; omega, fun j _ hj => (hds_keys rows n).2 _ (Nat.mod_lt _ (by omega)), fun x h => h⟩
  | i + 1, h => by
    obtain ⟨h1, h2, h3, h4⟩ := clo_ok rows n tn i (by omega)
    have hs := getL_some.2 (h3 i (Nat.le_refl _) (by omega))
    refine ⟨?_, ?_, fun j hj hjn => ?_, fun x hx => h4 x (List.mem_filter.1 hx).1⟩
    · exact List.Nodup.sublist (List.Sublist.map _ List.filter_sublist) h1
    · have := del_len h1 hs
      rw [clo]; omega
    · rw [clo, del_keys']
      refine ⟨h3 j (by omega) hjn, fun e => ?_⟩
      have : (j + tn) % n ≠ (i + tn) % n := fun e2 => rot_inj hjn (show i < j by omega) e2.symm
      omega
/-- The state of PinClosed's first loop. -/
structure ClSt (w W : World) (t : Nat) (v : Value) (next : Int) (hl : HL) (xs : List Int) : Prop where
  out : ∃ R, AtR R w W t 1024 next hl ∧ Mine R w W v xs
theorem rows_at {w W : World} {A : Option Addr} {n : Nat} {rows : List (List Int)} (h : Kd.C (Kd.slice 3 (Kd.int .i64)) w A n rows) (hb : Below w.heap.size w W) {i : Nat} (hi : i < n) :
    ∃ ad A0 c0, A = some ad ∧ W.cell? (ad.add i) = some (.slice A0 (rows.getD i []).length c0) ∧ (rows.getD i []).length ≤ c0 ∧ ReadsInt w .i64 A0 (rows.getD i []).length (rows.getD i []) := by
  obtain ⟨ad, A0, c0, e, _, hl, hr⟩ := at_L1 h (i : Int) (by omega) (by omega)
  obtain ⟨ad', A0', c0', e', hc, hl', hr'⟩ := at_L1 (Kd.C_below h hb) (i : Int) (by omega) (by omega)
  obtain ⟨ad2, A2, c2, e2, hc2, hl2, hr2⟩ := at_L1 h (i : Int) (by omega) (by omega)
  rw [e] at e'
  injection e' with e'
  subst e'
  have e3 : ad2 = ad := by rw [e] at e2; injection e2 with e2; exact e2.symm
  subst e3
  have hrd : rd_L1 rows (i : Int) = rows.getD i [] := by unfold rd_L1; simp
  rw [Int.toNat_natCast] at hc hc2
  have hblk := World.block_lt_of_cell? w (ad2.add i) hc2
  have := World.cell?_of_block (w := w) (hb.block (ad2.add i).block hblk)
  rw [this, hc2] at hc
  injection hc with hc
  injection hc with q1 q2 q3
  subst q1
  subst q3
  rw [hrd] at hc2 hl2 hr2
  exact ⟨ad2, A2, c2, e, this.trans hc2, hl2, reads_of_C hr2⟩
set_option maxRecDepth 100000 in
set_option maxHeartbeats 4000000 in
theorem closed_calls (w : World) {A0 : Option Addr} {n0 c0 : Nat} {rows : List (List Int)} (tn : Nat) (h0 : Kd.C (Kd.slice 3 (Kd.int .i64)) w A0 n0 rows) (htn : tn < 256) (hb0 : n0 ≤ 140737488351232) (hrl : ∀ x ∈ rows, x.length ≤ 140737488351232) :
    Calls Try.prog 7 #[.slice A0 n0 c0, .int .u8 tn] w fun e w' => e = .returned (.bool true) ∧ Below w.heap.size w w' := by
  have hn0 := h0.1
  have H0 := Aside0.mk h0
  have HN := Aside0.mk hn0
  have HRL := Aside0.mk (fun i => (by
    by_cases h : i < rows.length
    · rw [List.getD_eq_getElem?_getD, List.getElem?_eq_getElem h]; exact hrl _ (List.getElem_mem _)
    · rw [List.getD_eq_getElem?_getD, List.getElem?_eq_none (by omega)]; exact Nat.zero_le _ : (rows.getD i []).length ≤ 140737488351232))
  clear h0 hn0 hrl
  go_enter Try.func7, Try.ntmps7
  go_upto_region 2 with (go_at_call 9; refine (head_calls _).mono ?_; rintro e w1 ⟨rfl, hb⟩; have HB := Aside0.mk hb; clear hb)
  go_upto_region 3 with (go_at_call 10; refine (atR_new w _ HB.out 1024 (by decide)).mono ?_; rintro e w2 ⟨t, rfl, hA⟩; have HA := Aside0.mk hA; clear hA)
  clear HB
  by_cases hgt : (n0 : Int) > 60
  · have hgd : decide (60 < (n0 : Int)) = true := by simp; omega
    clear hgt
    go_wp2
    go_ret
    exact ⟨rfl, HA.out.below⟩
  have hgd : decide (60 < (n0 : Int)) = false := by simp; omega
  have hn60 : n0 ≤ 60 := by omega
  clear hgt
  go_wp2
  go_loopg [7, 8] n0 (fun f v7 v8 wr => ∃ i : Nat, Aside0 (f + i = n0) ∧ i ≤ n0 ∧ v8 = .int .i64 i ∧ Aside0 (ClSt w wr t v7 ((i : Int) + 1) (hdsUpto rows i) (numsUpto i)) ∧ Aside0 (∀ j, j < i → (rows.getD j []).length ≤ 60))
  case atStart => exact ⟨0, ⟨by omega⟩, by omega, rfl, ⟨_, HA.out, Mine.nil _ _ _⟩, ⟨fun j hj => by omega⟩⟩
  case round =>
    clear HA
    obtain ⟨i, HF, hi, rfl, HS, HL⟩ := hrel
    obtain ⟨R, hA, hM⟩ := HS.out.out
    obtain ⟨Av, cv, ev, hcv⟩ := own_slice hM.own
    rw [numsUpto_len] at ev hcv
    subst ev
    by_cases hlt : i < n0
    · obtain ⟨ad, A1, c1, rfl, hcell, hcc, hrr⟩ := rows_at H0.out hA.below hlt
      have hrl := HRL.out i
      obtain ⟨ys, hys⟩ : ∃ ys, ys = rows.getD i [] := ⟨_, rfl⟩
      rw [← hys] at hcell hcc hrr hrl
      have HYS := Aside0.mk hys
      clear hys
      by_cases hbig : (ys.length : Int) > 60
      · have hgy : decide (60 < (ys.length : Int)) = true := by simp; omega
        have hgy2 : decide (60 < ys.length) = true := by simp; omega
        have HE := Aside0.mk hA.below
        clear hbig HS hA hM hrr hcc
        go_wp2
        go_ret
        exact ⟨rfl, HE.out⟩
      · have hgy : decide (60 < (ys.length : Int)) = false := by simp; omega
        have hgy2 : decide (60 < ys.length) = false := by simp; omega
        have hy60 : ys.length ≤ 60 := by omega
        have HC := Aside0.mk (atR_open (c := c1) hA (by rw [hdsUpto_len]; omega) (fun x hx => Nat.le_trans (hds_bound HL.out x hx) (by decide)) (by rw [hdsUpto_len]; omega) (by omega) (by omega) (hA.reads hrr).2 (by omega))
        have HM := Aside0.mk hM
        have HLi := HL
        clear HS hA hM hrr hcc hbig HL
        go_upto_region 12 with (go_at_call 17; refine HC.out.mono ?_; clear HC; rintro e w3 ⟨rfl, hA, hK⟩; have HA := Aside0.mk hA; have HK := Aside0.mk hK; clear hA hK)
        obtain ⟨v1, w4, hr, R', hA4, hM4⟩ := append_mine HA.out (HM.out.keep HK.out) ((i : Int) + 1) (by rw [numsUpto_len]; omega)
        have HA4 := Aside0.mk hA4
        have HM4 := Aside0.mk hM4
        clear HA HK hA4 hM4 HM
        go_wp2_with (at_builtin; refine wpList_appendE (.tmp 50) (.tmp 52) 29 rfl rfl rfl rfl ⟨_, _, hr, ?_⟩; clear hr)
        go_roundg (n0 - (i + 1))
        case measure => have := HF.out; omega
        case rel =>
          refine ⟨i + 1, ⟨by omega⟩, by omega, by go_num, ⟨R', ?_, ?_⟩, ⟨fun j hj => ?_⟩⟩
          · rw [hdsUpto_succ, ← HYS.out]; exact HA4.out
          · rw [numsUpto_succ]; exact HM4.out
          · by_cases hji : j = i
            · rw [hji, ← HYS.out]; exact hy60
            · exact HLi.out j (by omega)
    · obtain rfl : i = n0 := by omega
      obtain ⟨w5, hw5⟩ : ∃ w5, w5 = wr := ⟨_, rfl⟩
      subst hw5
      have HM := Aside0.mk hM
      have HT := Aside0.mk (show AtR R w w5 t 1024 ((i : Int) + 1) (clo (hdsUpto rows i) i tn 0) from hA)
      clear HS HF hi hlt hA hM
      go_wp2
      go_loopg [11] i (fun f v11 wr => ∃ k : Nat, Aside0 (f + k = i) ∧ k ≤ i ∧ v11 = .int .i64 k ∧ Aside0 (AtR R w wr t 1024 ((i : Int) + 1) (clo (hdsUpto rows i) i tn k) ∧ Mine R w wr (.slice Av i cv) (numsUpto i)))
      case atStart => exact ⟨0, ⟨by omega⟩, by omega, rfl, ⟨HT.out, HM.out⟩⟩
      case round =>
        clear HT HM
        obtain ⟨k, HF, hk, rfl, HS⟩ := hrel
        by_cases hlt : k < i
        · obtain ⟨q, hq⟩ : ∃ q, q = (k + tn) % i := ⟨_, rfl⟩
          have hqi : q < i := by rw [hq]; exact Nat.mod_lt _ (by omega)
          obtain ⟨b, c, ev, _, hcell⟩ := own_cell HS.out.2.own (i := q) (by rw [numsUpto_len]; exact hqi)
          rw [numsUpto_len] at ev
          injection ev with ev _ ev3
          subst ev ev3
          have hqv : (numsUpto i)[q]'(by rw [numsUpto_len]; exact hqi) = (q : Int) + 1 := by simp [numsUpto]
          rw [hqv] at hcell
          have hu : IntKind.i64.wrap (tn : Int) = tn := IntWalk.i64_in _ ⟨by omega, by omega⟩
          have hm : ((k : Int) + (tn : Int)) % (i : Int) = (q : Int) := by rw [hq, Int.natCast_emod, Int.natCast_add]
          have hiz : ¬ ((i : Int) = 0) := by omega
          have hiz2 : ¬ (i = 0) := by omega
          obtain ⟨c1, c2, c3, c4⟩ := clo_ok rows i tn k (by omega)
          have hs := getL_some.2 (c3 k (Nat.le_refl _) hlt)
          rw [← hq] at hs
          have HC := Aside0.mk (atR_close HS.out.1 (fun x hx => Nat.le_trans (hds_bound HL.out x (c4 x hx)) (by decide)) (by omega) ((q : Int) + 1))
          rw [hs] at HC
          have HM := Aside0.mk HS.out.2
          have HQ := Aside0.mk hq
          clear HS hqv hq c1 c2 c3 c4 hs
          go_wp2_with (go_at_call 15; refine HC.out.mono ?_; clear HC; rintro e w6 ⟨rfl, hA, hK⟩; have HA := Aside0.mk hA; have HK := Aside0.mk hK; clear hA hK)
          go_roundg (i - (k + 1))
          case measure => have := HF.out; omega
          case rel =>
            refine ⟨k + 1, ⟨by omega⟩, by omega, by go_num, ⟨?_, HM.out.keep HK.out⟩⟩
            have := HA.out
            rw [HQ.out] at this
            exact this
        · obtain rfl : k = i := by omega
          obtain ⟨w6, hw6⟩ : ∃ w6, w6 = wr := ⟨_, rfl⟩
          subst hw6
          have hnil : clo (hdsUpto rows k) k tn k = [] := by
            have := (clo_ok rows k tn k (Nat.le_refl _)).2.1
            exact List.eq_nil_of_length_eq_zero (by omega)
          have HT := HS.out.1
          rw [hnil] at HT
          replace HT := Aside0.mk HT
          clear HS HF hk hlt hnil
          go_wp2
          go_loopg [12] k (fun f v12 wr => ∃ i : Nat, Aside0 (f + i = k) ∧ i ≤ k ∧ v12 = .int .i64 i ∧ Aside0 (AtR R w wr t 1024 ((k : Int) + 1) []))
          case atStart => exact ⟨0, ⟨by omega⟩, by omega, rfl, HT⟩
          case round =>
            clear HT
            obtain ⟨i, HF, hi, rfl, HS⟩ := hrel
            obtain ⟨w7, hw7⟩ : ∃ w7, w7 = wr := ⟨_, rfl⟩
            subst hw7
            by_cases hlt : i < k
            · have hyl := HL.out i hlt
              go_wp2
              go_loopg [13] (rows.getD i []).length (fun f v13 wr => ∃ j : Nat, Aside0 (f + j = (rows.getD i []).length) ∧ j ≤ (rows.getD i []).length ∧ v13 = .int .i64 j ∧ Aside0 (AtR R w wr t 1024 ((k : Int) + 1) []))
              case atStart => exact ⟨0, ⟨by omega⟩, by omega, rfl, HS⟩
              case round =>
                clear HS
                obtain ⟨j, HF2, hj, rfl, HS⟩ := hrel
                obtain ⟨ad, A1, c1, rfl, hcell, hcc, hrr⟩ := rows_at H0.out HS.out.below hlt
                obtain ⟨ys, hys⟩ : ∃ ys, ys = rows.getD i [] := ⟨_, rfl⟩
                rw [← hys] at hcell hcc hrr hyl HF2 hj
                have HYS := Aside0.mk hys
                clear hys
                by_cases hlt2 : j < ys.length
                · obtain ⟨ad2, rfl, hc2⟩ := (HS.out.reads hrr).1.2.2 (by omega)
                  replace hc2 := hc2 j hlt2
                  rw [getD_lt hlt2] at hc2
                  generalize ys[j] = y at hc2
                  have HC := Aside0.mk (pinned_tb HS.out.tb y)
                  rw [show decide (0 < cnt [] y) = false from rfl] at HC
                  clear hrr
                  go_wp2_with (go_at_call 26; refine HC.out.mono ?_; clear HC; rintro e w8 ⟨rfl, rfl⟩)
                  go_roundg (ys.length - (j + 1))
                  case measure => have := HF2.out; omega
                  case rel => exact ⟨j + 1, ⟨by rw [← HYS.out]; omega⟩, by rw [← HYS.out]; omega, by go_num, HS⟩
                · clear hrr
                  go_wp2
                  go_roundg (k - (i + 1))
                  case measure => have := HF.out; omega
                  case rel => exact ⟨i + 1, ⟨by omega⟩, by omega, by go_num, HS⟩
            · have HC := Aside0.mk (many_tb HS.out.tb)
              have HE := Aside0.mk HS.out.below
              clear HS
              go_wp2_with (go_at_call 19; refine HC.out.mono ?_; clear HC; rintro e w8 ⟨rfl, rfl⟩)
              go_ret
              exact ⟨rfl, HE.out⟩
end Go.Proofs.Ytdfjacpfmjgfiaa

/-
  Layer 17: calls as they are handed to the laws.
-/
namespace Go.Proofs.Ytdfjacpfmjgfiaa
set_option linter.unusedVariables false
set_option linter.unusedSimpArgs false
open Go.Shelf Go.RowKit Go.Proofs.YtdfjacpfmjgfiaaW.PrintWords Go.Proofs.YtdfjacpfmjgfiaaW.PrintMore PPinPlays
def tot (l : List S31) : Nat := (l.map fun x => x.f3.length).sum
theorem great_l (l : List S31) (hl : l.length ≤ 4611686018427387904) : ∀ (d : Nat) (i : Nat) (n : Nat) (k : Nat), i + d = l.length → d < k → n ≤ 4611686018427387904 → ∃ r, souterrainlaw17_great.l0 k l (n : Int) (i : Int) = some r ∧ (r = false → n + tot (l.drop i) < 9000 ∧ l.length ≤ 300)
  | 0, i, n, k, hd, hk, hn => by
    obtain ⟨k, rfl⟩ : ∃ m, k = m + 1 := ⟨k - 1, by omega⟩
    have hz : tot (l.drop i) = 0 := by rw [List.drop_eq_nil_of_le (by omega)]; rfl
    rw [hz]
    simp only [souterrainlaw17_great.l0]
    rw [if_neg (by omega)]
    by_cases h : (n : Int) ≥ 9000
    · exact ⟨true, by rw [if_pos h], fun h => by cases h⟩
    · refine ⟨decide ((l.length : Int) > 300), by rw [if_neg h], fun h2 => ?_⟩
      simp at h2; omega
  | d + 1, i, n, k, hd, hk, hn => by
    obtain ⟨k, rfl⟩ : ∃ m, k = m + 1 := ⟨k - 1, by omega⟩
    have hi : i < l.length := by omega
    by_cases hlt : n < 9000
    · have hrd : rd_T31 l (i : Int) = l[i] := by simp [rd_T31, List.getD_eq_getElem?_getD, List.getElem?_eq_getElem hi]
      obtain ⟨r, hr, hf⟩ := great_l l hl d (i + 1) (n + min l[i].f3.length 9000) k (by omega) (by omega) (by omega)
      refine ⟨r, ?_, fun h => ?_⟩
      · simp only [souterrainlaw17_great.l0]
        rw [if_pos (by omega), if_pos (by omega), if_pos (by omega), hrd]
        have e1 : wrap64 ((n : Int) + mn (l[i].f3.length : Int) 9000) = ((n + min l[i].f3.length 9000 : Nat) : Int) := by
          have : mn (l[i].f3.length : Int) 9000 = ((min l[i].f3.length 9000 : Nat) : Int) := by unfold mn; omega
          rw [this, IntWalk.wrap64_in _ ⟨by omega, by omega⟩]; omega
        have e2 : wrap64 ((i : Int) + 1) = ((i + 1 : Nat) : Int) := by rw [IntWalk.wrap64_in _ ⟨by omega, by omega⟩]; omega
        rw [e1, e2]; exact hr
      · have h1 := hf h
        have h2 : tot (l.drop i) = l[i].f3.length + tot (l.drop (i + 1)) := by
          unfold tot
          rw [List.drop_eq_getElem_cons hi, List.map_cons, List.sum_cons]
        rw [h2]
        omega
    · simp only [souterrainlaw17_great.l0]
      rw [if_pos (by omega), if_neg (by omega), if_pos (by omega)]
      exact ⟨true, rfl, fun h => by cases h⟩
theorem great_tells (l : List S31) (hl : l.length ≤ 4611686018427387904) : ∃ k r, souterrainlaw17_great.f k l = some r ∧ (r = false → l.length + tot l < 9000 ∧ l.length ≤ 300) := by
  obtain ⟨r, hr, hf⟩ := great_l l hl l.length 0 l.length (l.length + 1) (by omega) (by omega) hl
  exact ⟨l.length + 1, r, hr, fun h => by have := hf h; simpa using this⟩
theorem cell_below {w W : World} (hb : Below w.heap.size w W) {p : Addr} {v : Value} (h : w.cell? p = some v) : W.cell? p = some v :=
  (World.cell?_of_block (w := w) (hb.block p.block (World.block_lt_of_cell? w p h))).trans h
theorem op_at {w W : World} {A : Option Addr} {l : List S31} (h : Kd.C k31 w A l.length l) (hb : Below w.heap.size w W) {i : Nat} (hi : i < l.length) :
    ∃ ad A3 c3, A = some ad ∧ W.cell? (ad.add (i * 4)) = some (.int .i64 l[i].f0) ∧ W.cell? ⟨(ad.add (i * 4)).block, (ad.add (i * 4)).off + 1, none⟩ = some (.int .i64 l[i].f1) ∧ W.cell? ⟨(ad.add (i * 4)).block, (ad.add (i * 4)).off + 2, none⟩ = some (.int .i64 l[i].f2) ∧ W.cell? ⟨(ad.add (i * 4)).block, (ad.add (i * 4)).off + 3, none⟩ = some (.slice A3 l[i].f3.length c3) ∧ l[i].f3.length ≤ c3 ∧ ReadsInt w .i64 A3 l[i].f3.length l[i].f3 := by
  obtain ⟨ad, A3, c3, e, h0, h1, h2, h3, hc, hr⟩ := at_T31 h (i : Int) (by omega) (by omega)
  have hrd : rd_T31 l (i : Int) = l[i] := by simp [rd_T31, List.getD_eq_getElem?_getD, List.getElem?_eq_getElem hi]
  rw [hrd, Int.toNat_natCast] at h0 h1 h2 h3
  rw [hrd] at hc hr
  exact ⟨ad, A3, c3, e, cell_below hb h0, cell_below hb h1, cell_below hb h2, cell_below hb h3, hc, reads_of_C hr⟩
end Go.Proofs.Ytdfjacpfmjgfiaa
