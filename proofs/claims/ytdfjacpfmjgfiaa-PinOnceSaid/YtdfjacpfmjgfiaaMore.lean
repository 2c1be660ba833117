/-
  The law PinMore: to pin a segment again changes nothing; by another handle it is pinned until both are closed.
-/
import Derived.Test.YtdfjacpfmjgfiaaHead
namespace Go.Proofs.Ytdfjacpfmjgfiaa
set_option linter.unusedVariables false
set_option linter.unusedSimpArgs false
open Go.Shelf Go.RowKit Go.Proofs.YtdfjacpfmjgfiaaW.PrintWords Go.Proofs.YtdfjacpfmjgfiaaW.PrintMore
attribute [local go_sem] max2_int
/-- A world that the law has come to: what was there is as it was. -/
theorem below_of {w W : World} (h : KeepS (fun k => w.heap.size ≤ k) w W) : Below w.heap.size w W := ⟨h.os, h.tape, h.output, h.size, fun k hk => h.block k hk (by omega)⟩
theorem keep_of {w W : World} (h : Below w.heap.size w W) : KeepS (fun k => w.heap.size ≤ k) w W := ⟨h.os, h.tape, h.output, h.size, fun k _ hk => h.block k (by omega)⟩
theorem TB.grows {R : Nat → Prop} {W W' : World} {t : Nat} {most next : Int} {hl : HL} (h : TB R W t most next hl) (hg : Grows W W') : TB R W' t most next hl := h.other ⟨hg.os, hg.tape, hg.output, hg.size, fun k hk _ => hg.block k hk⟩
theorem keep_grows {w W W' : World} (h : KeepS (fun k => w.heap.size ≤ k) w W) (hg : Grows W W') : KeepS (fun k => w.heap.size ≤ k) w W' := h.trans (KeepS.of_grows hg)
theorem ins_nil (s : Int) : ins [] s = [s] := rfl
theorem more_pin (s : Int) : pinL [(1, [s]), (2, [])] 1 s = [(1, [s]), (2, [])] := pin_same (by decide : ([(1 : Int), 2] : List Int).Nodup) rfl (by simp)
theorem more_cnt (s : Int) : cnt [(2, [s])] s = 1 := by simp [cnt]
/-- The table of a law's walk: apart from what was there ahead of it. -/
structure At (w W : World) (t : Nat) (most next : Int) (hl : HL) : Prop where
  tb : TB (fun k => k < w.heap.size) W t most next hl
  keep : KeepS (fun k => w.heap.size ≤ k) w W
theorem At.post {w W w' : World} {t : Nat} {most next most' next' : Int} {hl hl' : HL} {r : Value} {e : Ending} (h : At w W t most next hl) (hp : TBPost (fun k => k < w.heap.size) W t most' next' hl' r e w') : e = .returned r ∧ At w w' t most' next' hl' :=
  ⟨hp.1, hp.2.1, keep_on h.keep hp.2.2 fun k hk => hk⟩
theorem At.grows {w W W' : World} {t : Nat} {most next : Int} {hl : HL} (h : At w W t most next hl) (hg : Grows W W') : At w W' t most next hl := ⟨h.tb.grows hg, keep_grows h.keep hg⟩
theorem at_pin {w W : World} {t : Nat} {most next : Int} {hl : HL} (h : At w W t most next hl) (hb : ∀ x ∈ hl, x.2.length ≤ 99999) (hb2 : hl.length ≤ 100000) (k n : Int) {hl' : HL} (e1 : pinL hl k n = hl') {b : Bool} (e2 : (getL hl k).isSome = b) :
    Calls Try.prog 13 #[.pointer (some ⟨t, 0, none⟩), .int .i64 k, .int .i64 n] W fun e w' => e = .returned (.bool b) ∧ At w w' t most next hl' := by
  subst e1 e2; exact (pin_tb h.tb hb hb2 k n).mono fun e w' hp => h.post hp
theorem at_close {w W : World} {t : Nat} {most next : Int} {hl : HL} (h : At w W t most next hl) (hb : ∀ x ∈ hl, x.2.length ≤ 100000) (hb2 : hl.length ≤ 100000) (k : Int) {hl' : HL} (e1 : delL hl k = hl') {b : Bool} (e2 : (getL hl k).isSome = b) :
    Calls Try.prog 15 #[.pointer (some ⟨t, 0, none⟩), .int .i64 k] W fun e w' => e = .returned (.bool b) ∧ At w w' t most next hl' := by
  subst e1 e2; exact (close_tb h.tb hb hb2 k).mono fun e w' hp => h.post hp
theorem at_open {w W : World} {t : Nat} {most next : Int} {hl : HL} (h : At w W t most next hl) (hf : hl.length < most) (hb : ∀ x ∈ hl, x.2.length ≤ 50000) (hb2 : hl.length ≤ 50000) (h1n : 1 ≤ next) (hn40 : next ≤ 1000000) {A : Option Addr} {m c : Nat} {xs : List Int} (hr : ReadsR W (fun k => k < w.heap.size) A m xs) (hm : m ≤ 40000) {hl' : HL} (e1 : hl ++ [(next, insAll [] xs)] = hl') {n' : Int} (e2 : next + 1 = n') :
    Calls Try.prog 17 #[.pointer (some ⟨t, 0, none⟩), .slice A m c] W fun e w' => e = .returned (.tuple #[.int .i64 next, .int .i64 0]) ∧ At w w' t most n' hl' := by
  subst e1 e2; exact (open_tb h.tb hf hb hb2 h1n hn40 hr hm).mono fun e w' hp => h.post hp
/-- Open of a row that is newer than the table. -/
theorem at_open_new {w W W2 : World} {t : Nat} {most next : Int} {hl : HL} (h : At w W t most next hl) (hg : Grows W W2) (hf : hl.length < most) (hb : ∀ x ∈ hl, x.2.length ≤ 50000) (hb2 : hl.length ≤ 50000) (h1n : 1 ≤ next) (hn40 : next ≤ 1000000) {ad : Addr} {m c : Nat} {xs : List Int} (hr : ReadsInt W2 .i64 (some ad) m xs) (had : W.heap.size ≤ ad.block) (hm : m ≤ 40000) {hl' : HL} (e1 : hl ++ [(next, insAll [] xs)] = hl') {n' : Int} (e2 : next + 1 = n') :
    Calls Try.prog 17 #[.pointer (some ⟨t, 0, none⟩), .slice (some ad) m c] W2 fun e w' => e = .returned (.tuple #[.int .i64 next, .int .i64 0]) ∧ At w w' t most n' hl' := by
  subst e1 e2
  refine (open_tb (h.tb.with (KeepS.of_grows hg)) hf hb hb2 h1n hn40 (ReadsR.of hr fun k hk a e1 e2 => by injection e1 with e1; subst e1; subst e2; exact .inr ⟨had, hk⟩) hm).mono fun e w' hp => ⟨hp.1, hp.2.1.sub fun k hk => .inl hk, keep_on (keep_grows h.keep hg) hp.2.2 fun k hk => .inl hk⟩
theorem at_pinned {w W : World} {t : Nat} {most next : Int} {hl : HL} (h : At w W t most next hl) (n : Int) {b : Bool} (e1 : decide (0 < cnt hl n) = b) : Calls Try.prog 26 #[.pointer (some ⟨t, 0, none⟩), .int .i64 n] W fun e w' => e = .returned (.bool b) ∧ w' = W := by
  subst e1; exact pinned_tb h.tb n
theorem at_of {w W : World} {t : Nat} {most next : Int} {hl : HL} (h : At w W t most next hl) (n : Int) (hb : ∀ x ∈ hl, x.2.length ≤ 1000000) {l : List Int} (e1 : (getL hl n).getD [] = l) :
    Calls Try.prog 24 #[.pointer (some ⟨t, 0, none⟩), .int .i64 n] W fun e w' => ∃ A c, e = .returned (.slice A l.length c) ∧ l.length ≤ c ∧ ReadsInt w' .i64 A l.length l ∧ w'.ownsRow W.heap.size 3 1 (.slice A l.length c) l.length (nums .i64 l) ∧ Grows W w' ∧ At w w' t most next hl := by
  subst e1
  refine (of_tb h.tb n hb).mono ?_
  rintro e w' ⟨v', rfl, ho, hg⟩
  obtain ⟨A, c, rfl, hc⟩ := own_slice ho
  exact ⟨A, c, rfl, hc, own_reads' ho, ho, hg, h.grows hg⟩
theorem at_new (w W : World) (hk : Below w.heap.size w W) (most : Int) (h : 1 ≤ most ∧ most ≤ 1024) : Calls Try.prog 10 #[.int .i64 most] W fun e w' => ∃ t, e = .returned (.pointer (some ⟨t, 0, none⟩)) ∧ At w w' t most 1 [] := by
  refine (new_tb W most h).mono ?_
  rintro e w' ⟨t, rfl, hT, hg⟩
  exact ⟨t, rfl, hT.sub fun k h => Nat.lt_of_lt_of_le h hk.size, keep_grows (keep_of hk) hg⟩
set_option maxRecDepth 100000 in
set_option maxHeartbeats 4000000 in
theorem more_calls (w : World) (s tm : Int) (h0 : 0 ≤ tm) (h1 : tm < 256) : Calls Try.prog 8 #[.int .i64 s, .int .u8 tm] w fun e w' => e = .returned (.bool true) ∧ Below w.heap.size w w' := by
  obtain ⟨n, rfl⟩ : ∃ n : Nat, tm = n := ⟨tm.toNat, by omega⟩
  go_enter Try.func8, Try.ntmps8
  go_upto_region 2 with (go_at_call 9; refine (head_calls _).mono ?_; rintro e w1 ⟨rfl, hb⟩; have HB := Aside0.mk hb; clear hb)
  go_upto_region 5 with (go_at_call 10; refine (at_new w _ HB.out 2 (by decide)).mono ?_; rintro e w2 ⟨t, rfl, hA⟩; have HA := Aside0.mk hA; clear hA)
  clear HB
  have HC := Aside0.mk (at_open_new (c := 1) (m := 1) (xs := [s]) (hl' := [(1, [s])]) (n' := 2) HA.out ((Below.refl w2.heap.size w2).alloc (Nat.le_refl _) (.cells #[.int .i64 s] 3)) (by simp) (by simp) (by simp) (by decide) (by decide) (lits_reads (by simp) (heap_alloc_new w2 _)) (Nat.le_refl _) (by decide) rfl rfl)
  clear HA
  go_upto_region 6 with (go_at_call 17; refine HC.out.mono ?_; clear HC; rintro e w3 ⟨rfl, hA⟩; have HA := Aside0.mk hA; clear hA)
  have HC := Aside0.mk (at_open (m := 0) (xs := []) (c := 0) (hl' := [(1, [s]), (2, [])]) (n' := 3) HA.out (by simp) (by simp) (by simp) (by decide) (by decide) ReadsR.none (by decide) rfl rfl)
  clear HA
  go_upto_region 7 with (go_at_call 17; refine HC.out.mono ?_; clear HC; rintro e w4 ⟨rfl, hA⟩; have HA := Aside0.mk hA; clear hA)
  go_wp2
  go_loopg [11] n (fun f v11 wr => ∃ i : Nat, Aside0 (f + i = n) ∧ i ≤ n ∧ v11 = .int .i64 i ∧ Aside0 (At w wr t 2 3 [(1, [s]), (2, [])]))
  case atStart => exact ⟨0, ⟨by omega⟩, by omega, rfl, HA⟩
  case round =>
    obtain ⟨i, HF, hi, rfl, HS⟩ := hrel
    clear HA
    have hu : IntKind.i64.wrap (n : Int) = n := IntWalk.i64_in _ ⟨by omega, by omega⟩
    by_cases hlt : i < n
    · have HC := Aside0.mk (at_pin HS.out (by simp) (by simp) 1 s (more_pin s) (b := true) rfl)
      clear HS
      go_wp2_with (first
        | (go_at_call 13; refine HC.out.mono ?_; clear HC; rintro e w5 ⟨rfl, hA⟩; have HD := Aside0.mk (at_of hA 1 (by simp) (l := [s]) rfl); clear hA)
        | (go_at_call 24; refine HD.out.mono ?_; clear HD; rintro e w6 ⟨A, c, rfl, hc, hr, ho, hg, hA⟩; have HA := Aside0.mk hA; clear hc hr ho hg hA))
      go_roundg (n - (i + 1))
      case measure => have := HF.out; omega
      case rel => exact ⟨i + 1, ⟨by omega⟩, by omega, by go_num, HA⟩
    · have HC := Aside0.mk (at_pin HS.out (by simp) (by simp) 2 s (hl' := [(1, [s]), (2, [s])]) rfl (b := true) rfl)
      clear HS
      go_upto_region 13 with (go_at_call 13; refine HC.out.mono ?_; clear HC; rintro e w5 ⟨rfl, hA⟩; have HA := Aside0.mk hA; clear hA)
      have HC := Aside0.mk (at_close HA.out (by simp) (by simp) 1 (hl' := [(2, [s])]) rfl (b := true) rfl)
      clear HA
      go_upto_region 14 with (go_at_call 15; refine HC.out.mono ?_; clear HC; rintro e w6 ⟨rfl, hA⟩; have HA := Aside0.mk hA; clear hA)
      have HC := Aside0.mk (at_pinned HA.out s (b := true) (by rw [more_cnt]; rfl))
      go_upto_region 15 with (go_at_call 26; refine HC.out.mono ?_; clear HC; rintro e w7 ⟨rfl, rfl⟩)
      have HC := Aside0.mk (at_close HA.out (by simp) (by simp) 2 (hl' := []) rfl (b := true) rfl)
      clear HA
      go_upto_region 16 with (go_at_call 15; refine HC.out.mono ?_; clear HC; rintro e w8 ⟨rfl, hA⟩; have HA := Aside0.mk hA; clear hA)
      have HC := Aside0.mk (at_pinned HA.out s (b := false) rfl)
      have HD := Aside0.mk (at_pin HA.out (by simp) (by simp) 1 s (hl' := []) rfl (b := false) rfl)
      clear HA
      go_wp2_with (first
        | (go_at_call 26; refine HC.out.mono ?_; clear HC; rintro e w9 ⟨rfl, rfl⟩)
        | (go_at_call 13; refine HD.out.mono ?_; clear HD; rintro e w10 ⟨rfl, hA⟩; have HA := Aside0.mk hA; clear hA))
      go_ret
      exact ⟨rfl, below_of HA.out.keep⟩
end Go.Proofs.Ytdfjacpfmjgfiaa
