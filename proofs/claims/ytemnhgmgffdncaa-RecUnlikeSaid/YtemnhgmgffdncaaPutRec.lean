/-
  Layer 4: a record's bytes.
-/
import Derived.Test.YtemnhgmgffdncaaRight
import Derived.Test.YtemnhgmgffdncaaTurns
import Derived.Test.YtemnhgmgffdncaaOf
namespace Go.Proofs.Ytemnhgmgffdncaa
set_option linter.unusedVariables false
set_option linter.unusedSimpArgs false
open Go.RowKit Go.Proofs.YtemnhgmgffdncaaW.PrintWords Go.Proofs.YtemnhgmgffdncaaW.PrintMore
attribute [local go_sem] max2_int
theorem LowL.up {W : World} {B B' : Nat} {A : Option Addr} {ls : List Loc3} (h : LowL W B A ls) (hB : B ≤ B') : LowL W B' A ls :=
  ⟨h.len, fun hn => by obtain ⟨ad, e, hl, hc⟩ := h.cells hn; exact ⟨ad, e, Nat.lt_of_lt_of_le hl hB, hc⟩⟩
theorem Low.up {W : World} {B B' m : Nat} {A : Option Addr} {bs : List Int} (h : Low W B A m bs) (hB : B ≤ B') : Low W B' A m bs :=
  ⟨h.rd, fun hn ad e => Nat.lt_of_lt_of_le (h.low hn ad e) hB⟩
theorem RecIn.far {W W' : World} {B : Nat} {LA : Option Addr} {lc : Nat} {ls : List Loc3} {A : Option Addr} {c : Nat} {bs : List Int} (h : RecIn W W.heap.size LA lc ls A c bs) (hg : Grows W W') (hB : W.heap.size ≤ B) : RecIn W' B LA lc ls A c bs :=
  ⟨(h.grows hg).locs.up hB, h.lcap, (h.grows hg).bytes.up hB, h.bcap⟩
theorem keepT_phase (gb B : Nat) : PhaseK Grows (KeepT gb B) := ⟨KeepT.refl gb B, KeepT.trans, KeepT.of_grows, fun w => (Below.refl w.heap.size w).drew⟩
theorem Below.then {B : Nat} {a b c : World} (h : Below B a b) (k : Below B b c) : Below B a c :=
  ⟨k.os.trans h.os, k.tape.trans h.tape, k.output.trans h.output, Nat.le_trans h.size k.size, fun i hi => (k.block i hi).trans (h.block i hi)⟩
theorem own_one {W : World} {B g : Nat} {z : Int} (hB : B ≤ g) (h : W.heap[g]? = some (.cells #[.int .u8 z] 5 (0, 0))) : W.ownsRow B 5 1 (.slice (some ⟨g, 0, none⟩) 1 1) [z].length (nums .u8 [z]) :=
  ⟨rfl, .inr ⟨g, 1, _, rfl, hB, h, Nat.le_refl _, by decide, rfl, rfl⟩⟩
/-- What a kind's To does. -/
structure ToIs (f2 : FuncId) (kind : Int) (key : ByteArray) (id no size : Int) (LA : Option Addr) (lc : Nat) (ls : List Loc3) (A : Option Addr) (c : Nat) (bs : List Int) (out : List Int) : Prop where
  run : ∀ (w5 : World) (g gb B : Nat), B ≤ gb → B ≤ w5.heap.size → RecIn w5 B LA lc ls A c bs → RecIs w5 g kind key id no size (.slice LA ls.length lc) (.slice A bs.length c) → BufAt w5 gb B [kind % 256] →
    Calls Try.prog f2 #[.pointer (some ⟨g, 0, none⟩), .pointer (some ⟨gb, 0, none⟩)] w5 fun e w' => e = .returned (.tuple #[]) ∧ BufAt w' gb B out ∧ KeepT gb B w5 w'
  call : ∀ (p p' : Value) (w1 : World), (callFunc f2 #[p, p']).run Try.prog w1 = .ok (.enter f2 #[p, p']) w1
set_option maxRecDepth 100000 in
set_option maxHeartbeats 4000000 in
theorem putR_calls (kind : Int) (key : ByteArray) (id no size : Int) (LA : Option Addr) (lc : Nat) (ls : List Loc3) (A : Option Addr) (c : Nat) (bs : List Int) (w : World) (hin : RecIn w w.heap.size LA lc ls A c bs) (f0 f1 f2 f3 : FuncId) (out : List Int) (hyes : rightB kind key id no size ls bs.length = true → kindAt kind = (#[.func (.func f0) #[] #[], .func (.func f1) #[] #[], .func (.func f2) #[] #[], .func (.func f3) #[] #[]], true) ∧ ToIs f2 kind key id no size LA lc ls A c bs out) :
    Calls Try.prog 15 #[recV kind key id no size (.slice LA ls.length lc) (.slice A bs.length c)] w fun e w' => ∃ v, e = .returned v ∧ w'.ownsRow w.heap.size 5 1 v (if rightB kind key id no size ls bs.length then out else []).length (nums .u8 (if rightB kind key id no size ls bs.length then out else [])) ∧ Grows w w' := by
  have HIN := Aside0.mk hin
  obtain ⟨res, hres⟩ : ∃ res, res = rightB kind key id no size ls bs.length := ⟨_, rfl⟩
  rw [← hres] at hyes ⊢
  have HRS := Aside0.mk hres
  have HYES := Aside0.mk hyes
  clear hin hres hyes
  obtain ⟨R0, hR0⟩ : ∃ R0 : World → Value → Prop, R0 = fun w' v => w'.ownsRow w.heap.size 5 1 v (if res then out else []).length (nums .u8 (if res then out else [])) ∧ Grows w w' := ⟨_, rfl⟩
  have HR0 := Aside0.mk hR0
  refine Calls.mono (R := fun e w' => ∃ v, e = .returned v ∧ R0 w' v) ?_ (fun e w' h => by subst hR0; exact h)
  clear hR0
  unfold recV recCells
  go_enter Try.func15, Try.ntmps15
  go_upto_region 1 with fail
  have HG1 := Aside0.mk (show Grows w _ from (Below.refl w.heap.size w).alloc (Nat.le_refl _) (.cells #[.int .i64 kind, .string key, .int .i64 id, .int .i64 no, .int .i64 size, .slice LA ls.length lc, .slice A bs.length c] 25))
  have HQ1 := Aside0.mk (show RecT 25 _ _ kind key id no size (.slice LA ls.length lc) (.slice A bs.length c) from heap_alloc_new w (.cells #[.int .i64 kind, .string key, .int .i64 id, .int .i64 no, .int .i64 size, .slice LA ls.length lc, .slice A bs.length c] 25))
  generalize w.alloc (.cells #[.int .i64 kind, .string key, .int .i64 id, .int .i64 no, .int .i64 size, .slice LA ls.length lc, .slice A bs.length c] 25) = w1 at HG1 HQ1 ⊢
  generalize w.heap.size = q at HQ1 ⊢
  have d0 := HQ1.out.c0; have d1 := HQ1.out.c1; have d2 := HQ1.out.c2; have d3 := HQ1.out.c3; have d4 := HQ1.out.c4; have d5 := HQ1.out.c5; have d6 := HQ1.out.c6
  have hrc : Aside0 (Calls Try.prog 13 #[.agg #[.int .i64 kind, .string key, .int .i64 id, .int .i64 no, .int .i64 size, .slice LA ls.length lc, .slice A bs.length c]] w1 fun e w' => e = .returned (.bool res) ∧ Grows w1 w') := ⟨HRS.out ▸ right_calls kind key id no size LA lc ls A c bs w1 (HIN.out.grows HG1.out)⟩
  cases res with
  | false =>
    go_wp2_with (go_at_call 13; refine hrc.out.mono ?_; rintro e w2 ⟨rfl, hg⟩; have HG2 := Aside0.mk hg; clear hg)
    go_ret
    refine ⟨_, rfl, ?_⟩
    rw [HR0.out]
    exact ⟨World.ownsRow_nil _ _ _ _, HG1.out.trans HG2.out⟩
  | true =>
    go_upto_region 3 with (go_at_call 13; refine hrc.out.mono ?_; rintro e w2 ⟨rfl, hg⟩; have HG2 := Aside0.mk hg; clear hg)
    have HQ2 := Aside0.mk (HQ1.out.grows HG2.out)
    clear d0 d1 d2 d3 d4 d5 d6
    have HW2 := Aside0.mk (Nat.le_refl w2.heap.size)
    apply U.wp_region_phase Grows (KeepN (fun t => t = 49 ∨ t = 50) w2.heap.size) (keepN_phase _ _) (fun _ => True) trivial (fun _ _ _ h => h) (hm := by kernel_rfl) (hB := by kernel_rfl)
    case h =>
      apply U.phase_fixed (c := .agg (recCells kind key id no size (.slice LA ls.length lc) (.slice A bs.length c)))
      case hw => simp [Region.wanted, yielded]
      case ho =>
        intro w' hk hf
        clear hf
        have kk := hk.block q _ HQ2.out.blk (.inl HQ2.out.lt)
        exact growAt_load_row 25 (.tmp 1) rfl q rfl 25 _ (0, 0) _ kk Try.underlying25 rfl (by kernel_rfl) ⟨Grows.refl _, rfl⟩
      simp only [Act.put, List.setIfInBounds_toArray, List.set_cons_zero, List.set_cons_succ]
      iterate 1
        apply U.phase_fixed
        case hw => simp [Region.wanted, yielded]
        case ho =>
          intro w' hk hf
          clear hf
          refine ⟨?_⟩
          go_simp
          exact ⟨Grows.refl _, rfl⟩
        simp only [Act.put, List.setIfInBounds_toArray, List.set_cons_zero, List.set_cons_succ]
      apply U.phase_fixed (c := .int .i64 kind)
      case hw => simp [Region.wanted, yielded]
      case ho =>
        intro w' hk hf
        clear hf
        have kc := (show RecT 25 w' q kind key id no size (.slice LA ls.length lc) (.slice A bs.length c) from hk.block q _ HQ2.out.blk (.inl HQ2.out.lt)).c0
        refine ⟨?_⟩
        go_simp
        exact ⟨Grows.refl _, rfl⟩
      simp only [Act.put, List.setIfInBounds_toArray, List.set_cons_zero, List.set_cons_succ]
      iterate 1
        apply U.phase_fixed
        case hw => simp [Region.wanted, yielded]
        case ho =>
          intro w' hk hf
          clear hf
          refine ⟨?_⟩
          go_simp
          exact ⟨Grows.refl _, rfl⟩
        simp only [Act.put, List.setIfInBounds_toArray, List.set_cons_zero, List.set_cons_succ]
      apply U.phase_free (G := (Made1 w2.heap.size (kind % 256)))
      case hw => simp [Region.wanted, yielded]
      case ho =>
        intro w' hk hf
        clear hf
        refine ⟨?_⟩
        go_simp
        exact ⟨(Below.refl _ _).alloc (Nat.le_refl _) _, _, rfl, hk.size, heap_alloc_new w' _⟩
      case hm => exact fun v a c h hk => h.elim fun q h => ⟨q, h.1, h.2.1, hk.block q _ h.2.2 (.inr fun cs t e ht => by injection e with _ e; subst e; rcases ht with h | h <;> cases h)⟩
      intro v12
      simp only [Act.put, List.setIfInBounds_toArray, List.set_cons_zero, List.set_cons_succ]
      apply U.phase_free (G := (Box w2.heap.size 49 7))
      case hw => simp [Region.wanted, yielded]
      case ho =>
        intro w' hk hf
        clear hf
        refine ⟨?_⟩
        go_simp
        exact ⟨(Below.refl _ _).alloc (Nat.le_refl _) _, Box.alloc 49 _ hk.size⟩
      case hm => exact fun v a c h hk => h.keep hk
      intro v3
      simp only [Act.put, List.setIfInBounds_toArray, List.set_cons_zero, List.set_cons_succ]
      apply U.phase_free (G := (Box w2.heap.size 50 1))
      case hw => simp [Region.wanted, yielded]
      case ho =>
        intro w' hk hf
        clear hf
        refine ⟨?_⟩
        go_simp
        exact ⟨(Below.refl _ _).alloc (Nat.le_refl _) _, Box.alloc 50 _ hk.size⟩
      case hm => exact fun v a c h hk => h.keep hk
      intro v4
      simp only [Act.put, List.setIfInBounds_toArray, List.set_cons_zero, List.set_cons_succ]
      apply U.phase_turn [5] (fun l w' => Full w2.heap.size 49 (recCells kind key id no size (.slice LA ls.length lc) (.slice A bs.length c)) (l.getD 0 undef) w') (L := [v3]) (c := undef)
      case hD => rfl
      case hw => simp [Region.wanted, yielded]
      case ho =>
        intro w' hk hf hI
        obtain ⟨q3, e3, hq3, cs3, hc3, hs3⟩ : Box w2.heap.size 49 7 v3 w' := hf _ (List.Mem.tail _ (List.Mem.head _)) (by kernel_rfl)
        clear hf
        subst e3
        exact growAt_store_row 49 (.tmp 3) (.tmp 8) rfl q3 _ rfl rfl 49 cs3 hc3 (by kernel_rfl) (by rw [hs3]; rfl) (by simp [recCells, Value.oneCell']) ⟨KeepN.setRow _ hc3 (by rw [hs3]; rfl) hq3 (.inl rfl), ⟨q3, rfl, hq3, setRow_same _ hc3⟩, rfl⟩
      case hJ => exact fun l a c h hh => hh.grows h
      simp only [Act.put, List.setIfInBounds_toArray, List.set_cons_zero, List.set_cons_succ]
      apply U.phase_turn [5, 6, 4] (fun l w' => Full w2.heap.size 49 (recCells kind key id no size (.slice LA ls.length lc) (.slice A bs.length c)) (l.getD 0 undef) w' ∧ Full w2.heap.size 50 #[l.getD 2 undef] (l.getD 1 undef) w') (L := [v3, v4, v12]) (c := undef)
      case hD => rfl
      case hw => simp [Region.wanted, yielded]
      case ho =>
        intro w' hk hf hI
        obtain ⟨q4, e4, hq4, cs4, hc4, hs4⟩ : Box w2.heap.size 50 1 v4 w' := hf _ (List.Mem.head _) (by kernel_rfl)
        obtain ⟨q12, e12, hq12, hc12⟩ : Made1 w2.heap.size (kind % 256) v12 w' := hf _ (List.Mem.tail _ (List.Mem.tail _ (List.Mem.head _))) (by kernel_rfl)
        clear hf
        subst e4
        subst e12
        exact growAt_store_one 50 (.tmp 4) (.tmp 12) rfl q4 _ rfl rfl 50 cs4 hc4 (by kernel_rfl) hs4 rfl rfl ⟨KeepN.setRow _ hc4 (by rw [hs4]; rfl) hq4 (.inr rfl), ⟨hI.setRow _ hc4 (by decide), q4, rfl, hq4, setRow_same _ hc4⟩, rfl⟩
      case hJ => exact fun l a c h hh => ⟨hh.1.grows h, hh.2.grows h⟩
      simp only [Act.put, List.setIfInBounds_toArray, List.set_cons_zero, List.set_cons_succ]
      refine U.phase_nil (fun w5 hk5 hI hf5 => ?_)
      obtain ⟨⟨q3, e3, hq3, hc3⟩, q4, e4, hq4, hc4⟩ := hI
      replace e3 : v3 = .pointer (some ⟨q3, 0, none⟩) := e3
      replace e4 : v4 = .pointer (some ⟨q4, 0, none⟩) := e4
      obtain ⟨q12, e12, hq12, hc12⟩ : Made1 w2.heap.size (kind % 256) v12 w5 := hf5 _ (List.Mem.tail _ (List.Mem.tail _ (List.Mem.head _)))
      subst e3
      subst e4
      subst e12
      clear hf5
      have hgN : Grows w2 w5 := hk5.below (Nat.le_refl _)
      have HGN := Aside0.mk ((HG1.out.trans HG2.out).trans hgN)
      have HQ5 := Aside0.mk (HQ2.out.grows hgN)
      have HB5 := Aside0.mk (show BufAt w5 q4 w2.heap.size [kind % 256] from ⟨_, hc4, own_one hq12 hc12⟩)
      have HR5 := Aside0.mk (show RecIs w5 q3 kind key id no size (.slice LA ls.length lc) (.slice A bs.length c) from hc3)
      have HQ4 := Aside0.mk hq4
      have HL4 := Aside0.mk (lt_heap hc4)
      have HBS := Aside0.mk hk5.size
      have HW0 := Aside0.mk (HG1.out.trans HG2.out).size
      have HG25 := Aside0.mk hgN
      have HT := Aside0.mk (HYES.out (by first | trivial | rfl))
      clear hk5 hgN hc3 hc4 hq3 hq4 hq12 hc12
      generalize hBB : w2.heap.size = BB at HB5 HQ4 HBS HW0 ⊢
      have HBB := Aside0.mk hBB
      clear hBB
      have HBE : Aside0 (∀ w', KeepT q4 BB w5 w' → Grows w w') := ⟨fun w' hk => (HG1.out.trans HG2.out).trans (by have h1 := HG25.out; have h2 := hk.below HBS.out HQ4.out; rw [← HBB.out] at h2; exact Below.then h1 h2)⟩
      have HIN5 : Aside0 (∀ w', KeepT q4 BB w5 w' → RecIn w' BB LA lc ls A c bs) := ⟨fun w' hk => HIN.out.far (HBE.out w' hk) HW0.out⟩
      go_upto_region 4 with fail
      apply wp_region_phase Grows (KeepT q4 BB) (keepT_phase _ _) (fun w' => BufAt w' q4 BB [kind % 256]) HB5.out (fun _ _ k h => h.grows k) (hm := by kernel_rfl) (hB := by kernel_rfl)
      case h =>
        apply phase_free (G := (fun v W => ∃ m, v = .map (some m) ∧ m ≠ q4 ∧ KindsAt W m))
        case hw => simp [Region.wanted, yielded]
        case ho =>
          intro w' hk hf
          clear hf
          refine ⟨?_⟩
          go_simp
          exact (kinds_new w').mono fun e w6 h => h.elim fun m h => ⟨_, h.1, h.2.2.2.grows, m, rfl, fun e => by have h1 := h.2.1; have h2 := hk.size; have h3 := HL4.out; omega, h.2.2.1⟩
        case hm => exact fun v a c h hk => h.elim fun m h => ⟨m, h.1, h.2.1, hk.block m _ h.2.2 h.2.1 (.inr fun cs e => by cases e)⟩
        intro v13
        simp only [Act.put, List.setIfInBounds_toArray, List.set_cons_zero, List.set_cons_succ]
        iterate 1
          apply phase_fixed
          case hw => simp [Region.wanted, yielded]
          case ho =>
            intro w' hk hf
            clear hf
            refine ⟨?_⟩
            go_simp
            exact ⟨Grows.refl _, rfl⟩
          simp only [Act.put, List.setIfInBounds_toArray, List.set_cons_zero, List.set_cons_succ]
        apply phase_fixed (c := .int .i64 kind)
        case hw => simp [Region.wanted, yielded]
        case ho =>
          intro w' hk hf
          clear hf
          have kc := (show RecT 25 w' q kind key id no size (.slice LA ls.length lc) (.slice A bs.length c) from hk.block q _ HQ5.out.blk (fun e => by have h1 := HQ2.out.lt; have h2 := HBB.out; have h3 := HQ4.out; omega) (.inr fun cs e => by injection e with _ e; cases e)).c0
          refine ⟨?_⟩
          go_simp
          exact ⟨Grows.refl _, rfl⟩
        simp only [Act.put, List.setIfInBounds_toArray, List.set_cons_zero, List.set_cons_succ]
        apply phase_fixed (c := .agg #[.func (.func f0) #[] #[], .func (.func f1) #[] #[], .func (.func f2) #[] #[], .func (.func f3) #[] #[]])
        case hw => simp [Region.wanted, yielded]
        case ho =>
          intro w' hk hf
          obtain ⟨m, e7, hmq, hm⟩ : ∃ m, v13 = .map (some m) ∧ m ≠ q4 ∧ KindsAt w' m := hf _ (List.Mem.head _) (by kernel_rfl)
          clear hf
          subst e7
          have hlk := run_look0 w' m kind hm (by rw [HT.out.1])
          rw [HT.out.1] at hlk
          refine ⟨?_⟩
          go_simp
          exact ⟨Grows.refl _, rfl⟩
        simp only [Act.put, List.setIfInBounds_toArray, List.set_cons_zero, List.set_cons_succ]
        apply phase_fixed (c := .func (.func f2) #[] #[])
        case hw => simp [Region.wanted, yielded]
        case ho =>
          intro w' hk hf
          clear hf
          refine ⟨?_⟩
          go_simp
          exact ⟨Grows.refl _, rfl⟩
        simp only [Act.put, List.setIfInBounds_toArray, List.set_cons_zero, List.set_cons_succ]
        apply phase_turn (c := .tuple #[]) (J := (fun w' => BufAt w' q4 BB out))
        case hw => simp [Region.wanted, yielded]
        case ho =>
          intro w' hk hf hI
          clear hf
          have hc := HT.out.2.run w' q3 q4 BB HQ4.out (Nat.le_trans HBS.out hk.size) (HIN5.out w' hk) (HR5.out.keepT hk (rec_buf HR5.out HB5.out)) hI
          refine ⟨?_⟩
          go_simp
          rw [HT.out.2.call]
          exact hc.mono fun e w6 h => ⟨_, h.1, h.2.2, h.2.1, rfl⟩
        case hJ => exact fun a c h hh => hh.grows h
        simp only [Act.put, List.setIfInBounds_toArray, List.set_cons_zero, List.set_cons_succ]
        refine phase_nil (fun w7 hk7 hI _ => ?_)
        obtain ⟨v7, h7⟩ := hI
        have k0 := h7.cell
        have HB7 := Aside0.mk h7
        have HG7 := Aside0.mk (HBE.out w7 hk7)
        clear h7 hk7
        go_wp2
        go_ret
        refine ⟨_, rfl, ?_⟩
        rw [HR0.out]
        exact ⟨own_mono HB7.out.own HW0.out, HG7.out⟩
      case ht => kernel_rfl
    case ht => kernel_rfl
end Go.Proofs.Ytemnhgmgffdncaa

/-
  Layer 4: a record's bytes: every kind.
-/
namespace Go.Proofs.Ytemnhgmgffdncaa
set_option linter.unusedVariables false
set_option linter.unusedSimpArgs false
open Go.RowKit Go.Proofs.YtemnhgmgffdncaaW.PrintWords Go.Proofs.YtemnhgmgffdncaaW.PrintMore
attribute [local go_sem] max2_int
def putF (kind : Int) (key : ByteArray) (id no size : Int) (ls : List Loc3) (bs : List Int) : List Int :=
  if kind = 1 then [1] ++ beI id 6 ++ beI no 2 ++ bs
  else if kind = 2 then [2] ++ beI (key.size : Int) 1 ++ numsOf key ++ beI id 6 ++ beI size 3 ++ beI (ls.length : Int) 2 ++ locsB ls
  else if kind = 3 then [3] ++ beI (key.size : Int) 1 ++ numsOf key ++ bs
  else [4] ++ numsOf key
def putRec (kind : Int) (key : ByteArray) (id no size : Int) (ls : List Loc3) (bs : List Int) : List Int := if rightB kind key id no size ls bs.length then putF kind key id no size ls bs else []
theorem keyB_size {key : ByteArray} (h : keyB key = true) : 1 ≤ key.size ∧ key.size ≤ 64 := by
  unfold keyB withinB at h
  have := of_decide_eq_true h
  omega
theorem bareB_parts {key key' : ByteArray} {id id' no no' size size' : Int} {nl nl' nb nb' : Nat} (h : bareB key key' id id' no no' size size' nl nl' nb nb' = true) : key.toList = key'.toList ∧ id = id' ∧ no = no' ∧ size = size' ∧ nl = nl' ∧ nb = nb' := of_decide_eq_true h
theorem noKey_size {key : ByteArray} (h : key.toList = noKey.toList) : key.size = 0 := by
  have h1 : key.data.toList = ([] : List UInt8) := by
    rw [ByteArray.toList_eq, ByteArray.toList_eq] at h
    exact h
  have h2 := congrArg List.length h1
  rw [data_length] at h2
  exact h2
/-- What is right of each kind. -/
theorem right1 {key : ByteArray} {id no size : Int} {ls : List Loc3} {nb : Nat} (h : rightB 1 key id no size ls nb = true) : (0 ≤ id ∧ id ≤ 1099511627776) ∧ key.size = 0 ∧ size = 0 ∧ ls.length = 0 ∧ (0 ≤ no ∧ no ≤ 511) ∧ 1 ≤ nb ∧ nb ≤ 4096 := by
  unfold rightB at h
  rw [if_pos rfl] at h
  simp only [Bool.and_eq_true] at h
  obtain ⟨h1, h2, h3, h4⟩ := h
  have b := bareB_parts h2
  have h1 := of_decide_eq_true h1
  have h3 := of_decide_eq_true h3
  have h4 := of_decide_eq_true h4
  exact ⟨h1, noKey_size b.1, b.2.2.2.1, b.2.2.2.2.1, h3, by omega, by omega⟩
theorem right2 {key : ByteArray} {id no size : Int} {ls : List Loc3} {nb : Nat} (h : rightB 2 key id no size ls nb = true) : (0 ≤ id ∧ id ≤ 1099511627776) ∧ no = 0 ∧ nb = 0 ∧ rootFineB key size ls = true := by
  unfold rightB at h
  rw [if_neg (by decide), if_pos rfl] at h
  simp only [Bool.and_eq_true] at h
  obtain ⟨h1, h2, h3⟩ := h
  have b := bareB_parts h2
  exact ⟨of_decide_eq_true h1, b.2.2.1, b.2.2.2.2.2, h3⟩
theorem rootFine_parts {key : ByteArray} {size : Int} {ls : List Loc3} (h : rootFineB key size ls = true) : keyB key = true ∧ ls.length ≤ 512 ∧ sumL ls 0 = some size ∧ 1 ≤ size ∧ size ≤ 65536 := by
  unfold rootFineB at h
  cases hs : sumL ls 0 with
  | none => rw [hs] at h; cases h
  | some s =>
    rw [hs] at h
    simp only [Bool.and_eq_true, beq_iff_eq] at h
    obtain ⟨h1, h2, rfl, h4⟩ := h
    have h2 := of_decide_eq_true h2
    have h4 := of_decide_eq_true h4
    exact ⟨h1, by omega, rfl, h4.1, h4.2⟩
theorem right3 {key : ByteArray} {id no size : Int} {ls : List Loc3} {nb : Nat} (h : rightB 3 key id no size ls nb = true) : id = 0 ∧ no = 0 ∧ size = 0 ∧ ls.length = 0 ∧ (1 ≤ key.size ∧ key.size ≤ 64) ∧ nb ≤ 4096 := by
  unfold rightB at h
  rw [if_neg (by decide), if_neg (by decide), if_pos rfl] at h
  simp only [Bool.and_eq_true] at h
  obtain ⟨h1, h2, h3, h4⟩ := h
  have b := bareB_parts h2
  have h4 := of_decide_eq_true h4
  exact ⟨b.2.1, b.2.2.1, b.2.2.2.1, b.2.2.2.2.1, keyB_size h3, by omega⟩
theorem right4 {key : ByteArray} {id no size : Int} {ls : List Loc3} {nb : Nat} (h : rightB 4 key id no size ls nb = true) : id = 0 ∧ no = 0 ∧ size = 0 ∧ ls.length = 0 ∧ nb = 0 ∧ (1 ≤ key.size ∧ key.size ≤ 64) := by
  unfold rightB at h
  rw [if_neg (by decide), if_neg (by decide), if_neg (by decide), if_pos rfl] at h
  simp only [Bool.and_eq_true] at h
  obtain ⟨h1, h2, h3⟩ := h
  have b := bareB_parts h2
  exact ⟨b.2.1, b.2.2.1, b.2.2.2.1, b.2.2.2.2.1, b.2.2.2.2.2, keyB_size h3⟩
theorem right_kind {kind : Int} {key : ByteArray} {id no size : Int} {ls : List Loc3} {nb : Nat} (h : rightB kind key id no size ls nb = true) : kind = 1 ∨ kind = 2 ∨ kind = 3 ∨ kind = 4 := by
  unfold rightB at h
  by_cases h1 : kind = 1
  · exact .inl h1
  · by_cases h2 : kind = 2
    · exact .inr (.inl h2)
    · by_cases h3 : kind = 3
      · exact .inr (.inr (.inl h3))
      · by_cases h4 : kind = 4
        · exact .inr (.inr (.inr h4))
        · rw [if_neg h1, if_neg h2, if_neg h3, if_neg h4] at h; cases h
set_option maxRecDepth 100000 in
theorem to1 {key : ByteArray} {id no size : Int} {LA : Option Addr} {lc : Nat} {ls : List Loc3} {A : Option Addr} {c : Nat} {bs : List Int} (h : rightB 1 key id no size ls bs.length = true) : ToIs 28 1 key id no size LA lc ls A c bs (putF 1 key id no size ls bs) where
  run := fun w5 g gb B hgb hB hin hr hb => by
    have p := right1 h
    exact pieceTo_calls g gb B 1 key id no size _ _ _ w5 hr hb hB hgb (by decide) (by omega) A bs.length c bs rfl hin.bytes (by omega)
  call := fun p p' w1 => by go_simp
set_option maxRecDepth 100000 in
theorem to2 {key : ByteArray} {id no size : Int} {LA : Option Addr} {lc : Nat} {ls : List Loc3} {A : Option Addr} {c : Nat} {bs : List Int} (h : rightB 2 key id no size ls bs.length = true) : ToIs 32 2 key id no size LA lc ls A c bs (putF 2 key id no size ls bs) where
  run := fun w5 g gb B hgb hB hin hr hb => by
    have p := right2 h
    have f := rootFine_parts p.2.2.2
    have k := keyB_size f.1
    exact rootTo_calls g gb B 2 key id no size _ _ _ w5 hr hb hB hgb (by decide) (by omega) LA lc ls rfl hin.locs (by omega)
  call := fun p p' w1 => by go_simp
set_option maxRecDepth 100000 in
theorem to3 {key : ByteArray} {id no size : Int} {LA : Option Addr} {lc : Nat} {ls : List Loc3} {A : Option Addr} {c : Nat} {bs : List Int} (h : rightB 3 key id no size ls bs.length = true) : ToIs 36 3 key id no size LA lc ls A c bs (putF 3 key id no size ls bs) where
  run := fun w5 g gb B hgb hB hin hr hb => by
    have p := right3 h
    exact inlineTo_calls g gb B 3 key id no size _ _ _ w5 hr hb hB hgb (by decide) (by omega) A bs.length c bs rfl hin.bytes (by omega)
  call := fun p p' w1 => by go_simp
set_option maxRecDepth 100000 in
theorem to4 {key : ByteArray} {id no size : Int} {LA : Option Addr} {lc : Nat} {ls : List Loc3} {A : Option Addr} {c : Nat} {bs : List Int} (h : rightB 4 key id no size ls bs.length = true) : ToIs 40 4 key id no size LA lc ls A c bs (putF 4 key id no size ls bs) where
  run := fun w5 g gb B hgb hB hin hr hb => by
    have p := right4 h
    exact tombTo_calls g gb B 4 key id no size _ _ _ w5 hr hb hB hgb (by decide) (by omega)
  call := fun p p' w1 => by go_simp
theorem putRec_calls (kind : Int) (key : ByteArray) (id no size : Int) (LA : Option Addr) (lc : Nat) (ls : List Loc3) (A : Option Addr) (c : Nat) (bs : List Int) (w : World) (hin : RecIn w w.heap.size LA lc ls A c bs) :
    Calls Try.prog 15 #[recV kind key id no size (.slice LA ls.length lc) (.slice A bs.length c)] w fun e w' => ∃ v, e = .returned v ∧ OwnB w' w.heap.size v (putRec kind key id no size ls bs) ∧ Grows w w' := by
  unfold OwnB putRec
  by_cases h1 : kind = 1
  · subst h1; exact putR_calls 1 key id no size LA lc ls A c bs w hin 26 27 28 29 _ fun h => ⟨rfl, to1 h⟩
  · by_cases h2 : kind = 2
    · subst h2; exact putR_calls 2 key id no size LA lc ls A c bs w hin 30 31 32 33 _ fun h => ⟨rfl, to2 h⟩
    · by_cases h3 : kind = 3
      · subst h3; exact putR_calls 3 key id no size LA lc ls A c bs w hin 34 35 36 37 _ fun h => ⟨rfl, to3 h⟩
      · by_cases h4 : kind = 4
        · subst h4; exact putR_calls 4 key id no size LA lc ls A c bs w hin 38 39 40 41 _ fun h => ⟨rfl, to4 h⟩
        · exact putR_calls kind key id no size LA lc ls A c bs w hin 38 39 40 41 _ fun h => absurd (right_kind h) (by omega)
end Go.Proofs.Ytemnhgmgffdncaa
