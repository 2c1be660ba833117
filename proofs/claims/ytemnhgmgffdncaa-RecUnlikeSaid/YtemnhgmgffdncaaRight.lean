/-
  Layer 4: may a record be so?
-/
import Derived.Test.YtemnhgmgffdncaaKinds
namespace Go.Proofs.Ytemnhgmgffdncaa
set_option linter.unusedVariables false
set_option linter.unusedSimpArgs false
open Go.RowKit Go.Proofs.YtemnhgmgffdncaaW.PrintWords Go.Proofs.YtemnhgmgffdncaaW.PrintMore
attribute [local go_sem] max2_int

/-- What a record's rows hold. -/
structure RecIn (W : World) (B : Nat) (LA : Option Addr) (lc : Nat) (ls : List Loc3) (A : Option Addr) (c : Nat) (bs : List Int) : Prop where
  locs : LowL W B LA ls
  lcap : ls.length ≤ lc
  bytes : Low W B A bs.length bs
  bcap : bs.length ≤ c
theorem RecIn.grows {W W' : World} {B : Nat} {LA : Option Addr} {lc : Nat} {ls : List Loc3} {A : Option Addr} {c : Nat} {bs : List Int} (h : RecIn W B LA lc ls A c bs) (hg : Grows W W') : RecIn W' B LA lc ls A c bs :=
  ⟨h.locs.keep (fun k _ hk => hg.block k hk), h.lcap, h.bytes.keep (fun k _ hk => hg.block k hk), h.bcap⟩
def s39 (x : Loc3) : PRecTells.S39 := ⟨x.1, x.2.1, x.2.2⟩
theorem LowL.kd {W : World} {B : Nat} {LA : Option Addr} {ls : List Loc3} (h : LowL W B LA ls) : Kd.C PRecTells.k39 W LA (ls.map s39).length (ls.map s39) := by
  refine ⟨rfl, by rw [List.length_map]; exact h.len, fun hn => ?_⟩
  rw [List.length_map] at hn
  obtain ⟨ad, e, _, hc⟩ := h.cells hn
  refine ⟨ad, e, fun j p hp => ?_⟩
  rw [List.getElem?_map] at hp
  obtain ⟨x, hx, rfl⟩ := Option.map_eq_some_iff.1 hp
  obtain ⟨h0, h1, h2⟩ := hc j x hx
  refine ⟨_, rfl, PRecTells.k39.K_of_M (PRecTells.k39_mkM W 0 (fun _ => True) (s39 x)), fun i u hu => ?_⟩
  match i, hu with
  | 0, hu => injection hu with hu; subst hu; exact h0
  | 1, hu => injection hu with hu; subst hu; rw [show PRecTells.k39.sz = 3 from rfl, add_field _ _ 1 (by omega)]; exact h1
  | 2, hu => injection hu with hu; subst hu; rw [show PRecTells.k39.sz = 3 from rfl, add_field _ _ 2 (by omega)]; exact h2
theorem bytes_kd {W : World} {A : Option Addr} {bs : List Int} (h : ReadsInt W .u8 A bs.length bs) : Kd.C (Kd.int .u8) W A bs.length bs := by
  refine ⟨rfl, h.2.1, fun hn => ?_⟩
  obtain ⟨ad, e, hc⟩ := h.2.2 hn
  refine ⟨ad, e, fun j p hp => ?_⟩
  obtain ⟨hj, hp⟩ := List.getElem?_eq_some_iff.1 hp
  refine ⟨[.int .u8 p], rfl, rfl, fun i u hu => ?_⟩
  match i, hu with
  | 0, hu =>
    injection hu with hu
    subst hu
    have := hc j hj
    rw [List.getD_eq_getElem?_getD, List.getElem?_eq_getElem hj, hp] at this
    show W.cell? (ad.add (j * 1 + 0)) = _
    rw [Nat.mul_one, Nat.add_zero]
    exact this
def bareB (key key' : ByteArray) (id id' no no' size size' : Int) (nl nl' nb nb' : Nat) : Bool :=
  decide (key.toList = key'.toList ∧ id = id' ∧ no = no' ∧ size = size' ∧ nl = nl' ∧ nb = nb')
theorem bare_f (k0 k0' : Int) (key key' : ByteArray) (id id' no no' size size' : Int) (l l' : List PRecTells.S39) (b b' : List Int) :
    PRecTells.rec_bare.f k0 key id no size l b k0' key' id' no' size' l' b' = some (bareB key key' id id' no no' size size' l.length l'.length b.length b'.length) := by
  unfold PRecTells.rec_bare.f bareB
  by_cases h1 : key.toList = key'.toList
  · rw [if_pos h1]
    by_cases h2 : id = id'
    · rw [if_pos h2]
      by_cases h3 : no = no'
      · rw [if_pos h3]
        by_cases h4 : size = size'
        · rw [if_pos h4]
          by_cases h5 : (l.length : Int) = (l'.length : Int)
          · rw [if_pos h5]
            by_cases h6 : b.length = b'.length
            · rw [decide_eq_true (show _ from ⟨h1, h2, h3, h4, by omega, h6⟩), h6]; simp
            · rw [decide_eq_false (fun e => h6 e.2.2.2.2.2), beq_eq_false_iff_ne.2 (show ((b.length : Int)) ≠ (b'.length : Int) by omega)]
          · rw [if_neg h5, decide_eq_false (fun e => h5 (by rw [e.2.2.2.2.1]))]
        · rw [if_neg h4, decide_eq_false (fun e => h4 e.2.2.2.1)]
      · rw [if_neg h3, decide_eq_false (fun e => h3 e.2.2.1)]
    · rw [if_neg h2, decide_eq_false (fun e => h2 e.2.1)]
  · rw [if_neg h1, decide_eq_false (fun e => h1 e.1)]
theorem bare_calls {B B' : Nat} (k0 k0' : Int) (key key' : ByteArray) (id id' no no' size size' : Int) (LA LA' : Option Addr) (lc lc' : Nat) (ls ls' : List Loc3) (A A' : Option Addr) (c c' : Nat) (bs bs' : List Int) (w : World)
    (h : RecIn w B LA lc ls A c bs) (h' : RecIn w B' LA' lc' ls' A' c' bs') :
    Calls Try.prog 23 #[recV k0 key id no size (.slice LA ls.length lc) (.slice A bs.length c), recV k0' key' id' no' size' (.slice LA' ls'.length lc') (.slice A' bs'.length c')] w fun e w' => e = .returned (.bool (bareB key key' id id' no no' size size' ls.length ls'.length bs.length bs'.length)) ∧ Grows w w' := by
  have hb := PRecTells.rec_bare.calls k0 key id no size LA lc (ls.map s39) A c bs k0' key' id' no' size' LA' lc' (ls'.map s39) A' c' bs' _ w h.locs.kd (by rw [List.length_map]; exact h.lcap) (bytes_kd h.bytes.rd) h.bcap h'.locs.kd (by rw [List.length_map]; exact h'.lcap) (bytes_kd h'.bytes.rd) h'.bcap (bare_f _ _ _ _ _ _ _ _ _ _ _ _ _ _)
  rw [List.length_map, List.length_map] at hb
  exact hb
theorem RecIn.nilL {W : World} {B : Nat} {A : Option Addr} {c : Nat} {bs : List Int} (h : Low W B A bs.length bs) (hc : bs.length ≤ c) : RecIn W B none 0 [] A c bs :=
  ⟨⟨by decide, fun h => absurd h (by decide)⟩, Nat.le_refl _, h, hc⟩
theorem low_nil (W : World) (B : Nat) : Low W B none 0 [] := ⟨ReadsInt.nil W .u8, fun h => absurd h (by decide)⟩
theorem RecIn.nilB {W : World} {B : Nat} {LA : Option Addr} {lc : Nat} {ls : List Loc3} (h : LowL W B LA ls) (hc : ls.length ≤ lc) : RecIn W B LA lc ls none 0 [] := ⟨h, hc, low_nil W B, Nat.le_refl _⟩
theorem KeepF.grows {w w' : World} (h : KeepS (fun _ => False) w w') : Grows w w' := ⟨h.os, h.tape, h.output, h.size, fun k hk => h.block k hk (fun e => e)⟩
/-- What a kind's functions answer of a record. -/
structure KindIs (w : World) (f0 f1 : FuncId) (kind : Int) (key : ByteArray) (id no size : Int) (vL vB : Value) (hv : Value) (b2 b3 : Bool) : Prop where
  fine : ∀ w1 g, Grows w w1 → RecIs w1 g kind key id no size vL vB → Calls Try.prog f0 #[.pointer (some ⟨g, 0, none⟩)] w1 fun e w' => e = .returned (.bool b3) ∧ Grows w1 w'
  has : ∀ w1 g, Grows w w1 → RecIs w1 g kind key id no size vL vB → Calls Try.prog f1 #[.pointer (some ⟨g, 0, none⟩)] w1 fun e w' => e = .returned hv ∧ Grows w1 w'
  cfine : ∀ (p : Value) (w1 : World), (callFunc f0 #[p]).run Try.prog w1 = .ok (.enter f0 #[p]) w1
  chas : ∀ (p : Value) (w1 : World), (callFunc f1 #[p]).run Try.prog w1 = .ok (.enter f1 #[p]) w1
  bare : ∀ w1, Grows w w1 → Calls Try.prog 23 #[recV kind key id no size vL vB, hv] w1 fun e w' => e = .returned (.bool b2) ∧ Grows w1 w'
set_option maxRecDepth 100000 in
set_option maxHeartbeats 4000000 in
theorem right_no (kind : Int) (key : ByteArray) (id no size : Int) (LA : Option Addr) (lc : Nat) (ls : List Loc3) (A : Option Addr) (c : Nat) (bs : List Int) (w : World) (hkd : kindAt kind = (noKind, false)) (hki : True) :
    Calls Try.prog 13 #[recV kind key id no size (.slice LA ls.length lc) (.slice A bs.length c)] w fun e w' => e = .returned (.bool false) ∧ Grows w w' := by
  have HK1 := Aside0.mk hkd
  have HKI := Aside0.mk hki
  clear hkd hki
  unfold recV recCells
  go_enter Try.func13, Try.ntmps13
  go_upto_region 1 with fail
  have HG1 := Aside0.mk (show Grows w _ from (Below.refl w.heap.size w).alloc (Nat.le_refl _) (.cells #[.int .i64 kind, .string key, .int .i64 id, .int .i64 no, .int .i64 size, .slice LA ls.length lc, .slice A bs.length c] 25))
  have HQ1 := Aside0.mk (show RecT 25 _ _ kind key id no size (.slice LA ls.length lc) (.slice A bs.length c) from heap_alloc_new w (.cells #[.int .i64 kind, .string key, .int .i64 id, .int .i64 no, .int .i64 size, .slice LA ls.length lc, .slice A bs.length c] 25))
  generalize w.alloc (.cells #[.int .i64 kind, .string key, .int .i64 id, .int .i64 no, .int .i64 size, .slice LA ls.length lc, .slice A bs.length c] 25) = w1 at HG1 HQ1 ⊢
  generalize w.heap.size = q at HQ1 ⊢
  apply wp_region_phase (GrowsN 45) (KeepN (fun t => t = 45) w1.heap.size) (growsN_phase _ _) (NoBox w1.heap.size 45) (NoBox.start w1 45) (fun _ _ k h => h.grows k) (hm := by kernel_rfl) (hB := by kernel_rfl)
  case h =>
    apply phase_free (G := (fun v W => ∃ m, v = .map (some m) ∧ KindsAt W m))
    case hw => simp [Region.wanted, yielded]
    case ho =>
      intro w' hk hf
      clear hf
      refine ⟨?_⟩
      go_simp
      exact (kinds_calls w').mono fun e w2 h => h.elim fun m h => ⟨_, h.1, h.2.2, m, rfl, h.2.1⟩
    case hm => exact fun v a c h hk => h.elim fun m h => ⟨m, h.1, hk.block m _ h.2 (.inr fun cs t e => by cases e)⟩
    intro v7
    simp only [Act.put, List.setIfInBounds_toArray, List.set_cons_zero, List.set_cons_succ]
    iterate 1
      apply phase_fixed
      case hw => simp [Region.wanted, yielded]
      case ho =>
        intro w' hk hf
        clear hf
        refine ⟨?_⟩
        go_simp
        exact ⟨GrowsN.refl _ _, rfl⟩
      simp only [Act.put, List.setIfInBounds_toArray, List.set_cons_zero, List.set_cons_succ]
    apply phase_fixed (c := .int .i64 kind)
    case hw => simp [Region.wanted, yielded]
    case ho =>
      intro w' hk hf
      clear hf
      have kc := (show RecT 25 w' q kind key id no size (.slice LA ls.length lc) (.slice A bs.length c) from hk.block q _ HQ1.out (.inl HQ1.out.lt)).c0
      refine ⟨?_⟩
      go_simp
      exact ⟨GrowsN.refl _ _, rfl⟩
    simp only [Act.put, List.setIfInBounds_toArray, List.set_cons_zero, List.set_cons_succ]
    apply phase_fixed (c := .tuple #[.agg noKind, .bool false])
    case hw => simp [Region.wanted, yielded]
    case ho =>
      intro w' hk hf
      obtain ⟨m, e7, hm⟩ : ∃ m, v7 = .map (some m) ∧ KindsAt w' m := hf _ (List.Mem.head _) (by kernel_rfl)
      clear hf
      subst e7
      have hlk := run_look w' m kind hm
      rw [HK1.out] at hlk
      refine ⟨?_⟩
      go_simp
      exact ⟨GrowsN.refl _ _, rfl⟩
    simp only [Act.put, List.setIfInBounds_toArray, List.set_cons_zero, List.set_cons_succ]
    iterate 3
      apply phase_fixed
      case hw => simp [Region.wanted, yielded]
      case ho =>
        intro w' hk hf
        clear hf
        refine ⟨?_⟩
        go_simp
        exact ⟨GrowsN.refl _ _, rfl⟩
      simp only [Act.put, List.setIfInBounds_toArray, List.set_cons_zero, List.set_cons_succ]
    apply phase_turn_free (G := (Box w1.heap.size 45 4)) (J := (fun v W => OneBox w1.heap.size 45 #[.nilFunc, .nilFunc, .nilFunc, .nilFunc] W))
    case hw => simp [Region.wanted, yielded]
    case ho =>
      intro w' hk hf hI
      clear hf
      have HI := Aside0.mk hI
      clear hI
      refine ⟨?_⟩
      go_simp
      exact ⟨KeepN.of_grows ((Below.refl _ _).alloc (Nat.le_refl _) _), (HI.out.alloc _).1, (HI.out.alloc _).2⟩
    case hJ => exact fun v a c h hh => hh.grows h
    case hm => exact fun v a c h hk => h.keep hk
    intro v3
    simp only [Act.put, List.setIfInBounds_toArray, List.set_cons_zero, List.set_cons_succ]
    apply phase_turn (c := undef) (J := OneBox w1.heap.size 45 noKind)
    case hw => simp [Region.wanted, yielded]
    case ho =>
      intro w' hk hf hI
      obtain ⟨q3, e3, hq3, cs3, hc3, hs3⟩ : Box w1.heap.size 45 4 v3 w' := hf _ (List.Mem.head _) (by kernel_rfl)
      clear hf
      subst e3
      exact growAt_store_row 45 (.tmp 3) (.tmp 11) rfl q3 noKind rfl rfl 45 cs3 hc3 (by kernel_rfl) (by rw [hs3]; rfl) (by simp [noKind, Value.oneCell']) ⟨KeepN.setRow _ hc3 (by rw [hs3]; rfl) hq3 rfl, hI.setRow _ hq3 hc3, rfl⟩
    case hJ => exact fun a c h hh => hh.grows h
    simp only [Act.put, List.setIfInBounds_toArray, List.set_cons_zero, List.set_cons_succ]
    iterate 1
      apply phase_fixed
      case hw => simp [Region.wanted, yielded]
      case ho =>
        intro w' hk hf
        clear hf
        refine ⟨?_⟩
        go_simp
        exact ⟨GrowsN.refl _ _, rfl⟩
      simp only [Act.put, List.setIfInBounds_toArray, List.set_cons_zero, List.set_cons_succ]
    refine phase_nil (fun w5 hk5 hI hf5 => ?_)
    obtain ⟨q3, e3, hq3, hc3⟩ := hI.full (hf5 _ (List.Mem.head _))
    clear hI hf5
    subst e3
    have hg5 : Grows w1 w5 := hk5.below (Nat.le_refl _)
    have HG5 := Aside0.mk (HG1.out.trans hg5)
    have HQ5 := Aside0.mk (HQ1.out.grows hg5)
    have HC5 := Aside0.mk hc3
    clear hk5 hg5 hc3 hq3
    have d0 := HQ5.out.c0; have d1 := HQ5.out.c1; have d2 := HQ5.out.c2; have d3 := HQ5.out.c3; have d4 := HQ5.out.c4; have d5 := HQ5.out.c5; have d6 := HQ5.out.c6
    go_upto_region 3 with fail
    clear d0 d1 d2 d3 d4 d5 d6
    have hg6 := (show Grows w5 _ from (Below.refl w5.heap.size w5).alloc (Nat.le_refl _) (.cells #[.int .i64 kind, .string key, .int .i64 id, .int .i64 no, .int .i64 size, .slice LA ls.length lc, .slice A bs.length c] 49))
    have HR6 := Aside0.mk (show RecIs _ _ kind key id no size (.slice LA ls.length lc) (.slice A bs.length c) from heap_alloc_new w5 (.cells #[.int .i64 kind, .string key, .int .i64 id, .int .i64 no, .int .i64 size, .slice LA ls.length lc, .slice A bs.length c] 49))
    have HQ6 := Aside0.mk (HQ5.out.grows hg6)
    have HC6 := Aside0.mk ((hg6.block q3 (lt_heap HC5.out)).trans HC5.out)
    have HG6 := Aside0.mk (HG5.out.trans hg6)
    clear hg6
    generalize w5.alloc (.cells #[.int .i64 kind, .string key, .int .i64 id, .int .i64 no, .int .i64 size, .slice LA ls.length lc, .slice A bs.length c] 49) = w6 at HG6 HR6 HQ6 HC6 ⊢
    generalize w5.heap.size = q5 at HR6 ⊢
    apply wp_region_phase Grows (KeepS (fun _ => False)) (phaseK _) (fun _ => True) trivial (fun _ _ _ h => h) (hm := by kernel_rfl) (hB := by kernel_rfl)
    case h =>
      iterate 2
        apply phase_fixed
        case hw => simp [Region.wanted, yielded]
        case ho =>
          intro w' hk hf
          clear hf
          refine ⟨?_⟩
          go_simp
          exact ⟨Grows.refl _, rfl⟩
        simp only [Act.put, List.setIfInBounds_toArray, List.set_cons_zero, List.set_cons_succ]
      iterate 3
        apply phase_skip
        case hw => simp [Region.wanted, yielded]
        simp only [Act.put, List.setIfInBounds_toArray, List.set_cons_zero, List.set_cons_succ]
      iterate 2
        apply phase_fixed
        case hw => simp [Region.wanted, yielded]
        case ho =>
          intro w' hk hf
          clear hf
          refine ⟨?_⟩
          go_simp
          exact ⟨Grows.refl _, rfl⟩
        simp only [Act.put, List.setIfInBounds_toArray, List.set_cons_zero, List.set_cons_succ]
      iterate 5
        apply phase_skip
        case hw => simp [Region.wanted, yielded]
        simp only [Act.put, List.setIfInBounds_toArray, List.set_cons_zero, List.set_cons_succ]
      iterate 2
        apply phase_fixed
        case hw => simp [Region.wanted, yielded]
        case ho =>
          intro w' hk hf
          clear hf
          refine ⟨?_⟩
          go_simp
          exact ⟨Grows.refl _, rfl⟩
        simp only [Act.put, List.setIfInBounds_toArray, List.set_cons_zero, List.set_cons_succ]
      iterate 3
        apply phase_skip
        case hw => simp [Region.wanted, yielded]
        simp only [Act.put, List.setIfInBounds_toArray, List.set_cons_zero, List.set_cons_succ]
      iterate 2
        apply phase_fixed
        case hw => simp [Region.wanted, yielded]
        case ho =>
          intro w' hk hf
          clear hf
          refine ⟨?_⟩
          go_simp
          exact ⟨Grows.refl _, rfl⟩
        simp only [Act.put, List.setIfInBounds_toArray, List.set_cons_zero, List.set_cons_succ]
      refine phase_nil (fun w7 hk7 hI _ => ?_)
      have HG7 := Aside0.mk (HG6.out.trans (KeepF.grows hk7))
      clear hk7
      go_wp2
      go_ret
      exact ⟨by first | rfl | (cases b3 <;> rfl), HG7.out⟩
    case ht => kernel_rfl
  case ht => kernel_rfl
set_option maxRecDepth 100000 in
set_option maxHeartbeats 4000000 in
theorem right_yes (kind : Int) (key : ByteArray) (id no size : Int) (LA : Option Addr) (lc : Nat) (ls : List Loc3) (A : Option Addr) (c : Nat) (bs : List Int) (w : World) (f0 f1 f2 f3 : FuncId) (hv : Value) (b1 b2 b3 : Bool) (hkd : kindAt kind = (#[.func (.func f0) #[] #[], .func (.func f1) #[] #[], .func (.func f2) #[] #[], .func (.func f3) #[] #[]], true)) (hw : WinIs id 0 1099511627776 b1) (hki : KindIs w f0 f1 kind key id no size (.slice LA ls.length lc) (.slice A bs.length c) hv b2 b3) :
    Calls Try.prog 13 #[recV kind key id no size (.slice LA ls.length lc) (.slice A bs.length c)] w fun e w' => e = .returned (.bool (b1 && (b2 && b3))) ∧ Grows w w' := by
  have HW := Aside0.mk hw
  clear hw
  have HK1 := Aside0.mk hkd
  have HKI := Aside0.mk hki
  clear hkd hki
  unfold recV recCells
  go_enter Try.func13, Try.ntmps13
  go_upto_region 1 with fail
  have HG1 := Aside0.mk (show Grows w _ from (Below.refl w.heap.size w).alloc (Nat.le_refl _) (.cells #[.int .i64 kind, .string key, .int .i64 id, .int .i64 no, .int .i64 size, .slice LA ls.length lc, .slice A bs.length c] 25))
  have HQ1 := Aside0.mk (show RecT 25 _ _ kind key id no size (.slice LA ls.length lc) (.slice A bs.length c) from heap_alloc_new w (.cells #[.int .i64 kind, .string key, .int .i64 id, .int .i64 no, .int .i64 size, .slice LA ls.length lc, .slice A bs.length c] 25))
  generalize w.alloc (.cells #[.int .i64 kind, .string key, .int .i64 id, .int .i64 no, .int .i64 size, .slice LA ls.length lc, .slice A bs.length c] 25) = w1 at HG1 HQ1 ⊢
  generalize w.heap.size = q at HQ1 ⊢
  apply wp_region_phase (GrowsN 45) (KeepN (fun t => t = 45) w1.heap.size) (growsN_phase _ _) (NoBox w1.heap.size 45) (NoBox.start w1 45) (fun _ _ k h => h.grows k) (hm := by kernel_rfl) (hB := by kernel_rfl)
  case h =>
    apply phase_free (G := (fun v W => ∃ m, v = .map (some m) ∧ KindsAt W m))
    case hw => simp [Region.wanted, yielded]
    case ho =>
      intro w' hk hf
      clear hf
      refine ⟨?_⟩
      go_simp
      exact (kinds_calls w').mono fun e w2 h => h.elim fun m h => ⟨_, h.1, h.2.2, m, rfl, h.2.1⟩
    case hm => exact fun v a c h hk => h.elim fun m h => ⟨m, h.1, hk.block m _ h.2 (.inr fun cs t e => by cases e)⟩
    intro v7
    simp only [Act.put, List.setIfInBounds_toArray, List.set_cons_zero, List.set_cons_succ]
    iterate 1
      apply phase_fixed
      case hw => simp [Region.wanted, yielded]
      case ho =>
        intro w' hk hf
        clear hf
        refine ⟨?_⟩
        go_simp
        exact ⟨GrowsN.refl _ _, rfl⟩
      simp only [Act.put, List.setIfInBounds_toArray, List.set_cons_zero, List.set_cons_succ]
    apply phase_fixed (c := .int .i64 kind)
    case hw => simp [Region.wanted, yielded]
    case ho =>
      intro w' hk hf
      clear hf
      have kc := (show RecT 25 w' q kind key id no size (.slice LA ls.length lc) (.slice A bs.length c) from hk.block q _ HQ1.out (.inl HQ1.out.lt)).c0
      refine ⟨?_⟩
      go_simp
      exact ⟨GrowsN.refl _ _, rfl⟩
    simp only [Act.put, List.setIfInBounds_toArray, List.set_cons_zero, List.set_cons_succ]
    apply phase_fixed (c := .tuple #[.agg #[.func (.func f0) #[] #[], .func (.func f1) #[] #[], .func (.func f2) #[] #[], .func (.func f3) #[] #[]], .bool true])
    case hw => simp [Region.wanted, yielded]
    case ho =>
      intro w' hk hf
      obtain ⟨m, e7, hm⟩ : ∃ m, v7 = .map (some m) ∧ KindsAt w' m := hf _ (List.Mem.head _) (by kernel_rfl)
      clear hf
      subst e7
      have hlk := run_look w' m kind hm
      rw [HK1.out] at hlk
      refine ⟨?_⟩
      go_simp
      exact ⟨GrowsN.refl _ _, rfl⟩
    simp only [Act.put, List.setIfInBounds_toArray, List.set_cons_zero, List.set_cons_succ]
    iterate 3
      apply phase_fixed
      case hw => simp [Region.wanted, yielded]
      case ho =>
        intro w' hk hf
        clear hf
        refine ⟨?_⟩
        go_simp
        exact ⟨GrowsN.refl _ _, rfl⟩
      simp only [Act.put, List.setIfInBounds_toArray, List.set_cons_zero, List.set_cons_succ]
    apply phase_turn_free (G := (Box w1.heap.size 45 4)) (J := (fun v W => OneBox w1.heap.size 45 #[.nilFunc, .nilFunc, .nilFunc, .nilFunc] W))
    case hw => simp [Region.wanted, yielded]
    case ho =>
      intro w' hk hf hI
      clear hf
      have HI := Aside0.mk hI
      clear hI
      refine ⟨?_⟩
      go_simp
      exact ⟨KeepN.of_grows ((Below.refl _ _).alloc (Nat.le_refl _) _), (HI.out.alloc _).1, (HI.out.alloc _).2⟩
    case hJ => exact fun v a c h hh => hh.grows h
    case hm => exact fun v a c h hk => h.keep hk
    intro v3
    simp only [Act.put, List.setIfInBounds_toArray, List.set_cons_zero, List.set_cons_succ]
    apply phase_turn (c := undef) (J := OneBox w1.heap.size 45 #[.func (.func f0) #[] #[], .func (.func f1) #[] #[], .func (.func f2) #[] #[], .func (.func f3) #[] #[]])
    case hw => simp [Region.wanted, yielded]
    case ho =>
      intro w' hk hf hI
      obtain ⟨q3, e3, hq3, cs3, hc3, hs3⟩ : Box w1.heap.size 45 4 v3 w' := hf _ (List.Mem.head _) (by kernel_rfl)
      clear hf
      subst e3
      exact growAt_store_row 45 (.tmp 3) (.tmp 11) rfl q3 #[.func (.func f0) #[] #[], .func (.func f1) #[] #[], .func (.func f2) #[] #[], .func (.func f3) #[] #[]] rfl rfl 45 cs3 hc3 (by kernel_rfl) (by rw [hs3]; rfl) (by simp [noKind, Value.oneCell']) ⟨KeepN.setRow _ hc3 (by rw [hs3]; rfl) hq3 rfl, hI.setRow _ hq3 hc3, rfl⟩
    case hJ => exact fun a c h hh => hh.grows h
    simp only [Act.put, List.setIfInBounds_toArray, List.set_cons_zero, List.set_cons_succ]
    iterate 1
      apply phase_fixed
      case hw => simp [Region.wanted, yielded]
      case ho =>
        intro w' hk hf
        clear hf
        refine ⟨?_⟩
        go_simp
        exact ⟨GrowsN.refl _ _, rfl⟩
      simp only [Act.put, List.setIfInBounds_toArray, List.set_cons_zero, List.set_cons_succ]
    refine phase_nil (fun w5 hk5 hI hf5 => ?_)
    obtain ⟨q3, e3, hq3, hc3⟩ := hI.full (hf5 _ (List.Mem.head _))
    clear hI hf5
    subst e3
    have hg5 : Grows w1 w5 := hk5.below (Nat.le_refl _)
    have HG5 := Aside0.mk (HG1.out.trans hg5)
    have HQ5 := Aside0.mk (HQ1.out.grows hg5)
    have HC5 := Aside0.mk hc3
    clear hk5 hg5 hc3 hq3
    have d0 := HQ5.out.c0; have d1 := HQ5.out.c1; have d2 := HQ5.out.c2; have d3 := HQ5.out.c3; have d4 := HQ5.out.c4; have d5 := HQ5.out.c5; have d6 := HQ5.out.c6
    go_upto_region 3 with fail
    clear d0 d1 d2 d3 d4 d5 d6
    have hg6 := (show Grows w5 _ from (Below.refl w5.heap.size w5).alloc (Nat.le_refl _) (.cells #[.int .i64 kind, .string key, .int .i64 id, .int .i64 no, .int .i64 size, .slice LA ls.length lc, .slice A bs.length c] 49))
    have HR6 := Aside0.mk (show RecIs _ _ kind key id no size (.slice LA ls.length lc) (.slice A bs.length c) from heap_alloc_new w5 (.cells #[.int .i64 kind, .string key, .int .i64 id, .int .i64 no, .int .i64 size, .slice LA ls.length lc, .slice A bs.length c] 49))
    have HQ6 := Aside0.mk (HQ5.out.grows hg6)
    have HC6 := Aside0.mk ((hg6.block q3 (lt_heap HC5.out)).trans HC5.out)
    have HG6 := Aside0.mk (HG5.out.trans hg6)
    clear hg6
    generalize w5.alloc (.cells #[.int .i64 kind, .string key, .int .i64 id, .int .i64 no, .int .i64 size, .slice LA ls.length lc, .slice A bs.length c] 49) = w6 at HG6 HR6 HQ6 HC6 ⊢
    generalize w5.heap.size = q5 at HR6 ⊢
    cases b1 with
    | false =>
      apply wp_region_phase Grows (KeepS (fun _ => False)) (phaseK _) (fun _ => True) trivial (fun _ _ _ h => h) (hm := by kernel_rfl) (hB := by kernel_rfl)
      case h =>
        iterate 2
          apply phase_fixed
          case hw => simp [Region.wanted, yielded]
          case ho =>
            intro w' hk hf
            clear hf
            refine ⟨?_⟩
            go_simp
            exact ⟨Grows.refl _, rfl⟩
          simp only [Act.put, List.setIfInBounds_toArray, List.set_cons_zero, List.set_cons_succ]
        iterate 1
          apply phase_fixed
          case hw => simp [Region.wanted, yielded]
          case ho =>
            intro w' hk hf
            clear hf
            refine ⟨?_⟩
            go_simp
            exact ⟨Grows.refl _, rfl⟩
          simp only [Act.put, List.setIfInBounds_toArray, List.set_cons_zero, List.set_cons_succ]
        apply phase_fixed (c := .int .i64 id)
        case hw => simp [Region.wanted, yielded]
        case ho =>
          intro w' hk hf
          clear hf
          have hgr := KeepF.grows hk
          have kq := HQ6.out.grows hgr
          have kk := kq.c2
          clear kq hgr
          refine ⟨?_⟩
          go_simp
          exact ⟨Grows.refl _, rfl⟩
        simp only [Act.put, List.setIfInBounds_toArray, List.set_cons_zero, List.set_cons_succ]
        apply phase_fixed (c := .bool false)
        case hw => simp [Region.wanted, yielded]
        case ho =>
          intro w' hk hf
          clear hf
          refine ⟨?_⟩
          go_simp
          exact (HW.out.run w').mono fun e w2 h => ⟨_, h.1, h.2, rfl⟩
        simp only [Act.put, List.setIfInBounds_toArray, List.set_cons_zero, List.set_cons_succ]
        iterate 2
          apply phase_fixed
          case hw => simp [Region.wanted, yielded]
          case ho =>
            intro w' hk hf
            clear hf
            refine ⟨?_⟩
            go_simp
            exact ⟨Grows.refl _, rfl⟩
          simp only [Act.put, List.setIfInBounds_toArray, List.set_cons_zero, List.set_cons_succ]
        iterate 5
          apply phase_skip
          case hw => simp [Region.wanted, yielded]
          simp only [Act.put, List.setIfInBounds_toArray, List.set_cons_zero, List.set_cons_succ]
        iterate 2
          apply phase_fixed
          case hw => simp [Region.wanted, yielded]
          case ho =>
            intro w' hk hf
            clear hf
            refine ⟨?_⟩
            go_simp
            exact ⟨Grows.refl _, rfl⟩
          simp only [Act.put, List.setIfInBounds_toArray, List.set_cons_zero, List.set_cons_succ]
        iterate 3
          apply phase_skip
          case hw => simp [Region.wanted, yielded]
          simp only [Act.put, List.setIfInBounds_toArray, List.set_cons_zero, List.set_cons_succ]
        iterate 2
          apply phase_fixed
          case hw => simp [Region.wanted, yielded]
          case ho =>
            intro w' hk hf
            clear hf
            refine ⟨?_⟩
            go_simp
            exact ⟨Grows.refl _, rfl⟩
          simp only [Act.put, List.setIfInBounds_toArray, List.set_cons_zero, List.set_cons_succ]
        refine phase_nil (fun w7 hk7 hI _ => ?_)
        have HG7 := Aside0.mk (HG6.out.trans (KeepF.grows hk7))
        clear hk7
        go_wp2
        go_ret
        exact ⟨by first | rfl | (cases b3 <;> rfl), HG7.out⟩
      case ht => kernel_rfl
    | true =>
      cases b2 with
      | false =>
        apply wp_region_phase Grows (KeepS (fun _ => False)) (phaseK _) (fun _ => True) trivial (fun _ _ _ h => h) (hm := by kernel_rfl) (hB := by kernel_rfl)
        case h =>
          iterate 2
            apply phase_fixed
            case hw => simp [Region.wanted, yielded]
            case ho =>
              intro w' hk hf
              clear hf
              refine ⟨?_⟩
              go_simp
              exact ⟨Grows.refl _, rfl⟩
            simp only [Act.put, List.setIfInBounds_toArray, List.set_cons_zero, List.set_cons_succ]
          iterate 1
            apply phase_fixed
            case hw => simp [Region.wanted, yielded]
            case ho =>
              intro w' hk hf
              clear hf
              refine ⟨?_⟩
              go_simp
              exact ⟨Grows.refl _, rfl⟩
            simp only [Act.put, List.setIfInBounds_toArray, List.set_cons_zero, List.set_cons_succ]
          apply phase_fixed (c := .int .i64 id)
          case hw => simp [Region.wanted, yielded]
          case ho =>
            intro w' hk hf
            clear hf
            have hgr := KeepF.grows hk
            have kq := HQ6.out.grows hgr
            have kk := kq.c2
            clear kq hgr
            refine ⟨?_⟩
            go_simp
            exact ⟨Grows.refl _, rfl⟩
          simp only [Act.put, List.setIfInBounds_toArray, List.set_cons_zero, List.set_cons_succ]
          apply phase_fixed (c := .bool true)
          case hw => simp [Region.wanted, yielded]
          case ho =>
            intro w' hk hf
            clear hf
            refine ⟨?_⟩
            go_simp
            exact (HW.out.run w').mono fun e w2 h => ⟨_, h.1, h.2, rfl⟩
          simp only [Act.put, List.setIfInBounds_toArray, List.set_cons_zero, List.set_cons_succ]
          iterate 2
            apply phase_fixed
            case hw => simp [Region.wanted, yielded]
            case ho =>
              intro w' hk hf
              clear hf
              refine ⟨?_⟩
              go_simp
              exact ⟨Grows.refl _, rfl⟩
            simp only [Act.put, List.setIfInBounds_toArray, List.set_cons_zero, List.set_cons_succ]
          apply phase_fixed (c := recV kind key id no size (.slice LA ls.length lc) (.slice A bs.length c))
          case hw => simp [Region.wanted, yielded]
          case ho =>
            intro w' hk hf
            clear hf
            have hgr := KeepF.grows hk
            have kr := HR6.out.grows hgr
            exact growAt_load_row 49 (.tmp 5) rfl q5 rfl 49 _ (0, 0) _ kr.blk Try.underlying49 rfl (by kernel_rfl) ⟨Grows.refl _, rfl⟩
          simp only [Act.put, List.setIfInBounds_toArray, List.set_cons_zero, List.set_cons_succ]
          iterate 1
            apply phase_fixed
            case hw => simp [Region.wanted, yielded]
            case ho =>
              intro w' hk hf
              clear hf
              refine ⟨?_⟩
              go_simp
              exact ⟨Grows.refl _, rfl⟩
            simp only [Act.put, List.setIfInBounds_toArray, List.set_cons_zero, List.set_cons_succ]
          apply phase_fixed (c := .func (.func f1) #[] #[])
          case hw => simp [Region.wanted, yielded]
          case ho =>
            intro w' hk hf
            clear hf
            have hgr := KeepF.grows hk
            have kc3 := (hgr.block q3 (lt_heap HC6.out)).trans HC6.out
            have kk := cell_of_row w' q3 1 _ 45 (0, 0) kc3
            clear kc3 hgr
            refine ⟨?_⟩
            go_simp
            exact ⟨Grows.refl _, rfl⟩
          simp only [Act.put, List.setIfInBounds_toArray, List.set_cons_zero, List.set_cons_succ]
          apply phase_fixed (c := hv)
          case hw => simp [Region.wanted, yielded]
          case ho =>
            intro w' hk hf
            clear hf
            have hgr := KeepF.grows hk
            have kr := HR6.out.grows hgr
            refine ⟨?_⟩
            go_simp
            rw [HKI.out.chas]
            exact (HKI.out.has w' q5 (HG6.out.trans hgr) kr).mono fun e w2 h => ⟨_, h.1, h.2, rfl⟩
          simp only [Act.put, List.setIfInBounds_toArray, List.set_cons_zero, List.set_cons_succ]
          apply phase_fixed (c := .bool false)
          case hw => simp [Region.wanted, yielded]
          case ho =>
            intro w' hk hf
            clear hf
            have hgr := KeepF.grows hk
            refine ⟨?_⟩
            go_simp
            exact (HKI.out.bare w' (HG6.out.trans hgr)).mono fun e w2 h => ⟨_, h.1, h.2, rfl⟩
          simp only [Act.put, List.setIfInBounds_toArray, List.set_cons_zero, List.set_cons_succ]
          iterate 2
            apply phase_fixed
            case hw => simp [Region.wanted, yielded]
            case ho =>
              intro w' hk hf
              clear hf
              refine ⟨?_⟩
              go_simp
              exact ⟨Grows.refl _, rfl⟩
            simp only [Act.put, List.setIfInBounds_toArray, List.set_cons_zero, List.set_cons_succ]
          iterate 3
            apply phase_skip
            case hw => simp [Region.wanted, yielded]
            simp only [Act.put, List.setIfInBounds_toArray, List.set_cons_zero, List.set_cons_succ]
          iterate 2
            apply phase_fixed
            case hw => simp [Region.wanted, yielded]
            case ho =>
              intro w' hk hf
              clear hf
              refine ⟨?_⟩
              go_simp
              exact ⟨Grows.refl _, rfl⟩
            simp only [Act.put, List.setIfInBounds_toArray, List.set_cons_zero, List.set_cons_succ]
          refine phase_nil (fun w7 hk7 hI _ => ?_)
          have HG7 := Aside0.mk (HG6.out.trans (KeepF.grows hk7))
          clear hk7
          go_wp2
          go_ret
          exact ⟨by first | rfl | (cases b3 <;> rfl), HG7.out⟩
        case ht => kernel_rfl
      | true =>
        apply wp_region_phase Grows (KeepS (fun _ => False)) (phaseK _) (fun _ => True) trivial (fun _ _ _ h => h) (hm := by kernel_rfl) (hB := by kernel_rfl)
        case h =>
          iterate 2
            apply phase_fixed
            case hw => simp [Region.wanted, yielded]
            case ho =>
              intro w' hk hf
              clear hf
              refine ⟨?_⟩
              go_simp
              exact ⟨Grows.refl _, rfl⟩
            simp only [Act.put, List.setIfInBounds_toArray, List.set_cons_zero, List.set_cons_succ]
          iterate 1
            apply phase_fixed
            case hw => simp [Region.wanted, yielded]
            case ho =>
              intro w' hk hf
              clear hf
              refine ⟨?_⟩
              go_simp
              exact ⟨Grows.refl _, rfl⟩
            simp only [Act.put, List.setIfInBounds_toArray, List.set_cons_zero, List.set_cons_succ]
          apply phase_fixed (c := .int .i64 id)
          case hw => simp [Region.wanted, yielded]
          case ho =>
            intro w' hk hf
            clear hf
            have hgr := KeepF.grows hk
            have kq := HQ6.out.grows hgr
            have kk := kq.c2
            clear kq hgr
            refine ⟨?_⟩
            go_simp
            exact ⟨Grows.refl _, rfl⟩
          simp only [Act.put, List.setIfInBounds_toArray, List.set_cons_zero, List.set_cons_succ]
          apply phase_fixed (c := .bool true)
          case hw => simp [Region.wanted, yielded]
          case ho =>
            intro w' hk hf
            clear hf
            refine ⟨?_⟩
            go_simp
            exact (HW.out.run w').mono fun e w2 h => ⟨_, h.1, h.2, rfl⟩
          simp only [Act.put, List.setIfInBounds_toArray, List.set_cons_zero, List.set_cons_succ]
          iterate 2
            apply phase_fixed
            case hw => simp [Region.wanted, yielded]
            case ho =>
              intro w' hk hf
              clear hf
              refine ⟨?_⟩
              go_simp
              exact ⟨Grows.refl _, rfl⟩
            simp only [Act.put, List.setIfInBounds_toArray, List.set_cons_zero, List.set_cons_succ]
          apply phase_fixed (c := recV kind key id no size (.slice LA ls.length lc) (.slice A bs.length c))
          case hw => simp [Region.wanted, yielded]
          case ho =>
            intro w' hk hf
            clear hf
            have hgr := KeepF.grows hk
            have kr := HR6.out.grows hgr
            exact growAt_load_row 49 (.tmp 5) rfl q5 rfl 49 _ (0, 0) _ kr.blk Try.underlying49 rfl (by kernel_rfl) ⟨Grows.refl _, rfl⟩
          simp only [Act.put, List.setIfInBounds_toArray, List.set_cons_zero, List.set_cons_succ]
          iterate 1
            apply phase_fixed
            case hw => simp [Region.wanted, yielded]
            case ho =>
              intro w' hk hf
              clear hf
              refine ⟨?_⟩
              go_simp
              exact ⟨Grows.refl _, rfl⟩
            simp only [Act.put, List.setIfInBounds_toArray, List.set_cons_zero, List.set_cons_succ]
          apply phase_fixed (c := .func (.func f1) #[] #[])
          case hw => simp [Region.wanted, yielded]
          case ho =>
            intro w' hk hf
            clear hf
            have hgr := KeepF.grows hk
            have kc3 := (hgr.block q3 (lt_heap HC6.out)).trans HC6.out
            have kk := cell_of_row w' q3 1 _ 45 (0, 0) kc3
            clear kc3 hgr
            refine ⟨?_⟩
            go_simp
            exact ⟨Grows.refl _, rfl⟩
          simp only [Act.put, List.setIfInBounds_toArray, List.set_cons_zero, List.set_cons_succ]
          apply phase_fixed (c := hv)
          case hw => simp [Region.wanted, yielded]
          case ho =>
            intro w' hk hf
            clear hf
            have hgr := KeepF.grows hk
            have kr := HR6.out.grows hgr
            refine ⟨?_⟩
            go_simp
            rw [HKI.out.chas]
            exact (HKI.out.has w' q5 (HG6.out.trans hgr) kr).mono fun e w2 h => ⟨_, h.1, h.2, rfl⟩
          simp only [Act.put, List.setIfInBounds_toArray, List.set_cons_zero, List.set_cons_succ]
          apply phase_fixed (c := .bool true)
          case hw => simp [Region.wanted, yielded]
          case ho =>
            intro w' hk hf
            clear hf
            have hgr := KeepF.grows hk
            refine ⟨?_⟩
            go_simp
            exact (HKI.out.bare w' (HG6.out.trans hgr)).mono fun e w2 h => ⟨_, h.1, h.2, rfl⟩
          simp only [Act.put, List.setIfInBounds_toArray, List.set_cons_zero, List.set_cons_succ]
          iterate 2
            apply phase_fixed
            case hw => simp [Region.wanted, yielded]
            case ho =>
              intro w' hk hf
              clear hf
              refine ⟨?_⟩
              go_simp
              exact ⟨Grows.refl _, rfl⟩
            simp only [Act.put, List.setIfInBounds_toArray, List.set_cons_zero, List.set_cons_succ]
          iterate 1
            apply phase_fixed
            case hw => simp [Region.wanted, yielded]
            case ho =>
              intro w' hk hf
              clear hf
              refine ⟨?_⟩
              go_simp
              exact ⟨Grows.refl _, rfl⟩
            simp only [Act.put, List.setIfInBounds_toArray, List.set_cons_zero, List.set_cons_succ]
          apply phase_fixed (c := .func (.func f0) #[] #[])
          case hw => simp [Region.wanted, yielded]
          case ho =>
            intro w' hk hf
            clear hf
            have hgr := KeepF.grows hk
            have kc3 := (hgr.block q3 (lt_heap HC6.out)).trans HC6.out
            have kk := cell_of_row w' q3 0 _ 45 (0, 0) kc3
            clear kc3 hgr
            refine ⟨?_⟩
            go_simp
            exact ⟨Grows.refl _, rfl⟩
          simp only [Act.put, List.setIfInBounds_toArray, List.set_cons_zero, List.set_cons_succ]
          apply phase_fixed (c := .bool b3)
          case hw => simp [Region.wanted, yielded]
          case ho =>
            intro w' hk hf
            clear hf
            have hgr := KeepF.grows hk
            have kr := HR6.out.grows hgr
            refine ⟨?_⟩
            go_simp
            rw [HKI.out.cfine]
            exact (HKI.out.fine w' q5 (HG6.out.trans hgr) kr).mono fun e w2 h => ⟨_, h.1, h.2, rfl⟩
          simp only [Act.put, List.setIfInBounds_toArray, List.set_cons_zero, List.set_cons_succ]
          iterate 2
            apply phase_fixed
            case hw => simp [Region.wanted, yielded]
            case ho =>
              intro w' hk hf
              clear hf
              refine ⟨?_⟩
              go_simp
              exact ⟨Grows.refl _, rfl⟩
            simp only [Act.put, List.setIfInBounds_toArray, List.set_cons_zero, List.set_cons_succ]
          refine phase_nil (fun w7 hk7 hI _ => ?_)
          have HG7 := Aside0.mk (HG6.out.trans (KeepF.grows hk7))
          clear hk7
          go_wp2
          go_ret
          exact ⟨by first | rfl | (cases b3 <;> rfl), HG7.out⟩
        case ht => kernel_rfl
  case ht => kernel_rfl
end Go.Proofs.Ytemnhgmgffdncaa

/-
  Layer 4: may a record be so: every kind.
-/
namespace Go.Proofs.Ytemnhgmgffdncaa
set_option linter.unusedVariables false
set_option linter.unusedSimpArgs false
open Go.RowKit Go.Proofs.YtemnhgmgffdncaaW.PrintWords Go.Proofs.YtemnhgmgffdncaaW.PrintMore
attribute [local go_sem] max2_int
def noKey : ByteArray := ⟨#[]⟩
def rightB (kind : Int) (key : ByteArray) (id no size : Int) (ls : List Loc3) (nb : Nat) : Bool :=
  if kind = 1 then withinB id 0 1099511627776 && (bareB key noKey id id no no size 0 ls.length 0 nb nb && (withinB no 0 511 && withinB (nb : Int) 1 4096))
  else if kind = 2 then withinB id 0 1099511627776 && (bareB key key id id no 0 size size ls.length ls.length nb 0 && rootFineB key size ls)
  else if kind = 3 then withinB id 0 1099511627776 && (bareB key key id 0 no 0 size 0 ls.length 0 nb nb && (keyB key && decide ((nb : Int) ≤ 4096)))
  else if kind = 4 then withinB id 0 1099511627776 && (bareB key key id 0 no 0 size 0 ls.length 0 nb 0 && keyB key)
  else false
set_option maxRecDepth 100000 in
theorem kind1 {B : Nat} (key : ByteArray) (id no size : Int) (LA : Option Addr) (lc : Nat) (ls : List Loc3) (A : Option Addr) (c : Nat) (bs : List Int) (w : World) (hin : RecIn w B LA lc ls A c bs) :
    KindIs w 26 27 1 key id no size (.slice LA ls.length lc) (.slice A bs.length c) (recV 0 noKey id no 0 (.slice none 0 0) (.slice A bs.length c)) (bareB key noKey id id no no size 0 ls.length 0 bs.length bs.length) (withinB no 0 511 && withinB (bs.length : Int) 1 4096) where
  fine := fun w1 g hg hr => pieceFine_calls g 1 key id no size _ A bs.length c w1 hr
  has := fun w1 g hg hr => pieceHas_calls g 1 key id no size LA ls.length lc A bs.length c w1 hr
  cfine := fun p w1 => by go_simp
  chas := fun p w1 => by go_simp
  bare := fun w1 hg => bare_calls 1 0 key noKey id id no no size 0 LA none lc 0 ls [] A A c c bs bs w1 (hin.grows hg) (RecIn.nilL (hin.grows hg).bytes hin.bcap)
set_option maxRecDepth 100000 in
theorem kind2 {B : Nat} (key : ByteArray) (id no size : Int) (LA : Option Addr) (lc : Nat) (ls : List Loc3) (A : Option Addr) (c : Nat) (bs : List Int) (w : World) (hin : RecIn w B LA lc ls A c bs) :
    KindIs w 30 31 2 key id no size (.slice LA ls.length lc) (.slice A bs.length c) (recV 0 key id 0 size (.slice LA ls.length lc) (.slice none 0 0)) (bareB key key id id no 0 size size ls.length ls.length bs.length 0) (rootFineB key size ls) where
  fine := fun w1 g hg hr => rootFine_calls g 2 key id no size LA lc ls _ w1 hr (hin.grows hg).locs
  has := fun w1 g hg hr => rootHas_calls g 2 key id no size LA ls.length lc A bs.length c w1 hr
  cfine := fun p w1 => by go_simp
  chas := fun p w1 => by go_simp
  bare := fun w1 hg => bare_calls 2 0 key key id id no 0 size size LA LA lc lc ls ls A none c 0 bs [] w1 (hin.grows hg) (RecIn.nilB (hin.grows hg).locs hin.lcap)
set_option maxRecDepth 100000 in
theorem kind3 {B : Nat} (key : ByteArray) (id no size : Int) (LA : Option Addr) (lc : Nat) (ls : List Loc3) (A : Option Addr) (c : Nat) (bs : List Int) (w : World) (hin : RecIn w B LA lc ls A c bs) :
    KindIs w 34 35 3 key id no size (.slice LA ls.length lc) (.slice A bs.length c) (recV 0 key 0 0 0 (.slice none 0 0) (.slice A bs.length c)) (bareB key key id 0 no 0 size 0 ls.length 0 bs.length bs.length) (keyB key && decide ((bs.length : Int) ≤ 4096)) where
  fine := fun w1 g hg hr => inlineFine_calls g 3 key id no size _ A bs.length c w1 hr
  has := fun w1 g hg hr => inlineHas_calls g 3 key id no size LA ls.length lc A bs.length c w1 hr
  cfine := fun p w1 => by go_simp
  chas := fun p w1 => by go_simp
  bare := fun w1 hg => bare_calls 3 0 key key id 0 no 0 size 0 LA none lc 0 ls [] A A c c bs bs w1 (hin.grows hg) (RecIn.nilL (hin.grows hg).bytes hin.bcap)
set_option maxRecDepth 100000 in
theorem kind4 {B : Nat} (key : ByteArray) (id no size : Int) (LA : Option Addr) (lc : Nat) (ls : List Loc3) (A : Option Addr) (c : Nat) (bs : List Int) (w : World) (hin : RecIn w B LA lc ls A c bs) :
    KindIs w 38 39 4 key id no size (.slice LA ls.length lc) (.slice A bs.length c) (recV 0 key 0 0 0 (.slice none 0 0) (.slice none 0 0)) (bareB key key id 0 no 0 size 0 ls.length 0 bs.length 0) (keyB key) where
  fine := fun w1 g hg hr => tombFine_calls g 4 key id no size _ _ w1 hr
  has := fun w1 g hg hr => tombHas_calls g 4 key id no size LA ls.length lc A bs.length c w1 hr
  cfine := fun p w1 => by go_simp
  chas := fun p w1 => by go_simp
  bare := fun w1 hg => bare_calls 4 0 key key id 0 no 0 size 0 LA none lc 0 ls [] A none c 0 bs [] w1 (hin.grows hg) (RecIn.nilL (low_nil _ B) (Nat.le_refl _))
theorem right_calls {B : Nat} (kind : Int) (key : ByteArray) (id no size : Int) (LA : Option Addr) (lc : Nat) (ls : List Loc3) (A : Option Addr) (c : Nat) (bs : List Int) (w : World) (hin : RecIn w B LA lc ls A c bs) :
    Calls Try.prog 13 #[recV kind key id no size (.slice LA ls.length lc) (.slice A bs.length c)] w fun e w' => e = .returned (.bool (rightB kind key id no size ls bs.length)) ∧ Grows w w' := by
  unfold rightB
  by_cases h1 : kind = 1
  · subst h1
    rw [if_pos rfl]
    exact right_yes 1 key id no size LA lc ls A c bs w 26 27 28 29 _ _ _ _ rfl (win_is _ _ _) (kind1 key id no size LA lc ls A c bs w hin)
  · rw [if_neg h1]
    by_cases h2 : kind = 2
    · subst h2
      rw [if_pos rfl]
      exact right_yes 2 key id no size LA lc ls A c bs w 30 31 32 33 _ _ _ _ rfl (win_is _ _ _) (kind2 key id no size LA lc ls A c bs w hin)
    · rw [if_neg h2]
      by_cases h3 : kind = 3
      · subst h3
        rw [if_pos rfl]
        exact right_yes 3 key id no size LA lc ls A c bs w 34 35 36 37 _ _ _ _ rfl (win_is _ _ _) (kind3 key id no size LA lc ls A c bs w hin)
      · rw [if_neg h3]
        by_cases h4 : kind = 4
        · subst h4
          rw [if_pos rfl]
          exact right_yes 4 key id no size LA lc ls A c bs w 38 39 40 41 _ _ _ _ rfl (win_is _ _ _) (kind4 key id no size LA lc ls A c bs w hin)
        · rw [if_neg h4]
          exact right_no kind key id no size LA lc ls A c bs w (by unfold kindAt; rw [if_neg h1, if_neg h2, if_neg h3, if_neg h4]) trivial
end Go.Proofs.Ytemnhgmgffdncaa
