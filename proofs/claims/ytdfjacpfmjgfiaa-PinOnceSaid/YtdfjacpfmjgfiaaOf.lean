/-
  The law PinOf: what a handle pins is told in order, each once, whatever was handed in twice; it is one's own.
-/
import Derived.Test.YtdfjacpfmjgfiaaAtR
namespace Go.Proofs.Ytdfjacpfmjgfiaa
set_option linter.unusedVariables false
set_option linter.unusedSimpArgs false
open Go.Shelf Go.RowKit Go.Proofs.YtdfjacpfmjgfiaaW.PrintWords Go.Proofs.YtdfjacpfmjgfiaaW.PrintMore
attribute [local go_sem] max2_int
/-- A cell of an own row turns. -/
theorem own_set {W : World} {B b c : Nat} {xs : List Int} (ho : W.ownsRow B 3 1 (.slice (some ⟨b, 0, none⟩) xs.length c) xs.length (nums .i64 xs)) (i : Nat) (u : Int) : (W.setCell ⟨b, i, none⟩ (.int .i64 u)).ownsRow B 3 1 (.slice (some ⟨b, 0, none⟩) (xs.set i u).length c) (xs.set i u).length (nums .i64 (xs.set i u)) := by
  rcases ho.2 with ⟨h, _⟩ | ⟨b', cap, cur, hv, hBb, hb, hc, hcm, hcs, hcur⟩
  · cases h
  · injection hv with h1 h2 h3
    injection h1 with h1
    injection h1 with h1
    subst h1 h3
    rw [List.length_set]
    refine ⟨by simp [nums], .inr ⟨b, c, cur.setIfInBounds i (.int .i64 u), rfl, hBb, heap_spl b [.int .i64 u] i W cur hb, hc, hcm, by simpa using hcs, ?_⟩⟩
    rw [Nat.mul_one] at hcur ⊢
    rw [Array.toList_setIfInBounds, List.take_set, hcur]
    simp [nums, List.map_set]
/-- append([]int{}, xs...). -/
theorem append_new {W : World} {A : Option Addr} {n c : Nat} {xs : List Int} (hr : ReadsInt W .i64 A n xs) (hn : n ≤ 1000000) :
    ∃ v1 w1, (Builtin.append_ #[29, 29] 29 #[.slice (some ⟨W.heap.size, 0, none⟩) 0 0, .slice A n c]).run Try.prog (W.alloc (.cells #[] 3)) = .ok v1 w1 ∧ w1.ownsRow W.heap.size 3 1 v1 xs.length (nums .i64 xs) ∧ Grows W w1 := by
  have he0 : Grows W (W.alloc (.cells #[] 3)) := (Below.refl W.heap.size W).alloc (Nat.le_refl _) (.cells #[] 3)
  obtain ⟨v1, w1, hr2, ho1, hg1, hloc⟩ := ints_run (t := 29) (u := 29) (ty := 29) Try.underlying29 Try.underlying29 W.heap.size (.slice (some ⟨W.heap.size, 0, none⟩) 0 0) [] xs A n c (own_empty3 (heap_alloc_new W (.cells #[] 3))) (hr.below he0) he0.size (by simp; omega)
  rw [List.nil_append] at ho1
  exact ⟨v1, w1, hr2, ho1, grown_own he0 hg1 (own_empty3 (heap_alloc_new W (.cells #[] 3)))⟩
theorem getL_one (l : List Int) : getL [(1, l)] 1 = some l := rfl
theorem pinL_one (l : List Int) (n : Int) : pinL [(1, l)] 1 n = [(1, ins l n)] := rfl
/-- What PinOf's law has when the handle is there, and all is pinned. -/
structure OfState (w W : World) (t : Nat) (L : List Int) (A : Option Addr) (c : Nat) : Prop where
  tab : ∃ R, AtR R w W t 3 2 [(1, L)]
  row : ReadsInt W .i64 A L.length L
  cap : L.length ≤ c
theorem OfState.drewN {w W : World} {t : Nat} {L : List Int} {A : Option Addr} {c : Nat} (h : OfState w W t L A c) (q : Nat) : OfState w (W.drewN q) t L A c :=
  ⟨h.tab.elim fun R h => ⟨R, h.drewN q⟩, h.row, h.cap⟩
theorem OfState.below {w W : World} {t : Nat} {L : List Int} {A : Option Addr} {c : Nat} (h : OfState w W t L A c) : Below w.heap.size w W := h.tab.elim fun R h => h.below
theorem getD_lt {l : List Int} {i : Nat} (h : i < l.length) : l.getD i 0 = l[i] := by rw [List.getD_eq_getElem?_getD, List.getElem?_eq_getElem h]; rfl
theorem rises_at {l : List Int} (h : Rises l) {i : Nat} (h1 : i + 1 < l.length) : l[i] < l[i + 1] := List.pairwise_iff_getElem.1 h i (i + 1) (by omega) h1 (by omega)
/-- The law's own copy of what was handed in, as it is being overwritten. -/
structure OfCopy (R : Nat → Prop) (w W : World) (t B : Nat) (X : Option Addr) (cx n : Nat) (hl : HL) : Prop where
  tab : AtR R w W t 3 2 hl
  row : ∃ zs : List Int, zs.length = n ∧ W.ownsRow B 3 1 (.slice X zs.length cx) zs.length (nums .i64 zs)
  mine : ∀ ad, X = some ad → R ad.block
  base : w.heap.size ≤ B
set_option maxRecDepth 100000 in
set_option maxHeartbeats 4000000 in
theorem of_law_calls (w : World) {A0 A1 : Option Addr} {n0 n1 c0 c1 : Nat} {xs ys : List Int} (h0 : ReadsInt w .i64 A0 n0 xs) (h1 : ReadsInt w .i64 A1 n1 ys) (hb0 : n0 ≤ 140737488351232) (hb1 : n1 ≤ 140737488351232) (hc0 : n0 ≤ c0) (hc1 : n1 ≤ c1) :
    Calls Try.prog 6 #[.slice A0 n0 c0, .slice A1 n1 c1] w fun e w' => e = .returned (.bool true) ∧ Below w.heap.size w w' := by
  obtain rfl := h0.1
  obtain rfl := h1.1
  have H0 := Aside0.mk h0
  have H1 := Aside0.mk h1
  clear h0 h1
  have hw : IntKind.i64.wrap ((xs.length : Int) + ys.length) = (xs.length : Int) + ys.length := IntWalk.i64_in _ ⟨by omega, by omega⟩
  go_enter Try.func6, Try.ntmps6
  go_upto_region 2 with (go_at_call 9; refine (head_calls _).mono ?_; rintro e w1 ⟨rfl, hb⟩; have HB := Aside0.mk hb; clear hb)
  go_upto_region 3 with (go_at_call 10; refine (atR_new w _ HB.out 3 (by decide)).mono ?_; rintro e w2 ⟨t, rfl, hA⟩; have HA := Aside0.mk hA; clear hA)
  clear HB
  by_cases hgt : (xs.length : Int) + ys.length > 500
  · have hgd : decide (500 < (xs.length : Int) + ys.length) = true := by simp; omega
    clear hgt
    go_wp2
    go_ret
    exact ⟨rfl, HA.out.below⟩
  have hgd : decide (500 < (xs.length : Int) + ys.length) = false := by simp; omega
  have hsum : xs.length + ys.length ≤ 500 := by omega
  clear hgt
  go_upto_region 5 with fail
  obtain ⟨v1, w3, hr, ho, hg⟩ := append_new (c := c0) (HA.out.reads H0.out).1 (by omega)
  obtain ⟨X, cx, rfl, hcx⟩ := own_slice ho
  have hA3 := HA.out.with (KeepS.of_grows hg) (keep_grows HA.out.keep hg)
  have HRX := Aside0.mk (ReadsR.of (R := fun k => k < w.heap.size ∨ (w2.heap.size ≤ k ∧ k < w3.heap.size)) (own_reads' ho) fun k hk ad e1 e2 => .inr ⟨by subst e1; subst e2; exact own_base ho _ rfl, hk⟩)
  have HC := Aside0.mk (atR_open (c := cx) hA3 (by decide) (fun x hx => (by cases hx)) (by decide) (by decide) (by decide) HRX.out (by omega))
  have HI := Aside0.mk (fun (w4 : World) (hA : AtR (fun k => k < w.heap.size ∨ (w2.heap.size ≤ k ∧ k < w3.heap.size)) w w4 t 3 (1 + 1) ([] ++ [(1, insAll [] xs)])) (hK : KeepS (fun k => ¬ (k < w.heap.size ∨ (w2.heap.size ≤ k ∧ k < w3.heap.size))) w3 w4) =>
    (⟨hA, ⟨xs, rfl, own_keep ho fun k hk hBk cs hcs => (hK.block k (lt_heap hcs) fun h => h (.inr ⟨hBk, lt_heap hcs⟩)).trans hcs⟩, fun ad e => .inr ⟨by subst e; exact own_base ho _ rfl, by subst e; exact own_lt ho _ rfl⟩, HA.out.keep.size⟩ : OfCopy _ w w4 t w2.heap.size X cx xs.length [(1, insAll [] xs)]))
  have HX := Aside0.mk (AtR.reads (h := HA.out) H1.out)
  clear HA hA3 ho hg hcx HRX
  go_upto_region 7 with (first | (at_builtin; refine wpList_appendE (.tmp 33) (.tmp 34) 29 rfl rfl rfl rfl ⟨_, _, hr, ?_⟩) | (go_at_call 17; refine HC.out.mono ?_; clear HC; rintro e w4 ⟨rfl, hA, hK⟩; have HS := Aside0.mk (HI.out _ hA hK); clear hA hK HI))
  clear hr HX
  generalize hBe : w2.heap.size = B at HS ⊢
  have hRe : ∃ R, R = (fun k => k < w.heap.size ∨ (B ≤ k ∧ k < w3.heap.size)) := ⟨_, rfl⟩
  obtain ⟨R, hRe⟩ := hRe
  rw [← hRe] at HS
  clear hBe hRe
  go_wp2
  go_loopg [10] xs.length (fun f v10 wr => ∃ i : Nat, Aside0 (f + i = xs.length) ∧ i ≤ xs.length ∧ v10 = .int .i64 i ∧ Aside0 (OfCopy R w wr t B X cx xs.length [(1, insAll [] xs)]))
  case atStart => exact ⟨0, ⟨by omega⟩, by omega, rfl, HS⟩
  case round =>
    clear HS
    obtain ⟨i, HF, hi, rfl, HS⟩ := hrel
    by_cases hlt : i < xs.length
    · obtain ⟨hT, ⟨zs, hz, ho⟩, hmine, hbase⟩ := HS.out
      have hiz : i < zs.length := by omega
      obtain ⟨b, c, ev, _, hcell⟩ := own_cell ho hiz
      injection ev with ev _ ev3
      subst ev ev3
      obtain ⟨cs, hcs⟩ := own_typed ho b rfl
      have hfr : wr.frozen? ⟨b, i, none⟩ = false := frozen_of_row wr b i cs 3 hcs
      have hRb : R b := hmine _ rfl
      have hbb : w.heap.size ≤ b := Nat.le_trans hbase (own_base ho _ rfl)
      have hOC : OfCopy R w (wr.setCell ⟨b, i, none⟩ (.int .i64 (-7))) t B (some ⟨b, 0, none⟩) cx xs.length [(1, insAll [] xs)] :=
        ⟨hT.other (KeepS.of_grown (grown_set wr b i _) fun k e => by injection e with e; subst e; exact hRb) (hT.keep.trans (KeepS.of_grown (grown_set wr b i _) fun k e => by injection e with e; subst e; exact hbb)), ⟨zs.set i (-7), by rw [List.length_set]; exact hz, own_set ho i (-7)⟩, hmine, hbase⟩
      have HOC := Aside0.mk hOC
      generalize zs[i] = z at hcell
      clear HS hT ho hmine hbase hcs hRb hbb hOC hiz hz
      go_wp2
      go_roundg (xs.length - (i + 1))
      case measure => have := HF.out; omega
      case rel => exact ⟨i + 1, ⟨by omega⟩, by omega, by go_num, HOC⟩
    · obtain rfl : i = xs.length := by omega
      obtain ⟨w5, hw5⟩ : ∃ w5, w5 = wr := ⟨_, rfl⟩
      subst hw5
      have HT := Aside0.mk HS.out.tab
      clear HS HF hi hlt
      go_wp2
      go_loopg [11] ys.length (fun f v11 wr => ∃ i : Nat, Aside0 (f + i = ys.length) ∧ i ≤ ys.length ∧ v11 = .int .i64 i ∧ Aside0 (AtR R w wr t 3 2 [(1, insAll (insAll [] xs) (ys.take i))]))
      case atStart => exact ⟨0, ⟨by omega⟩, by omega, rfl, HT⟩
      case round =>
        clear HT
        obtain ⟨i, HF, hi, rfl, HS⟩ := hrel
        by_cases hlt : i < ys.length
        · obtain ⟨ad, rfl, hcell⟩ := (HS.out.reads H1.out).1.2.2 (by omega)
          replace hcell := hcell i hlt
          rw [getD_lt hlt] at hcell
          have hts := List.take_succ_eq_append_getElem hlt
          generalize ys[i] = y at hcell hts
          have HTS := Aside0.mk hts
          have hle := insAll_len (ys.take i) (insAll [] xs)
          have hle2 := insAll_len xs []
          have hle3 := List.length_take_le i ys
          have HC := Aside0.mk (atR_pin HS.out (fun x hx => (by
            obtain rfl := List.mem_singleton.1 hx
            simp only [List.length_nil] at hle2
            show (insAll (insAll [] xs) (ys.take i)).length ≤ 99999
            omega)) (by simp) 1 y)
          rw [pinL_one, getL_one] at HC
          clear HS hts hle hle2 hle3
          go_wp2_with (go_at_call 13; refine HC.out.mono ?_; clear HC; rintro e w6 ⟨rfl, hA, hK⟩; have HA := Aside0.mk hA; clear hA hK)
          go_roundg (ys.length - (i + 1))
          case measure => have := HF.out; omega
          case rel => exact ⟨i + 1, ⟨by omega⟩, by omega, by go_num, ⟨by rw [HTS.out, insAll_app]; exact HA.out⟩⟩
        · obtain rfl : i = ys.length := by omega
          obtain ⟨w6, hw6⟩ : ∃ w6, w6 = wr := ⟨_, rfl⟩
          subst hw6
          have HT := HS
          rw [List.take_of_length_le (Nat.le_refl _)] at HT
          clear HS HF hi hlt
          have hle := insAll_len ys (insAll [] xs)
          have hle2 := insAll_len xs []
          simp only [List.length_nil, Nat.zero_add] at hle2
          have hL : ∃ L, L = insAll (insAll [] xs) ys := ⟨_, rfl⟩
          obtain ⟨L, hL⟩ := hL
          rw [← hL] at HT hle
          have hLl : L.length ≤ 500 := by omega
          have HM := Aside0.mk (fun x => (by rw [hL, mem_insAll, mem_insAll]; simp [or_comm] : x ∈ L ↔ (x ∈ xs ∨ x ∈ ys)))
          have HRi := Aside0.mk (show Rises L by rw [hL]; exact insAll_rise ys (insAll_rise xs List.Pairwise.nil))
          clear hL hle hle2
          have HC := Aside0.mk (atR_of HT.out 1 (fun x hx => (by obtain rfl := List.mem_singleton.1 hx; show L.length ≤ 1000000; omega)) (l := L) rfl)
          clear HT
          go_wp2_with (go_at_call 24; refine HC.out.mono ?_; clear HC; rintro e w7 ⟨A, c, rfl, hc, hr, ho, hg, hA⟩; have HT := Aside0.mk (OfState.mk ⟨_, hA⟩ hr hc : OfState w w7 t L A c); clear hc hr ho hg hA)
          go_loopg [13] L.length (fun f v13 wr => ∃ i : Nat, Aside0 (f + i = L.length) ∧ i ≤ L.length ∧ v13 = .int .i64 i ∧ Aside0 (OfState w wr t L A c))
          case atStart => exact ⟨0, ⟨by omega⟩, by omega, rfl, HT⟩
          case round =>
            clear HT
            obtain ⟨i, HF, hi, rfl, HS⟩ := hrel
            by_cases hlt : i < L.length
            · obtain ⟨R2, hA2⟩ := HS.out.tab
              obtain ⟨ad, rfl, hcell⟩ := HS.out.row.2.2 (by omega)
              have hci := hcell i hlt
              rw [getD_lt hlt] at hci
              have hmem := (HM.out L[i]).1 (List.getElem_mem _)
              have hcnt : decide (0 < cnt [(1, L)] L[i]) = true := by
                have : L.contains L[i] = true := by rw [List.contains_iff_mem]; exact List.getElem_mem _
                simp [cnt, this]
              have HY := Aside0.mk (fun (x : Int) q => has_calls (W := wr.drewN q) (c := c1) ((hA2.drewN q).reads H1.out).1 x (by omega))
              have HX := Aside0.mk (fun (x : Int) q => has_calls (W := wr.drewN q) (c := c0) ((hA2.drewN q).reads H0.out).1 x (by omega))
              have HP := Aside0.mk (fun q => (pinned_tb (hA2.drewN q).tb L[i] : Calls Try.prog 26 #[.pointer (some ⟨t, 0, none⟩), .int .i64 L[i]] (wr.drewN q) _))
              rw [hcnt] at HP
              clear hcnt hA2
              have hbefore : 0 < i → ∃ z, wr.cell? (ad.add (i - 1)) = some (.int .i64 z) ∧ decide (L[i] ≤ z) = false := fun hk => by
                obtain ⟨k, rfl⟩ : ∃ k, i = k + 1 := ⟨i - 1, by omega⟩
                refine ⟨L[k], ?_, ?_⟩
                · have := hcell k (by omega)
                  rwa [getD_lt (by omega)] at this
                · have := rises_at HRi.out hlt
                  simpa using this
              clear hcell
              generalize L[i] = y at hci hmem HP hbefore
              cases hb1 : xs.contains y with
              | true =>
                have HX1 := Aside0.mk (HX.out y)
                rw [hb1] at HX1
                clear hmem hb1 HX
                by_cases h0 : i = 0
                · have hg0 : decide (0 < (i : Int)) = false := by simp [h0]
                  have hg1 : decide (0 < i) = false := by simp [h0]
                  clear hbefore h0
                  go_upto_region 19 with fail
                  go_quiet (first | (go_at_call 28; refine Calls.quiet_of_same (HX1.out _)) | (go_at_call 26; refine Calls.quiet_of_same (HP.out _)))
                  go_wp2
                  go_roundg (L.length - (i + 1))
                  case measure => have := HF.out; omega
                  case rel => exact ⟨i + 1, ⟨by omega⟩, by omega, by go_num, ⟨HS.out.drewN _⟩⟩
                · have hg0 : decide (0 < (i : Int)) = true := by simp; omega
                  have hg1 : decide (0 < i) = true := by simp; omega
                  obtain ⟨z, hz, hzy⟩ := hbefore (by omega)
                  have hwk : IntKind.i64.wrap ((i : Int) - 1) = i - 1 := IntWalk.i64_in _ ⟨by omega, by omega⟩
                  have hwk2 : (0 : Int) ≤ (i : Int) - 1 := by omega
                  clear hbefore h0
                  go_upto_region 19 with fail
                  go_quiet (first | (go_at_call 28; refine Calls.quiet_of_same (HX1.out _)) | (go_at_call 26; refine Calls.quiet_of_same (HP.out _)))
                  go_wp2
                  go_roundg (L.length - (i + 1))
                  case measure => have := HF.out; omega
                  case rel => exact ⟨i + 1, ⟨by omega⟩, by omega, by go_num, ⟨HS.out.drewN _⟩⟩
              | false =>
                have hyb : ys.contains y = true := by
                  rw [List.contains_iff_mem]
                  refine hmem.resolve_left fun h => ?_
                  rw [← List.contains_iff_mem, hb1] at h
                  cases h
                have HX1 := Aside0.mk (HX.out y)
                have HY1 := Aside0.mk (HY.out y)
                rw [hb1] at HX1
                rw [hyb] at HY1
                clear hmem hb1 hyb HX HY
                by_cases h0 : i = 0
                · have hg0 : decide (0 < (i : Int)) = false := by simp [h0]
                  have hg1 : decide (0 < i) = false := by simp [h0]
                  clear hbefore h0
                  go_upto_region 19 with fail
                  go_quiet (first | (go_at_call 28; (first | (with_reducible refine Calls.quiet_of_same (HX1.out _)) | (with_reducible refine Calls.quiet_of_same (HY1.out _)))) | (go_at_call 26; refine Calls.quiet_of_same (HP.out _)))
                  go_wp2
                  go_roundg (L.length - (i + 1))
                  case measure => have := HF.out; omega
                  case rel => exact ⟨i + 1, ⟨by omega⟩, by omega, by go_num, ⟨HS.out.drewN _⟩⟩
                · have hg0 : decide (0 < (i : Int)) = true := by simp; omega
                  have hg1 : decide (0 < i) = true := by simp; omega
                  obtain ⟨z, hz, hzy⟩ := hbefore (by omega)
                  have hwk : IntKind.i64.wrap ((i : Int) - 1) = i - 1 := IntWalk.i64_in _ ⟨by omega, by omega⟩
                  have hwk2 : (0 : Int) ≤ (i : Int) - 1 := by omega
                  clear hbefore h0
                  go_upto_region 19 with fail
                  go_quiet (first | (go_at_call 28; (first | (with_reducible refine Calls.quiet_of_same (HX1.out _)) | (with_reducible refine Calls.quiet_of_same (HY1.out _)))) | (go_at_call 26; refine Calls.quiet_of_same (HP.out _)))
                  go_wp2
                  go_roundg (L.length - (i + 1))
                  case measure => have := HF.out; omega
                  case rel => exact ⟨i + 1, ⟨by omega⟩, by omega, by go_num, ⟨HS.out.drewN _⟩⟩
            · obtain rfl : i = L.length := by omega
              obtain ⟨w8, hw8⟩ : ∃ w8, w8 = wr := ⟨_, rfl⟩
              subst hw8
              have HT := HS
              clear HS HF hi hlt
              go_wp2
              go_loopg [14] xs.length (fun f v14 wr => ∃ i : Nat, Aside0 (f + i = xs.length) ∧ i ≤ xs.length ∧ v14 = .int .i64 i ∧ Aside0 (OfState w wr t L A c))
              case atStart => exact ⟨0, ⟨by omega⟩, by omega, rfl, HT⟩
              case round =>
                clear HT
                obtain ⟨i, HF, hi, rfl, HS⟩ := hrel
                by_cases hlt : i < xs.length
                · obtain ⟨R2, hA2⟩ := HS.out.tab
                  obtain ⟨ad, rfl, hcell⟩ := (hA2.reads H0.out).1.2.2 (by omega)
                  replace hcell := hcell i hlt
                  rw [getD_lt hlt] at hcell
                  have hin : L.contains xs[i] = true := by rw [List.contains_iff_mem]; exact (HM.out _).2 (.inl (List.getElem_mem _))
                  generalize xs[i] = y at hcell hin
                  have HC := Aside0.mk (has_calls (c := c) HS.out.row y (by omega))
                  rw [hin] at HC
                  clear hA2 hin
                  go_wp2_with (go_at_call 28; refine HC.out.mono ?_; clear HC; rintro e w9 ⟨rfl, rfl⟩)
                  go_roundg (xs.length - (i + 1))
                  case measure => have := HF.out; omega
                  case rel => exact ⟨i + 1, ⟨by omega⟩, by omega, by go_num, HS⟩
                · obtain rfl : i = xs.length := by omega
                  obtain ⟨w9, hw9⟩ : ∃ w9, w9 = wr := ⟨_, rfl⟩
                  subst hw9
                  have HT := HS
                  clear HS HF hi hlt
                  go_wp2
                  go_loopg [15] ys.length (fun f v15 wr => ∃ i : Nat, Aside0 (f + i = ys.length) ∧ i ≤ ys.length ∧ v15 = .int .i64 i ∧ Aside0 (OfState w wr t L A c))
                  case atStart => exact ⟨0, ⟨by omega⟩, by omega, rfl, HT⟩
                  case round =>
                    clear HT
                    obtain ⟨i, HF, hi, rfl, HS⟩ := hrel
                    by_cases hlt : i < ys.length
                    · obtain ⟨R2, hA2⟩ := HS.out.tab
                      obtain ⟨ad, rfl, hcell⟩ := (hA2.reads H1.out).1.2.2 (by omega)
                      replace hcell := hcell i hlt
                      rw [getD_lt hlt] at hcell
                      have hin : L.contains ys[i] = true := by rw [List.contains_iff_mem]; exact (HM.out _).2 (.inr (List.getElem_mem _))
                      generalize ys[i] = y at hcell hin
                      have HC := Aside0.mk (has_calls (c := c) HS.out.row y (by omega))
                      rw [hin] at HC
                      clear hA2 hin
                      go_wp2_with (go_at_call 28; refine HC.out.mono ?_; clear HC; rintro e w9 ⟨rfl, rfl⟩)
                      go_roundg (ys.length - (i + 1))
                      case measure => have := HF.out; omega
                      case rel => exact ⟨i + 1, ⟨by omega⟩, by omega, by go_num, HS⟩
                    · go_wp2
                      go_ret
                      exact ⟨rfl, HS.out.below⟩
end Go.Proofs.Ytdfjacpfmjgfiaa
