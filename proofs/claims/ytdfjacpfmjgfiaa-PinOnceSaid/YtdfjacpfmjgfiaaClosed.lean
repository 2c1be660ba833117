/-
  The law PinClosed: when all handles are closed, in whichever order, nothing is pinned.
-/
import Derived.Test.YtdfjacpfmjgfiaaOf
namespace Go.Proofs.Ytdfjacpfmjgfiaa
set_option linter.unusedVariables false
set_option linter.unusedSimpArgs false
open Go.Shelf Go.RowKit Go.Proofs.YtdfjacpfmjgfiaaW.PrintWords Go.Proofs.YtdfjacpfmjgfiaaW.PrintMore PPinPlays
attribute [local go_sem] max2_int
theorem reads_of_C {w : World} {A : Option Addr} {n : Nat} {xs : List Int} (h : Kd.C (Kd.int .i64) w A n xs) : ReadsInt w .i64 A n xs := by
  obtain ⟨h1, h2, h3⟩ := h
  refine ⟨h1, h2, fun hn => ?_⟩
  obtain ⟨ad, e, hc⟩ := h3 hn
  refine ⟨ad, e, fun j hj => ?_⟩
  obtain ⟨cs, _, hk, hcc⟩ := hc j _ (List.getElem?_eq_getElem (by omega))
  have hcs : cs = [.int .i64 xs[j]] := hk
  rw [hcs] at hcc
  have := hcc 0 _ rfl
  rw [show j * (Kd.int .i64).sz + 0 = j by show j * 1 + 0 = j; omega] at this
  rw [this]
  simp [List.getD_eq_getElem?_getD, List.getElem?_eq_getElem (show j < xs.length by omega)]
/-- A row of whole numbers that is the law's own. -/
structure Mine (R : Nat → Prop) (w W : World) (v : Value) (xs : List Int) : Prop where
  own : W.ownsRow w.heap.size 3 1 v xs.length (nums .i64 xs)
  mine : ∀ k, v.ownBlock = some k → R k
theorem Mine.keep {R : Nat → Prop} {w W W' : World} {v : Value} {xs : List Int} (h : Mine R w W v xs) (hk : KeepS (fun k => ¬ R k) W W') : Mine R w W' v xs :=
  ⟨own_move h.own fun k e => hk.block k (own_lt h.own k e) fun hn => hn (h.mine k e), h.mine⟩
theorem Mine.grows {R : Nat → Prop} {w W W' : World} {v : Value} {xs : List Int} (h : Mine R w W v xs) (hk : Grows W W') : Mine R w W' v xs :=
  ⟨own_grows h.own hk, h.mine⟩
theorem Mine.nil (R : Nat → Prop) (w W : World) : Mine R w W (.slice none 0 0) [] := ⟨World.ownsRow_nil _ _ _ _, fun k h => by cases h⟩
theorem Mine.more {R R' : Nat → Prop} {w W : World} {v : Value} {xs : List Int} (h : Mine R w W v xs) (hR : ∀ k, R k → R' k) : Mine R' w W v xs := ⟨h.own, fun k e => hR k (h.mine k e)⟩
/-- append(mine, x). -/
theorem append_mine {R : Nat → Prop} {w W : World} {t : Nat} {most next : Int} {hl : HL} {v : Value} {xs : List Int} (h : AtR R w W t most next hl) (hm : Mine R w W v xs) (x : Int) (hxl : xs.length ≤ 1000000) :
    ∃ v1 w1, (Builtin.append_ #[29, 29] 29 #[v, .slice (some ⟨W.heap.size, 0, none⟩) 1 1]).run Try.prog (W.alloc (.cells #[.int .i64 x] 3)) = .ok v1 w1 ∧ ∃ R', AtR R' w w1 t most next hl ∧ Mine R' w w1 v1 (xs ++ [x]) := by
  have g0 : Grows W (W.alloc (.cells #[.int .i64 x] 3)) := (Below.refl W.heap.size W).alloc (Nat.le_refl _) (.cells #[.int .i64 x] 3)
  obtain ⟨v1, w1, hr, ho1, hg1, hloc⟩ := ints_run (t := 29) (u := 29) (ty := 29) Try.underlying29 Try.underlying29 w.heap.size v xs [x] (some ⟨W.heap.size, 0, none⟩) 1 1 (own_grows hm.own g0) (lits_reads (by simp) (heap_alloc_new W _)) (Nat.le_trans h.keep.size g0.size) (by omega)
  have hK : KeepS R W w1 := KeepS.trans (KeepS.of_grows g0) (KeepS.of_grown hg1 fun k e => hm.mine k e)
  have hB : KeepS (fun k => w.heap.size ≤ k) w w1 := (h.keep.trans (KeepS.of_grows g0)).trans (KeepS.of_grown hg1 fun k e => own_base hm.own k e)
  refine ⟨v1, w1, hr, _, h.with hK hB, ho1, fun k e => ?_⟩
  rcases hloc with hl | hl
  · exact .inl (hm.mine k (hl.symm.trans e))
  · have e2 : some (W.alloc (.cells #[.int .i64 x] 3)).heap.size = some k := hl.symm.trans e
    injection e2 with e2
    exact .inr ⟨by have := g0.size; omega, own_lt ho1 k e⟩
/-! ### In plain Lean -/
def hdsUpto (rows : List (List Int)) (i : Nat) : HL := (List.range i).map fun (j : Nat) => ((j : Int) + 1, insAll [] (rows.getD j []))
def numsUpto (i : Nat) : List Int := (List.range i).map fun (j : Nat) => (j : Int) + 1
theorem hdsUpto_succ (rows : List (List Int)) (i : Nat) : hdsUpto rows (i + 1) = hdsUpto rows i ++ [((i : Int) + 1, insAll [] (rows.getD i []))] := by simp [hdsUpto, List.range_succ]
theorem numsUpto_succ (i : Nat) : numsUpto (i + 1) = numsUpto i ++ [(i : Int) + 1] := by simp [numsUpto, List.range_succ]
theorem numsUpto_len (i : Nat) : (numsUpto i).length = i := by simp [numsUpto]
theorem numsUpto_at {i n : Nat} (h : i < n) : (numsUpto n).getD i 0 = (i : Int) + 1 := by simp [numsUpto, List.getD_eq_getElem?_getD, List.getElem?_range h]
theorem hdsUpto_len (rows : List (List Int)) (i : Nat) : (hdsUpto rows i).length = i := by simp [hdsUpto]
theorem hds_bound {rows : List (List Int)} {i : Nat} (h : ∀ j, j < i → (rows.getD j []).length ≤ 60) : ∀ x ∈ hdsUpto rows i, x.2.length ≤ 60 := fun x hx => by
  obtain ⟨j, hj, rfl⟩ := List.mem_map.1 hx
  have h1 := insAll_len (rows.getD j []) []
  have h2 := h j (List.mem_range.1 hj)
  show (insAll [] (rows.getD j [])).length ≤ 60
  rw [List.length_nil] at h1
  omega
/-- What is left when so many are closed, from some one on. -/
def clo (h0 : HL) (n tn : Nat) : Nat → HL
  | 0 => h0
  | i + 1 => delL (clo h0 n tn i) ((((i + tn) % n : Nat) : Int) + 1)
theorem del_len {hl : HL} {k : Int} (hk : Keyed' hl) (h : (getL hl k).isSome = true) : (delL hl k).length + 1 = hl.length := by
  obtain ⟨l, hl2⟩ := Option.isSome_iff_exists.1 h
  obtain ⟨A, B, rfl, h1, h2⟩ := split_key hk (getL_mem hl2)
  rw [delL_split h1 h2]; simp; omega
theorem del_keys' (hl : HL) (k m : Int) : m ∈ (delL hl k).map (·.1) ↔ m ∈ hl.map (·.1) ∧ m ≠ k := by
  unfold delL
  simp only [List.mem_map, List.mem_filter]
  constructor
  · rintro ⟨x, ⟨h1, h2⟩, rfl⟩
    exact ⟨⟨x, h1, rfl⟩, by simpa using h2⟩
  · rintro ⟨⟨x, h1, rfl⟩, h2⟩
    exact ⟨x, ⟨h1, by simpa using h2⟩, rfl⟩
theorem getL_some {hl : HL} {k : Int} : (getL hl k).isSome = true ↔ k ∈ hl.map (·.1) := by
  constructor
  · intro h
    obtain ⟨l, hl2⟩ := Option.isSome_iff_exists.1 h
    exact List.mem_map.2 ⟨_, getL_mem hl2, rfl⟩
  · intro h
    cases hg : getL hl k with
    | some l => rfl
    | none =>
      obtain ⟨x, hx, e⟩ := List.mem_map.1 h
      exact absurd e (getL_none.1 hg x hx)
theorem rot_inj {i j tn n : Nat} (hi : i < n) (hj : j < i) : (j + tn) % n ≠ (i + tn) % n := by
  intro h
  have h1 := Nat.div_add_mod (i + tn) n
  have h2 := Nat.div_add_mod (j + tn) n
  rw [h] at h2
  rcases Nat.lt_or_ge ((j + tn) / n) ((i + tn) / n) with hq | hq
  · have := Nat.mul_le_mul_left n (Nat.succ_le_of_lt hq)
    rw [Nat.mul_succ] at this
    omega
  · have := Nat.mul_le_mul_left n hq
    omega
theorem hds_keys (rows : List (List Int)) (n : Nat) : Keyed' (hdsUpto rows n) ∧ ∀ j, j < n → (j : Int) + 1 ∈ (hdsUpto rows n).map (·.1) := by
  have e : (hdsUpto rows n).map (·.1) = (List.range n).map fun (j : Nat) => (j : Int) + 1 := by unfold hdsUpto; rw [List.map_map]; rfl
  unfold Keyed'
  rw [e]
  refine ⟨?_, fun j hj => List.mem_map.2 ⟨j, List.mem_range.2 hj, rfl⟩⟩
  rw [List.nodup_iff_pairwise_ne, List.pairwise_map]
  exact List.Pairwise.imp (fun h e => by omega) (List.nodup_range (n := n))
theorem clo_ok (rows : List (List Int)) (n tn : Nat) : ∀ i, i ≤ n → Keyed' (clo (hdsUpto rows n) n tn i) ∧ (clo (hdsUpto rows n) n tn i).length + i = n ∧ (∀ j, i ≤ j → j < n → (((j + tn) % n : Nat) : Int) + 1 ∈ (clo (hdsUpto rows n) n tn i).map (·.1)) ∧ (∀ x ∈ clo (hdsUpto rows n) n tn i, x ∈ hdsUpto rows n)
  | 0, _ => ⟨(hds_keys rows n).1, by rw [clo, hdsUpto_len]; omega, fun j _ hj => (hds_keys rows n).2 _ (Nat.mod_lt _ (by omega)), fun x h => h⟩
  | i + 1, h => by
    obtain ⟨h1, h2, h3, h4⟩ := clo_ok rows n tn i (by omega)
    have hs := getL_some.2 (h3 i (Nat.le_refl _) (by omega))
    refine ⟨?_, ?_, fun j hj hjn => ?_, fun x hx => h4 x (List.mem_filter.1 hx).1⟩
    · exact List.Nodup.sublist (List.Sublist.map _ List.filter_sublist) h1
    · have := del_len h1 hs
      rw [clo]; omega
    · rw [clo, del_keys']
      refine ⟨h3 j (by omega) hjn, fun e => ?_⟩
      have : (j + tn) % n ≠ (i + tn) % n := fun e2 => rot_inj hjn (show i < j by omega) e2.symm
      omega
/-- The state of PinClosed's first loop. -/
structure ClSt (w W : World) (t : Nat) (v : Value) (next : Int) (hl : HL) (xs : List Int) : Prop where
  out : ∃ R, AtR R w W t 1024 next hl ∧ Mine R w W v xs
theorem rows_at {w W : World} {A : Option Addr} {n : Nat} {rows : List (List Int)} (h : Kd.C (Kd.slice 3 (Kd.int .i64)) w A n rows) (hb : Below w.heap.size w W) {i : Nat} (hi : i < n) :
    ∃ ad A0 c0, A = some ad ∧ W.cell? (ad.add i) = some (.slice A0 (rows.getD i []).length c0) ∧ (rows.getD i []).length ≤ c0 ∧ ReadsInt w .i64 A0 (rows.getD i []).length (rows.getD i []) := by
  obtain ⟨ad, A0, c0, e, _, hl, hr⟩ := at_L1 h (i : Int) (by omega) (by omega)
  obtain ⟨ad', A0', c0', e', hc, hl', hr'⟩ := at_L1 (Kd.C_below h hb) (i : Int) (by omega) (by omega)
  obtain ⟨ad2, A2, c2, e2, hc2, hl2, hr2⟩ := at_L1 h (i : Int) (by omega) (by omega)
  rw [e] at e'
  injection e' with e'
  subst e'
  have e3 : ad2 = ad := by rw [e] at e2; injection e2 with e2; exact e2.symm
  subst e3
  have hrd : rd_L1 rows (i : Int) = rows.getD i [] := by unfold rd_L1; simp
  rw [Int.toNat_natCast] at hc hc2
  have hblk := World.block_lt_of_cell? w (ad2.add i) hc2
  have := World.cell?_of_block (w := w) (hb.block (ad2.add i).block hblk)
  rw [this, hc2] at hc
  injection hc with hc
  injection hc with q1 q2 q3
  subst q1
  subst q3
  rw [hrd] at hc2 hl2 hr2
  exact ⟨ad2, A2, c2, e, this.trans hc2, hl2, reads_of_C hr2⟩
set_option maxRecDepth 100000 in
set_option maxHeartbeats 4000000 in
theorem closed_calls (w : World) {A0 : Option Addr} {n0 c0 : Nat} {rows : List (List Int)} (tn : Nat) (h0 : Kd.C (Kd.slice 3 (Kd.int .i64)) w A0 n0 rows) (htn : tn < 256) (hb0 : n0 ≤ 140737488351232) (hrl : ∀ x ∈ rows, x.length ≤ 140737488351232) :
    Calls Try.prog 7 #[.slice A0 n0 c0, .int .u8 tn] w fun e w' => e = .returned (.bool true) ∧ Below w.heap.size w w' := by
  have hn0 := h0.1
  have H0 := Aside0.mk h0
  have HN := Aside0.mk hn0
  have HRL := Aside0.mk (fun i => (by
    by_cases h : i < rows.length
    · rw [List.getD_eq_getElem?_getD, List.getElem?_eq_getElem h]; exact hrl _ (List.getElem_mem _)
    · rw [List.getD_eq_getElem?_getD, List.getElem?_eq_none (by omega)]; exact Nat.zero_le _ : (rows.getD i []).length ≤ 140737488351232))
  clear h0 hn0 hrl
  go_enter Try.func7, Try.ntmps7
  go_upto_region 2 with (go_at_call 9; refine (head_calls _).mono ?_; rintro e w1 ⟨rfl, hb⟩; have HB := Aside0.mk hb; clear hb)
  go_upto_region 3 with (go_at_call 10; refine (atR_new w _ HB.out 1024 (by decide)).mono ?_; rintro e w2 ⟨t, rfl, hA⟩; have HA := Aside0.mk hA; clear hA)
  clear HB
  by_cases hgt : (n0 : Int) > 60
  · have hgd : decide (60 < (n0 : Int)) = true := by simp; omega
    clear hgt
    go_wp2
    go_ret
    exact ⟨rfl, HA.out.below⟩
  have hgd : decide (60 < (n0 : Int)) = false := by simp; omega
  have hn60 : n0 ≤ 60 := by omega
  clear hgt
  go_wp2
  go_loopg [7, 8] n0 (fun f v7 v8 wr => ∃ i : Nat, Aside0 (f + i = n0) ∧ i ≤ n0 ∧ v8 = .int .i64 i ∧ Aside0 (ClSt w wr t v7 ((i : Int) + 1) (hdsUpto rows i) (numsUpto i)) ∧ Aside0 (∀ j, j < i → (rows.getD j []).length ≤ 60))
  case atStart => exact ⟨0, ⟨by omega⟩, by omega, rfl, ⟨_, HA.out, Mine.nil _ _ _⟩, ⟨fun j hj => by omega⟩⟩
  case round =>
    clear HA
    obtain ⟨i, HF, hi, rfl, HS, HL⟩ := hrel
    obtain ⟨R, hA, hM⟩ := HS.out.out
    obtain ⟨Av, cv, ev, hcv⟩ := own_slice hM.own
    rw [numsUpto_len] at ev hcv
    subst ev
    by_cases hlt : i < n0
    · obtain ⟨ad, A1, c1, rfl, hcell, hcc, hrr⟩ := rows_at H0.out hA.below hlt
      have hrl := HRL.out i
      obtain ⟨ys, hys⟩ : ∃ ys, ys = rows.getD i [] := ⟨_, rfl⟩
      rw [← hys] at hcell hcc hrr hrl
      have HYS := Aside0.mk hys
      clear hys
      by_cases hbig : (ys.length : Int) > 60
      · have hgy : decide (60 < (ys.length : Int)) = true := by simp; omega
        have hgy2 : decide (60 < ys.length) = true := by simp; omega
        have HE := Aside0.mk hA.below
        clear hbig HS hA hM hrr hcc
        go_wp2
        go_ret
        exact ⟨rfl, HE.out⟩
      · have hgy : decide (60 < (ys.length : Int)) = false := by simp; omega
        have hgy2 : decide (60 < ys.length) = false := by simp; omega
        have hy60 : ys.length ≤ 60 := by omega
        have HC := Aside0.mk (atR_open (c := c1) hA (by rw [hdsUpto_len]; omega) (fun x hx => Nat.le_trans (hds_bound HL.out x hx) (by decide)) (by rw [hdsUpto_len]; omega) (by omega) (by omega) (hA.reads hrr).2 (by omega))
        have HM := Aside0.mk hM
        have HLi := HL
        clear HS hA hM hrr hcc hbig HL
        go_upto_region 12 with (go_at_call 17; refine HC.out.mono ?_; clear HC; rintro e w3 ⟨rfl, hA, hK⟩; have HA := Aside0.mk hA; have HK := Aside0.mk hK; clear hA hK)
        obtain ⟨v1, w4, hr, R', hA4, hM4⟩ := append_mine HA.out (HM.out.keep HK.out) ((i : Int) + 1) (by rw [numsUpto_len]; omega)
        have HA4 := Aside0.mk hA4
        have HM4 := Aside0.mk hM4
        clear HA HK hA4 hM4 HM
        go_wp2_with (at_builtin; refine wpList_appendE (.tmp 50) (.tmp 52) 29 rfl rfl rfl rfl ⟨_, _, hr, ?_⟩; clear hr)
        go_roundg (n0 - (i + 1))
        case measure => have := HF.out; omega
        case rel =>
          refine ⟨i + 1, ⟨by omega⟩, by omega, by go_num, ⟨R', ?_, ?_⟩, ⟨fun j hj => ?_⟩⟩
          · rw [hdsUpto_succ, ← HYS.out]; exact HA4.out
          · rw [numsUpto_succ]; exact HM4.out
          · by_cases hji : j = i
            · rw [hji, ← HYS.out]; exact hy60
            · exact HLi.out j (by omega)
    · obtain rfl : i = n0 := by omega
      obtain ⟨w5, hw5⟩ : ∃ w5, w5 = wr := ⟨_, rfl⟩
      subst hw5
      have HM := Aside0.mk hM
      have HT := Aside0.mk (show AtR R w w5 t 1024 ((i : Int) + 1) (clo (hdsUpto rows i) i tn 0) from hA)
      clear HS HF hi hlt hA hM
      go_wp2
      go_loopg [11] i (fun f v11 wr => ∃ k : Nat, Aside0 (f + k = i) ∧ k ≤ i ∧ v11 = .int .i64 k ∧ Aside0 (AtR R w wr t 1024 ((i : Int) + 1) (clo (hdsUpto rows i) i tn k) ∧ Mine R w wr (.slice Av i cv) (numsUpto i)))
      case atStart => exact ⟨0, ⟨by omega⟩, by omega, rfl, ⟨HT.out, HM.out⟩⟩
      case round =>
        clear HT HM
        obtain ⟨k, HF, hk, rfl, HS⟩ := hrel
        by_cases hlt : k < i
        · obtain ⟨q, hq⟩ : ∃ q, q = (k + tn) % i := ⟨_, rfl⟩
          have hqi : q < i := by rw [hq]; exact Nat.mod_lt _ (by omega)
          obtain ⟨b, c, ev, _, hcell⟩ := own_cell HS.out.2.own (i := q) (by rw [numsUpto_len]; exact hqi)
          rw [numsUpto_len] at ev
          injection ev with ev _ ev3
          subst ev ev3
          have hqv : (numsUpto i)[q]'(by rw [numsUpto_len]; exact hqi) = (q : Int) + 1 := by simp [numsUpto]
          rw [hqv] at hcell
          have hu : IntKind.i64.wrap (tn : Int) = tn := IntWalk.i64_in _ ⟨by omega, by omega⟩
          have hm : ((k : Int) + (tn : Int)) % (i : Int) = (q : Int) := by rw [hq, Int.natCast_emod, Int.natCast_add]
          have hiz : ¬ ((i : Int) = 0) := by omega
          have hiz2 : ¬ (i = 0) := by omega
          obtain ⟨c1, c2, c3, c4⟩ := clo_ok rows i tn k (by omega)
          have hs := getL_some.2 (c3 k (Nat.le_refl _) hlt)
          rw [← hq] at hs
          have HC := Aside0.mk (atR_close HS.out.1 (fun x hx => Nat.le_trans (hds_bound HL.out x (c4 x hx)) (by decide)) (by omega) ((q : Int) + 1))
          rw [hs] at HC
          have HM := Aside0.mk HS.out.2
          have HQ := Aside0.mk hq
          clear HS hqv hq c1 c2 c3 c4 hs
          go_wp2_with (go_at_call 15; refine HC.out.mono ?_; clear HC; rintro e w6 ⟨rfl, hA, hK⟩; have HA := Aside0.mk hA; have HK := Aside0.mk hK; clear hA hK)
          go_roundg (i - (k + 1))
          case measure => have := HF.out; omega
          case rel =>
            refine ⟨k + 1, ⟨by omega⟩, by omega, by go_num, ⟨?_, HM.out.keep HK.out⟩⟩
            have := HA.out
            rw [HQ.out] at this
            exact this
        · obtain rfl : k = i := by omega
          obtain ⟨w6, hw6⟩ : ∃ w6, w6 = wr := ⟨_, rfl⟩
          subst hw6
          have hnil : clo (hdsUpto rows k) k tn k = [] := by
            have := (clo_ok rows k tn k (Nat.le_refl _)).2.1
            exact List.eq_nil_of_length_eq_zero (by omega)
          have HT := HS.out.1
          rw [hnil] at HT
          replace HT := Aside0.mk HT
          clear HS HF hk hlt hnil
          go_wp2
          go_loopg [12] k (fun f v12 wr => ∃ i : Nat, Aside0 (f + i = k) ∧ i ≤ k ∧ v12 = .int .i64 i ∧ Aside0 (AtR R w wr t 1024 ((k : Int) + 1) []))
          case atStart => exact ⟨0, ⟨by omega⟩, by omega, rfl, HT⟩
          case round =>
            clear HT
            obtain ⟨i, HF, hi, rfl, HS⟩ := hrel
            obtain ⟨w7, hw7⟩ : ∃ w7, w7 = wr := ⟨_, rfl⟩
            subst hw7
            by_cases hlt : i < k
            · have hyl := HL.out i hlt
              go_wp2
              go_loopg [13] (rows.getD i []).length (fun f v13 wr => ∃ j : Nat, Aside0 (f + j = (rows.getD i []).length) ∧ j ≤ (rows.getD i []).length ∧ v13 = .int .i64 j ∧ Aside0 (AtR R w wr t 1024 ((k : Int) + 1) []))
              case atStart => exact ⟨0, ⟨by omega⟩, by omega, rfl, HS⟩
              case round =>
                clear HS
                obtain ⟨j, HF2, hj, rfl, HS⟩ := hrel
                obtain ⟨ad, A1, c1, rfl, hcell, hcc, hrr⟩ := rows_at H0.out HS.out.below hlt
                obtain ⟨ys, hys⟩ : ∃ ys, ys = rows.getD i [] := ⟨_, rfl⟩
                rw [← hys] at hcell hcc hrr hyl HF2 hj
                have HYS := Aside0.mk hys
                clear hys
                by_cases hlt2 : j < ys.length
                · obtain ⟨ad2, rfl, hc2⟩ := (HS.out.reads hrr).1.2.2 (by omega)
                  replace hc2 := hc2 j hlt2
                  rw [getD_lt hlt2] at hc2
                  generalize ys[j] = y at hc2
                  have HC := Aside0.mk (pinned_tb HS.out.tb y)
                  rw [show decide (0 < cnt [] y) = false from rfl] at HC
                  clear hrr
                  go_wp2_with (go_at_call 26; refine HC.out.mono ?_; clear HC; rintro e w8 ⟨rfl, rfl⟩)
                  go_roundg (ys.length - (j + 1))
                  case measure => have := HF2.out; omega
                  case rel => exact ⟨j + 1, ⟨by rw [← HYS.out]; omega⟩, by rw [← HYS.out]; omega, by go_num, HS⟩
                · clear hrr
                  go_wp2
                  go_roundg (k - (i + 1))
                  case measure => have := HF.out; omega
                  case rel => exact ⟨i + 1, ⟨by omega⟩, by omega, by go_num, HS⟩
            · have HC := Aside0.mk (many_tb HS.out.tb)
              have HE := Aside0.mk HS.out.below
              clear HS
              go_wp2_with (go_at_call 19; refine HC.out.mono ?_; clear HC; rintro e w8 ⟨rfl, rfl⟩)
              go_ret
              exact ⟨rfl, HE.out⟩
end Go.Proofs.Ytdfjacpfmjgfiaa
