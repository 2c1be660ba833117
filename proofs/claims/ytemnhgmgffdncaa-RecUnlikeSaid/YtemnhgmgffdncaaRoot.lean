/-
  Layer 4: a Root's fields, as they are got: the walk.
-/
import Derived.Test.YtemnhgmgffdncaaOf
namespace Go.Proofs.Ytemnhgmgffdncaa
set_option linter.unusedVariables false
set_option linter.unusedSimpArgs false
open Go.RowKit Go.Proofs.YtemnhgmgffdncaaW.PrintWords Go.Proofs.YtemnhgmgffdncaaW.PrintMore
attribute [local go_sem] max2_int

theorem RdAt.keep {W W' : World} {gb B0 : Nat} {xs : List Int} {S : Nat → Prop} (h : RdAt W gb B0 xs) (hk : KeepS S W W') (hgb : ¬ S gb) (hS : ∀ k, S k → B0 ≤ k) : RdAt W' gb B0 xs := by
  obtain ⟨A, c, h⟩ := h
  refine ⟨A, c, (hk.block gb (lt_heap h.blk) hgb).trans h.blk, h.le, ⟨h.rd.1, h.rd.2.1, fun hn => ?_⟩, h.low⟩
  obtain ⟨ad, e, hc⟩ := h.rd.2.2 hn
  refine ⟨ad, e, fun j hj => ?_⟩
  have hb : (ad.add j).block = ad.block := by unfold Addr.add; split <;> rfl
  have hlo := h.low (fun e => by rw [e] at hn; exact absurd hn (Nat.lt_irrefl 0)) ad e
  rw [hk.cell (World.block_lt_of_cell? W (ad.add j) (hc j hj)) (fun e => by have := hS _ e; rw [hb] at this; omega)]
  exact hc j hj
def Made39 (B : Nat) (x : Loc3) (v : Value) (W : World) : Prop := ∃ q, v = .slice (some ⟨q, 0, none⟩) 1 1 ∧ B ≤ q ∧ W.heap[q]? = some (.cells #[.int .i64 x.1, .int .i64 x.2.1, .int .i64 x.2.2] 39 (0, 0))
theorem Made39.keep {B : Nat} {x : Loc3} {v : Value} {W W' : World} (h : Made39 B x v W) (hk : ∀ (q : Nat) (o : Obj), B ≤ q → W.heap[q]? = some o → W'.heap[q]? = some o) : Made39 B x v W' := h.elim fun q h => ⟨q, h.1, h.2.1, hk q _ h.2.1 h.2.2⟩
theorem locs_run {W : World} (B : Nat) (v : Value) (acc : List Loc3) (x : Loc3) (q : Nat) (ho : W.ownsRow B 39 3 v acc.length (locCells acc)) (hq : W.heap[q]? = some (.cells #[.int .i64 x.1, .int .i64 x.2.1, .int .i64 x.2.2] 39 (0, 0))) (hB : B ≤ W.heap.size) (hl : acc.length ≤ 65536) :
    ∃ v1 w1, (Builtin.append_ #[22, 22] 22 #[v, .slice (some ⟨q, 0, none⟩) 1 1]).run Try.prog W = .ok v1 w1 ∧ w1.ownsRow B 39 3 v1 (acc ++ [x]).length (locCells (acc ++ [x])) ∧ W.grownBy w1 v.ownBlock := by
  obtain ⟨i0, hi, hz0, hz1, hz2⟩ := parts3 info39
  obtain ⟨v1, w1, hr, h2, h3, _⟩ := run_append_own_at (P := Try.prog) W B 22 22 39 i0 _ 3 24 Try.underlying22 hi hz0 hz1 hz2 rfl (by omega) v acc.length (locCells acc) ho ⟨q, 0, none⟩ 1 1 (locCells [x]) rfl
    (fun j u hu => by
      rw [add_plain, cell_of_row W q j _ 39 (0, 0) hq]
      rw [← hu]
      simp [locCells])
    (locCells_one [x]) (by simp only [maxLen]; omega) (Nat.le_trans (Nat.mul_le_mul_right 24 (show acc.length + 1 ≤ 65537 by omega)) (by decide)) hB
  refine ⟨v1, w1, hr, ?_, h3⟩
  rw [locCells_append, List.length_append]; exact h2
def RootPost (g gb : Nat) (kind no : Int) (vB : Value) (w : World) (r : Option (ByteArray × Int × Int × List Loc3)) (e : Ending) (w' : World) : Prop :=
  e = .returned (.bool r.isSome) ∧ (∀ x, r = some x → ∃ vL, RecIs w' g kind x.1 x.2.1 no x.2.2.1 vL vB ∧ w'.ownsRow w.heap.size 39 3 vL x.2.2.2.length (locCells x.2.2.2)) ∧ Two g gb w w'
theorem RootPost.none {g gb : Nat} {kind no : Int} {vB : Value} {w w' : World} {r : Option (ByteArray × Int × Int × List Loc3)} {e : Ending} (hr : r = none) (he : e = .returned (.bool false)) (h : Two g gb w w') : RootPost g gb kind no vB w r e w' := by
  subst hr
  exact ⟨he, fun x hx => (by cases hx), h⟩
set_option maxRecDepth 100000 in
set_option maxHeartbeats 4000000 in
theorem rootOf_calls {B0 : Nat} (g gb : Nat) (kind : Int) (key : ByteArray) (id no size : Int) (vB : Value) (xs : List Int) (w : World) (hB0 : B0 ≤ w.heap.size) (hg0 : B0 ≤ g) (hr : RecIs w g kind key id no size (.slice none 0 0) vB) (hb : RdAt w gb B0 xs) (hu : u8s xs) (hl : xs.length ≤ 100000000000) :
    Calls Try.prog 33 #[.pointer (some ⟨g, 0, none⟩), .pointer (some ⟨gb, 0, none⟩)] w (RootPost g gb kind no vB w (rootF xs)) := by
  have HNE := Aside0.mk (ne_ptr hr hb)
  have HB00 := Aside0.mk hB0
  have HG00 := Aside0.mk hg0
  clear hB0 hg0
  have HNG : Aside0 (some g ≠ some gb) := ⟨by have := HNE.out; intro e; injection e with e; exact this e⟩
  have HR := Aside0.mk hr
  have HB := Aside0.mk hb
  have HUK := Aside0.mk (keyF_u8s hu)
  have H1 : Aside0 (KeyIs B0 g gb kind key id no size (.slice none 0 0) vB xs (keyF xs)) := ⟨⟨fun w h1 h2 => keyed_calls g gb kind key id no size (.slice none 0 0) vB xs w h1 h2 hu⟩⟩
  have hll : (keyF xs).2.1.length ≤ 100000000000 := Nat.le_trans (keyF_len xs) hl
  obtain ⟨res, hres⟩ : ∃ res, res = rootF xs := ⟨_, rfl⟩
  rw [← hres]
  unfold rootF at hres
  have HF := Aside0.mk hres
  clear hres
  clear hr hb hu hl
  generalize keyF xs = pk at HUK H1 HF hll
  obtain ⟨key1, xs1, ok⟩ := pk
  simp only at HUK H1 HF hll
  have H6 : Aside0 (NumIs B0 gb 6 xs1 (numF xs1 6)) := ⟨⟨fun w h => num_any gb 6 xs1 w h (by decide) HUK.out⟩⟩
  have HU6 := Aside0.mk (numF_u8s HUK.out 6)
  have hl6 := Nat.le_trans (numF_len xs1 6) hll
  generalize numF xs1 6 = p6 at H6 HF HU6 hl6
  obtain ⟨id1, xs2⟩ := p6
  simp only at H6 HF HU6 hl6
  have H3 : Aside0 (NumIs B0 gb 3 xs2 (numF xs2 3)) := ⟨⟨fun w h => num_any gb 3 xs2 w h (by decide) HU6.out⟩⟩
  have HU3 := Aside0.mk (numF_u8s HU6.out 3)
  have hl3 := Nat.le_trans (numF_len xs2 3) hl6
  generalize numF xs2 3 = p3 at H3 HF HU3 hl3
  obtain ⟨size1, xs3⟩ := p3
  simp only at H3 HF HU3 hl3
  have H2 : Aside0 (NumIs B0 gb 2 xs3 (numF xs3 2)) := ⟨⟨fun w h => num_any gb 2 xs3 w h (by decide) HU3.out⟩⟩
  have HU2 := Aside0.mk (numF_u8s HU3.out 2)
  have hl2 := Nat.le_trans (numF_len xs3 2) hl3
  have hmr := numF_range HU3.out 2
  generalize numF xs3 2 = p2 at H2 HF HU2 hl2 hmr
  obtain ⟨many, xs4⟩ := p2
  simp only at H2 HF HU2 hl2 hmr
  obtain ⟨hm0, hm1⟩ := hmr
  have hm2 : many < 65536 := hm1
  clear hm1 hll hl6 hl3
  cases ok with
  | false =>
    go_enter Try.func33, Try.ntmps33
    go_wp2_with (go_at_call 46; refine (H1.out.run _ HR.out HB.out).mono ?_; rintro e w1 ⟨rfl, hr1, hb1, hg1⟩; have HG1 := Aside0.mk hg1; clear hr1 hb1 hg1)
    go_ret
    exact RootPost.none (by rw [HF.out]; rfl) rfl HG1.out
  | true =>
    rw [if_pos rfl] at HF
    go_enter Try.func33, Try.ntmps33
    go_upto_region 3 with (go_at_call 46; refine (H1.out.run _ HR.out HB.out).mono ?_; rintro e w1 ⟨rfl, hr1, hb1, hg1⟩; have HR1 := Aside0.mk hr1; have HB1 := Aside0.mk hb1; have HG1 := Aside0.mk hg1; clear hr1 hb1 hg1)
    go_upto_region 4 with (first
      | (go_at_call 44; ((with_reducible refine (H6.out.run _ HB1.out).mono ?_)); rintro e w2 ⟨rfl, hrd, hg⟩; have HB2 := Aside0.mk hrd; have HG2 := Aside0.mk hg; have HR2 := Aside0.mk (HR1.out.far hg HNG.out); clear hrd hg)
      | (go_at_call 44; ((with_reducible refine (H3.out.run _ HB2.out).mono ?_)); rintro e w3 ⟨rfl, hrd, hg⟩; have HB3 := Aside0.mk hrd; have HG3 := Aside0.mk hg; have HR3 := Aside0.mk (HR2.out.far hg HNG.out); have c2 := HR3.out.c2; have f2 := HR3.out.fr 2; have c4 := HR3.out.c4; have f4 := HR3.out.fr 4; clear hrd hg))
    have HR4 := Aside0.mk ((HR3.out.set2 id1).set4 size1)
    have HB4 := Aside0.mk ((HB3.out.set (i := 2) (u := .int .i64 id1) (fun e => HNE.out e.symm) HR3.out.c2 (fun z e => by cases e)).set (i := 4) (u := .int .i64 size1) (fun e => HNE.out e.symm) (HR3.out.set2 id1).c4 (fun z e => by cases e))
    have HG4 := Aside0.mk (show Two g gb w _ from (((HG1.out.trans (Two.right HG2.out)).trans (Two.right HG3.out)).trans (Two.left (grown_set w3 g 2 (.int .i64 id1)))).trans (Two.left (grown_set _ g 4 (.int .i64 size1))))
    clear c2 f2 c4 f4
    generalize (w3.setCell ⟨g, 2, none⟩ (.int .i64 id1)).setCell ⟨g, 4, none⟩ (.int .i64 size1) = w4 at HR4 HB4 HG4 ⊢
    go_upto_region 5 with (go_at_call 44; refine (H2.out.run _ HB4.out).mono ?_; rintro e w5 ⟨rfl, hrd, hg⟩; have HB5 := Aside0.mk hrd; have HR5 := Aside0.mk (HR4.out.far hg HNG.out); have HG5 := Aside0.mk (HG4.out.trans (Two.right hg)); clear hrd hg)
    by_cases hneg : many < 0
    · have HRES := Aside0.mk (show res = none by rw [HF.out, if_neg (by omega)])
      have hd : decide (many ≥ 0) = false := by simp; omega
      go_wp2
      go_loopg [25] 0 (fun f v25 wz => v25 = .int .i64 0 ∧ w5 = wz)
      case atStart => exact ⟨rfl, rfl⟩
      case round =>
        obtain ⟨rfl, rfl⟩ := hrel
        go_wp2
        go_ret
        exact RootPost.none HRES.out rfl HG5.out
    · obtain ⟨M, rfl⟩ : ∃ M : Nat, many = (M : Int) := ⟨many.toNat, by omega⟩
      rw [Int.toNat_natCast] at HF
      have hMb : M < 65536 := by omega
      have hd : decide ((M : Int) ≥ 0) = true := by simp
      go_wp2
      have HO5 := Aside0.mk (World.ownsRow_nil w5 w.heap.size 39 3)
      go_loopg [6, 25] M (fun f v6 v25 wz => ∃ (i : Nat) (acc : List Loc3) (ys : List Int) (vL : Value), Aside0 (f + i = M) ∧ i ≤ M ∧ v25 = .int .i64 i ∧ Aside0 (acc.length = i) ∧ Aside0 (locsF (M - i) acc ys = locsF M [] xs4) ∧ Aside0 (u8s ys) ∧ ys.length ≤ 100000000000 ∧ Aside0 (RecIs wz g kind key1 id1 no size1 vL vB) ∧ Aside0 (wz.ownsRow w.heap.size 39 3 vL acc.length (locCells acc)) ∧ Aside0 (RdAt wz gb B0 ys) ∧ Aside0 (Two g gb w wz))
      case atStart => exact ⟨0, [], xs4, .slice none 0 0, ⟨rfl⟩, by omega, rfl, ⟨rfl⟩, ⟨rfl⟩, HU2, hl2, HR5, HO5, HB5, HG5⟩
      case round =>
        obtain ⟨i, acc, ys, vL, HFi, hi, rfl, HAL, HLF, HUY, hyl, HRi, HOi, HBi, HGi⟩ := hrel
        by_cases hlt : i < M
        · have hlt2 : (i : Int) < (M : Int) := by omega
          have HMI := Aside0.mk (more_is (B0 := B0) gb ys HUY.out)
          have HLS := Aside0.mk (show locsF (M - i) acc ys = if (numF (numF (numF ys 4).2 4).2 2).1 < 0 then (acc, [], false) else locsF (M - (i + 1)) (acc ++ [((numF ys 4).1, (numF (numF ys 4).2 4).1, (numF (numF (numF ys 4).2 4).2 2).1)]) (numF (numF (numF ys 4).2 4).2 2).2 by rw [show M - i = (M - (i + 1)) + 1 by omega]; rfl)
          have HUZ := Aside0.mk (numF_u8s (numF_u8s (numF_u8s HUY.out 4) 4) 2)
          have hzl : (numF (numF (numF ys 4).2 4).2 2).2.length ≤ 100000000000 := Nat.le_trans (numF_len _ _) (Nat.le_trans (numF_len _ _) (Nat.le_trans (numF_len _ _) hyl))
          have HA := HMI.out.one
          have HA1 := Aside0.mk HA
          have HA2 := Aside0.mk HMI.out.two
          have HA3 := Aside0.mk HMI.out.three
          clear HA HMI
          simp only at HA1 HA2 HA3
          generalize (numF (numF (numF ys 4).2 4).2 2).2 = zs at HLS HUZ hzl HA3
          generalize (numF (numF (numF ys 4).2 4).2 2).1 = q3 at HLS HA3
          generalize (numF (numF ys 4).2 4).1 = q2 at HLS HA2
          generalize (numF (numF ys 4).2 4).2 = ys2 at HA2 HA3
          generalize (numF ys 4).1 = q1 at HLS HA1
          generalize (numF ys 4).2 = ys1 at HA1 HA2
          go_upto_region 8 with (first
            | (go_at_call 44; ((with_reducible refine (HA1.out.run _ HBi.out).mono ?_)); rintro e u1 ⟨rfl, hrd, hg⟩; have HB1' := Aside0.mk hrd; have HGA := Aside0.mk hg; clear hrd hg)
            | (go_at_call 44; ((with_reducible refine (HA2.out.run _ HB1'.out).mono ?_)); rintro e u2 ⟨rfl, hrd, hg⟩; have HB2' := Aside0.mk hrd; have HGB := Aside0.mk hg; clear hrd hg)
            | (go_at_call 44; ((with_reducible refine (HA3.out.run _ HB2'.out).mono ?_)); rintro e u3 ⟨rfl, hrd, hg⟩; have HB3' := Aside0.mk hrd; have HGC := Aside0.mk hg; clear hrd hg))
          have HRu := Aside0.mk (((HRi.out.far HGA.out HNG.out).far HGB.out HNG.out).far HGC.out HNG.out)
          have hnb : ∀ k, vL.ownBlock = some k → k ≠ gb := fun k hk e => by
            obtain ⟨cs, hcs⟩ := own_typed HOi.out k hk
            obtain ⟨A, c, h⟩ := HBi.out
            rw [e, h.blk] at hcs
            injection hcs with hcs
            injection hcs with _ hcs
            cases hcs
          have hkb : ∀ (U V : World) (k : Nat) (cs : Array Value), U.grownBy V (some gb) → k ≠ gb → U.heap[k]? = some (Obj.cells cs 39 (0, 0)) → V.heap[k]? = some (.cells cs 39 (0, 0)) := fun U V k cs hg hne hk => (hg.block k (lt_heap hk) (fun e => by injection e with e; exact hne e)).trans hk
          have HOu := Aside0.mk (own_keep HOi.out fun k hk _ cs hcs => hkb _ _ k cs HGC.out (hnb k hk) (hkb _ _ k cs HGB.out (hnb k hk) (hkb _ _ k cs HGA.out (hnb k hk) hcs)))
          have HGu := Aside0.mk (((HGi.out.trans (Two.right HGA.out)).trans (Two.right HGB.out)).trans (Two.right HGC.out))
          clear hnb hkb
          have HVL := Aside0.mk (show ∀ k, vL.ownBlock = some k → k ≠ u3.heap.size from fun k hk => by have := (HOu.out.lt k hk).2; omega)
          have hgr : Grows u3 (u3.alloc (.cells #[.int .i64 q1, .int .i64 q2, .int .i64 q3] 39)) := (Below.refl _ _).alloc (Nat.le_refl _) _
          have HR7 := Aside0.mk (HRu.out.grows hgr)
          have HO7 := Aside0.mk (own_grows HOu.out hgr)
          have HB7 := Aside0.mk (HB3'.out.grows hgr)
          have HG7 := Aside0.mk (HGu.out.trans (Two.grows hgr))
          have HL7 := Aside0.mk (heap_alloc_new u3 (.cells #[.int .i64 q1, .int .i64 q2, .int .i64 q3] 39))
          clear hgr HGA HGB HGC HRu HOu HGu HRi HOi HGi HB1' HB2' HB3' HBi
          generalize u3.alloc (.cells #[.int .i64 q1, .int .i64 q2, .int .i64 q3] 39) = u4 at HR7 HO7 HB7 HG7 HL7 ⊢
          generalize u3.heap.size = lb at HL7 HVL ⊢
          have l2 := cell_of_row u4 lb 2 _ 39 (0, 0) HL7.out
          by_cases hq : q3 < 0
          · have HRES := Aside0.mk (show res = none by
              have h := HLS.out
              rw [if_pos hq, HLF.out] at h
              rw [HF.out, h, if_neg (by simp)])
            go_wp2
            go_ret
            exact RootPost.none HRES.out rfl HG7.out
          · have HLN := Aside0.mk (show locsF (M - (i + 1)) (acc ++ [(q1, q2, q3)]) zs = locsF M [] xs4 by
              have h := HLS.out
              rw [if_neg hq] at h
              rw [← h, HLF.out])
            have hd3 : decide (q3 < 0) = false := by simpa using hq
            go_upto_region 10 with fail
            have HBW := Aside0.mk HG7.out.size
            have hal : acc.length ≤ 65536 := by rw [HAL.out]; omega
            have HAC := Aside0.mk hal
            have HGB := Aside0.mk (show ¬ (gb = g ∨ vL.ownBlock = some gb) from fun e => by
              rcases e with e | e
              · exact HNE.out e.symm
              · obtain ⟨cs, hcs⟩ := own_typed HO7.out gb e
                obtain ⟨A, c, h⟩ := HB7.out
                rw [h.blk] at hcs
                injection hcs with hcs
                injection hcs with _ hcs
                cases hcs)
            have HSB := Aside0.mk (show ∀ k, (k = g ∨ vL.ownBlock = some k) → B0 ≤ k from fun k e => by
              rcases e with e | e
              · rw [e]; exact HG00.out
              · have := (HO7.out.lt k e).1; have := HB00.out; omega)
            have HLB := Aside0.mk (show ¬ (lb = g ∨ vL.ownBlock = some lb) from fun e => by
              rcases e with e | e
              · have h := HL7.out
                rw [e, HR7.out.blk] at h
                injection h with h
                injection h with _ h
                cases h
              · exact HVL.out lb e rfl)
            clear hal l2 hd3
            obtain ⟨zac, hzac⟩ : ∃ z, z = acc ++ [(q1, q2, q3)] := ⟨_, rfl⟩
            have HZ := Aside0.mk hzac
            clear hzac
            apply wp_region_phase Grows (KeepS (fun k => k = g ∨ vL.ownBlock = some k)) (phaseK _) (fun w' => RecIs w' g kind key1 id1 no size1 vL vB ∧ w'.ownsRow w.heap.size 39 3 vL acc.length (locCells acc)) ⟨HR7.out, HO7.out⟩ (fun a c h hh => ⟨hh.1.grows h, own_grows hh.2 h⟩) (hm := by kernel_rfl) (hB := by kernel_rfl)
            case h =>
              iterate 4
                apply phase_fixed
                case hw => simp [Region.wanted, yielded]
                case ho =>
                  intro w' hk hf
                  clear hf
                  refine ⟨?_⟩
                  go_simp
                  exact ⟨Grows.refl _, rfl⟩
                simp only [Act.put, List.setIfInBounds_toArray, List.set_cons_zero, List.set_cons_succ]
              apply phase_turn (c := vL) (J := fun w' => RecIs w' g kind key1 id1 no size1 vL vB ∧ w'.ownsRow w.heap.size 39 3 vL acc.length (locCells acc))
              case hw => simp [Region.wanted, yielded]
              case ho =>
                intro w' hk hf hI
                clear hf
                have k5 := hI.1.c5
                have HI := Aside0.mk hI
                clear hI
                refine ⟨?_⟩
                go_simp
                exact ⟨KeepS.refl _ _, HI.out, rfl⟩
              case hJ => exact fun a c h hh => ⟨hh.1.grows h, own_grows hh.2 h⟩
              simp only [Act.put, List.setIfInBounds_toArray, List.set_cons_zero, List.set_cons_succ]
              apply phase_fixed (c := .agg #[.int .i64 q1, .int .i64 q2, .int .i64 q3])
              case hw => simp [Region.wanted, yielded]
              case ho =>
                intro w' hk hf
                clear hf
                exact growAt_load_row 39 (.tmp 6) rfl lb rfl 39 _ (0, 0) _ ((hk.block lb (lt_heap HL7.out) HLB.out).trans HL7.out) Try.underlying39 rfl (by kernel_rfl) ⟨Grows.refl _, rfl⟩
              simp only [Act.put, List.setIfInBounds_toArray, List.set_cons_zero, List.set_cons_succ]
              apply phase_free (G := Made39 u4.heap.size (q1, q2, q3))
              case hw => simp [Region.wanted, yielded]
              case ho =>
                intro w' hk hf
                clear hf
                refine ⟨?_⟩
                go_simp
                exact ⟨(Below.refl _ _).alloc (Nat.le_refl _) _, _, rfl, hk.size, heap_alloc_new w' _⟩
              case hm => exact fun v a c h hk => h.keep (fun q o hB hc => (hk.block q (lt_heap hc) (fun e => e.elim (fun e => by have := HR7.out.lt; omega) (fun e => by have := (HO7.out.lt q e).2; omega))).trans hc)
              intro v43
              simp only [Act.put, List.setIfInBounds_toArray, List.set_cons_zero, List.set_cons_succ]
              apply phase_turn_free (G := fun v W => True) (J := fun v44 w' => RecIs w' g kind key1 id1 no size1 vL vB ∧ w'.ownsRow w.heap.size 39 3 v44 zac.length (locCells zac))
              case hw => simp [Region.wanted, yielded]
              case ho =>
                intro w' hk hf hI
                obtain ⟨q, e43, hq1, hq2⟩ : Made39 u4.heap.size (q1, q2, q3) v43 w' := hf _ (List.Mem.head _) (by kernel_rfl)
                clear hf
                subst e43
                obtain ⟨v1, w1, hr, ho, hg⟩ := locs_run w.heap.size vL acc (q1, q2, q3) q hI.2 hq2 (Nat.le_trans HBW.out hk.size) HAC.out
                rw [← HZ.out] at ho
                have hng : some g ≠ vL.ownBlock := fun e => by
                  obtain ⟨cs, hcs⟩ := own_typed hI.2 g e.symm
                  rw [hI.1.blk] at hcs
                  injection hcs with hcs
                  injection hcs with _ hcs
                  cases hcs
                exact growAt_append (.tmp 41) (.tmp 43) 22 rfl rfl rfl ⟨v1, w1, hr, KeepS.of_grown hg (fun k e => .inr e), ⟨hI.1.far hg hng, ho⟩, trivial⟩
              case hJ => exact fun v a c h hh => ⟨hh.1.grows h, own_grows hh.2 h⟩
              case hm => exact fun _ _ _ _ _ => trivial
              intro v44
              simp only [Act.put, List.setIfInBounds_toArray, List.set_cons_zero, List.set_cons_succ]
              iterate 2
                apply phase_fixed
                case hw => simp [Region.wanted, yielded]
                case ho =>
                  intro w' hk hf
                  clear hf
                  refine ⟨?_⟩
                  go_simp
                  exact ⟨Grows.refl _, rfl⟩
                simp only [Act.put, List.setIfInBounds_toArray, List.set_cons_zero, List.set_cons_succ]
              apply phase_turn (c := undef) (J := fun w' => ∃ v, RecIs w' g kind key1 id1 no size1 v vB ∧ w'.ownsRow w.heap.size 39 3 v zac.length (locCells zac))
              case hw => simp [Region.wanted, yielded]
              case ho =>
                intro w' hk hf hI
                clear hf
                obtain ⟨A44, c44, e44, _⟩ := own_slice hI.2
                subst e44
                have k5 := hI.1.c5
                have f5 := hI.1.fr 5
                have HI := Aside0.mk hI
                clear hI
                refine ⟨?_⟩
                go_simp
                exact ⟨KeepS.of_grown (grown_set w' g 5 _) (fun q e => .inl (by injection e with e; exact e.symm)), ⟨_, HI.out.1.set5 _, own_set HI.out.2 HI.out.1.blk (by decide)⟩, rfl⟩
              case hJ => exact fun a c h hh => hh.elim fun v hh => ⟨v, hh.1.grows h, own_grows hh.2 h⟩
              simp only [Act.put, List.setIfInBounds_toArray, List.set_cons_zero, List.set_cons_succ]
              refine phase_nil (fun u5 hk5 hI _ => ?_)
              obtain ⟨v5, hr5, ho5⟩ := hI
              have HR8 := Aside0.mk hr5
              have HO8 := Aside0.mk (HZ.out ▸ ho5)
              have HB8 := Aside0.mk (HB7.out.keep hk5 HGB.out HSB.out)
              have HG8 := Aside0.mk (HG7.out.own (hk5.mono fun k _ e => e.elim .inl (fun e => .inr (.inr (HO7.out.lt k e).1))))
              clear hr5 ho5 hk5
              go_wp2
              go_roundg (M - (i + 1))
              case measure => have := HFi.out; omega
              case rel => exact ⟨i + 1, acc ++ [(q1, q2, q3)], zs, v5, ⟨by have := HFi.out; omega⟩, by omega, by go_num, ⟨by rw [List.length_append, HAL.out]; rfl⟩, HLN, HUZ, hzl, HR8, HO8, HB8, HG8⟩
            case ht => kernel_rfl
        · obtain rfl : i = M := by omega
          have HFIN := Aside0.mk (show locsF i [] xs4 = (acc, ys, true) by rw [← HLF.out, Nat.sub_self]; rfl)
          obtain ⟨A, c, hrd⟩ := HBi.out
          have k0 := hrd.cell
          clear hrd
          go_wp2
          go_ret
          have hrs : res = if ys = [] then some (key1, id1, size1, acc) else none := by
            rw [HF.out, HFIN.out]
            by_cases h : ys = []
            · rw [if_pos ⟨by omega, rfl, h⟩, if_pos h]
            · rw [if_neg (fun e => h e.2.2), if_neg h]
          have hb : ((ys.length : Int) == 0) = res.isSome := by
            rw [hrs]
            cases ys with
            | nil => rfl
            | cons y ys => simp; omega
          refine ⟨by rw [← hb]; rfl, fun x hx => ?_, HGi.out⟩
          rw [hrs] at hx
          split at hx
          · obtain rfl := Option.some.inj hx
            exact ⟨vL, HRi.out, HOi.out⟩
          · cases hx
end Go.Proofs.Ytemnhgmgffdncaa
