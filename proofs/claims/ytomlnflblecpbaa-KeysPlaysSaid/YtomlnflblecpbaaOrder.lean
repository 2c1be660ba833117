/-
  The law KeysOrder.
-/
import Derived.Test.YtomlnflblecpbaaTwice
import Derived.Deep.CutBlock
import Derived.Deep.DeepCutAuto
namespace Go.Proofs.Ytomlnflblecpbaa
set_option linter.unusedVariables false
set_option linter.unusedSimpArgs false
open Go.RowKit Go.Proofs.YtomlnflblecpbaaW.PrintWords Go.Proofs.YtomlnflblecpbaaW.PrintMore PKeysPlays
attribute [local go_sem] max2_int min2_int
attribute [local go_sem high] eql32 neq32 guard32
theorem told_at {W : World} {l : List ByteArray} {A : Option Addr} {n c : Nat} (h : ToldS l (.slice A n c) W) {i : Nat} (hi : i < l.length) : ∃ ad, A = some ad ∧ W.cell? (ad.add i) = some (.string l[i]) := by
  obtain ⟨A', c', e, hc, h1, h2, h3⟩ := h
  injection e with e
  subst e
  obtain ⟨ad, ea, hcell⟩ := h3 (by omega)
  obtain ⟨cs, q1, q2, q3⟩ := hcell i l[i] (List.getElem?_eq_getElem hi)
  have := q3 0 (.string l[i]) (by rw [show cs = [Value.string l[i]] from q2]; rfl)
  rw [show i * Kd.string.sz + 0 = i by show i * 1 + 0 = i; omega] at this
  exact ⟨ad, ea, this⟩
def wantOf' (m : List Pl) (key : ByteArray) : Pl := (getM m key).getD zeroPl
theorem ans_of' {m : List Pl} {k : ByteArray} {p : Pl} {b : Bool} (h1 : wantOf' m k = p) (h2 : (getM m k).isSome = b) : ans m k = .tuple #[.agg #[.int .i64 p.seg, .int .i64 p.kind, .string p.key, .int .i64 p.at_, .int .i64 p.size], .bool b] := by subst h1 h2; rfl
theorem keys_get {m : List Pl} (h : SortedM m) {k : ByteArray} (hk : k ∈ keysM m) : ∃ p, getM m k = some p ∧ p.key = k := by
  have := mem_keysM.1 hk
  cases hg : getM m k with
  | none => rw [hg] at this; cases this
  | some p => exact ⟨p, rfl, (getM_mem hg).2⟩
theorem any_keys {m : List Pl} {k : ByteArray} : ((keysM m).any fun y => y.toList == k.toList) = (getM m k).isSome := by
  rw [Bool.eq_iff_iff, List.any_eq_true, ← mem_keysM]
  constructor
  · rintro ⟨y, hy, he⟩
    rw [← key_eqb he]; exact hy
  · intro h; exact ⟨k, h, by simp⟩
theorem any_take {K : List ByteArray} {k : ByteArray} {i : Nat} (hi : i < K.length) : ((K.take (i + 1)).any fun y => y.toList == k.toList) = (((K.take i).any fun y => y.toList == k.toList) || (K[i].toList == k.toList)) := by
  rw [List.take_succ_eq_append_getElem hi, List.any_append]; simp
set_option maxRecDepth 100000 in
set_option maxHeartbeats 8000000 in
theorem order_calls (w : World) {A1 : Option Addr} {c1 : Nat} (l : List S34) (hr : Kd.C k34 w A1 l.length l) (hc1 : l.length ≤ c1) (hl : l.length ≤ 4611686018427387904) :
    Calls Try.prog 5 #[.slice A1 l.length c1] w fun e w' => e = .returned (.bool true) ∧ Below w.heap.size w w' := by
  obtain ⟨kg, rg, hgr, hgf⟩ := great_tells l hl
  have HR := Aside0.mk hr
  have HGR := Aside0.mk hgr
  have HGF := Aside0.mk hgf
  clear hr hgr hgf
  go_enter Try.func5, Try.ntmps5
  go_upto_region 3 with (first
    | (go_at_call 9; refine (head_calls _).mono ?_; rintro e w1 ⟨rfl, hb⟩; have HB := Aside0.mk hb; clear hb)
    | (go_at_call 10; refine (p_new (p_start HB.out)).mono ?_; rintro e w2 ⟨d, rfl, hP⟩; have HP := Aside0.mk hP; clear hP HB))
  cases rg with
  | true =>
    go_wp2_with (go_at_call 12; refine (souterrainlaw13_great.calls kg A1 c1 l true _ (Kd.C_below HR.out HP.out.below) hc1 HGR.out).mono ?_; rintro e w3 ⟨rfl, hb2⟩; have HP2 := Aside0.mk (HP.out.grows hb2); clear hb2 HP)
    go_ret
    exact ⟨rfl, HP2.out.below⟩
  | false =>
    have HKS := Aside0.mk (HGF.out rfl).1
    have hl3 := (HGF.out rfl).2
    clear HGF
    go_upto_region 5 with (go_at_call 12; refine (souterrainlaw13_great.calls kg A1 c1 l false _ (Kd.C_below HR.out HP.out.below) hc1 HGR.out).mono ?_; rintro e w3 ⟨rfl, hb2⟩; have HP2 := Aside0.mk (HP.out.grows hb2); clear hb2 HP)
    go_upto_block 0 with fail
    go_cut [5] (fun v5 wc => ∃ (m : List Pl), m.length ≤ 300 ∧ Aside0 (∀ q ∈ m, q.key.size ≤ 9000) ∧ Aside0 (P2 (dirB d m) noB (fun _ => False) w wc))
    case first =>
      go_wp2
      go_loopg [5] l.length (fun f v5 wr => ∃ (i : Nat) (m : List Pl), Aside0 (f + i = l.length) ∧ i ≤ l.length ∧ v5 = .int .i64 i ∧ m.length ≤ i ∧ Aside0 (∀ q ∈ m, q.key.size ≤ 9000) ∧ Aside0 (P2 (dirB d m) noB (fun _ => False) w wr))
      case atStart => exact ⟨0, [], ⟨by omega⟩, by omega, rfl, by simp, ⟨fun q hq => by cases hq⟩, HP2⟩
      case round =>
        clear HP2
        obtain ⟨i, m, HF, hi, rfl, hml, HQS, HS⟩ := hrel
        by_cases hlt : i < l.length
        · obtain ⟨ad, rfl, ho⟩ := op_at HR.out HS.out.below hlt
          have HKL := Aside0.mk (HKS.out _ (List.getElem_mem hlt))
          obtain ⟨h0, h1, h2, h3, h4, h5, h6⟩ := ho
          generalize l[i] = x at h0 h1 h2 h3 h4 h5 h6 HKL
          generalize x.f0 = what at *
          clear h6
          generalize hpo : opPl x = po at *
          clear hpo
          obtain ⟨ps, pk, py, pa, pz⟩ := po
          dsimp only at h1 h2 h3 h4 h5 HKL
          have HLP := Aside0.mk (put_length_le m (⟨ps, pk, py, pa, pz⟩ : Pl))
          have HLD := Aside0.mk (del_length_le m py)
          cases hw3 : (what == 3) with
          | true =>
            have HD := Aside0.mk (p_del HS.out py (by have := HKL.out; omega) (by omega))
            go_wp2_with (go_at_call 13; refine HD.out.mono ?_; clear HD; rintro e w8 ⟨rfl, hP, hK⟩; have HS8 := Aside0.mk hP; clear hP hK)
            go_roundg (l.length - (i + 1))
            case measure => have := HF.out; omega
            case rel => exact ⟨i + 1, delM m py, ⟨by omega⟩, by omega, by go_num, by have := HLD.out; omega, ⟨fun q hq => HQS.out q (mem_delM.1 hq).1⟩, HS8⟩
          | false =>
            have HD := Aside0.mk (p_put HS.out (⟨ps, pk, py, pa, pz⟩ : Pl) (by have := HKL.out; show py.size ≤ _; omega) (by omega))
            go_wp2_with (go_at_call 20; refine HD.out.mono ?_; clear HD; rintro e w8 ⟨rfl, hP, hK⟩; have HS8 := Aside0.mk hP; clear hP hK)
            go_roundg (l.length - (i + 1))
            case measure => have := HF.out; omega
            case rel => exact ⟨i + 1, putM m (⟨ps, pk, py, pa, pz⟩ : Pl), ⟨by omega⟩, by omega, by go_num, by have := HLP.out; omega, ⟨fun q hq => by
              rcases mem_putM.1 hq with rfl | hq
              · exact HKL.out
              · exact HQS.out q hq.1⟩, HS8⟩
        · go_wp2
          go_meet
          case rel => exact ⟨m, by omega, HQS, HS⟩
    case rest =>
      obtain ⟨m, hm, HQS, HS⟩ := hcut
      have HYS := Aside0.mk (show ∀ k ∈ keysM m, k.size ≤ 9000 from fun k hk => by
        unfold keysM at hk
        obtain ⟨p, hp, rfl⟩ := List.mem_map.1 hk
        exact HQS.out p hp)
      clear HP2
      have HL := Aside0.mk (p_list HS.out (by omega))
      have HSO := Aside0.mk HS.out.sorted
      have hkl : (keysM m).length ≤ 300 := by unfold keysM; rw [List.length_map]; exact hm
      have HML := Aside0.mk (show (keysM m).length = m.length by unfold keysM; rw [List.length_map])
      have HKO := Aside0.mk (keysM_sorted HS.out.sorted)
      have HGK := Aside0.mk (fun k (hk : k ∈ keysM m) => keys_get HS.out.sorted hk)
      have HAN := Aside0.mk (fun k => any_keys (m := m) (k := k))
      go_upto_region 12 with (go_at_call 24; refine HL.out.mono ?_; clear HL; rintro e w4 ⟨v6, rfl, hT, hP, hg⟩; obtain ⟨A6, c6, rfl, hc6, hC6⟩ := id hT; have HT := Aside0.mk hT; have HS4 := Aside0.mk hP; clear hT hP hg hC6 HS)
      obtain ⟨K, hK⟩ : ∃ K, keysM m = K := ⟨_, rfl⟩
      rw [hK] at hkl HML HKO HGK HT hc6 HYS
      simp only [hK] at *
      have HST := Aside0.mk (show P2 (dirB d m) noB (fun _ => False) w w4 ∧ ToldS K (.slice A6 K.length c6) w4 from ⟨HS4.out, HT.out⟩)
      clear HS4 HT hK
      go_wp2
      go_loopg [7, 8, 9] K.length (fun f v7 v8 v9 wr => ∃ (i : Nat), Aside0 (f + i = K.length) ∧ i ≤ K.length ∧ v7 = .int .i64 i ∧ Aside0 (P2 (dirB d m) noB (fun _ => False) w wr ∧ ToldS K (.slice A6 K.length c6) wr))
      case atStart => exact ⟨0, ⟨by omega⟩, by omega, rfl, HST⟩
      case round =>
        clear HST
        obtain ⟨i, HF, hi, rfl, HS⟩ := hrel
        by_cases hlt : i < K.length
        · obtain ⟨ad, rfl, hcell⟩ := told_at HS.out.2 hlt
          obtain ⟨p, hp1, hp2⟩ := HGK.out _ (List.getElem_mem hlt)
          have HPV := Aside0.mk (show 0 < i → ∃ x, wr.cell? (ad.add (i - 1)) = some (.string x) ∧ K[i - 1]? = some x ∧ klt x K[i] = true from fun h => by
            obtain ⟨ad', e, hc⟩ := told_at HS.out.2 (show i - 1 < K.length by omega)
            injection e with e
            subst e
            exact ⟨_, hc, List.getElem?_eq_getElem _, List.pairwise_iff_getElem.1 HKO.out (i - 1) i (by omega) hlt (by omega)⟩)
          obtain ⟨y, hy⟩ : ∃ y, K[i] = y := ⟨_, rfl⟩
          have hys : y.size ≤ 1000000 := by have := HYS.out _ (List.getElem_mem hlt); rw [hy] at this; omega
          rw [hy] at hcell hp1 hp2 HPV
          have HA := Aside0.mk (ans_at hp1)
          obtain ⟨a1, a2, a3, a4, a5⟩ := p
          dsimp only at HA hp2
          subst hp2
          have HC := Aside0.mk (by have := p_get HS.out.1 a3 hys (by omega); rw [HA.out] at this; exact this)
          clear hp1 hy
          go_upto_region 16 with (go_at_call 15; refine HC.out.mono ?_; clear HC; rintro e w6 ⟨rfl, hP, hg⟩; have HP6 := Aside0.mk hP; have HT6 := Aside0.mk (HS.out.2.grows hg); have hcell6 := cell_grows hg hcell; have HPV6 := Aside0.mk (fun h => (by obtain ⟨x, h1, h2, h3⟩ := HPV.out h; exact ⟨x, cell_grows hg h1, h2, h3⟩ : ∃ x, w6.cell? (ad.add (i - 1)) = some (.string x) ∧ K[i - 1]? = some x ∧ klt x a3 = true)); clear hP hg HPV hcell)
          change Code.wp _ _ _ _ (w6.alloc (.cells (Pl.cells ⟨a1, a2, a3, a4, a5⟩) 32))
          have g6 : Grows w6 (w6.alloc (.cells (Pl.cells ⟨a1, a2, a3, a4, a5⟩) 32)) := (Below.refl w6.heap.size w6).alloc (Nat.le_refl _) _
          have HX := Aside0.mk (PBox.new w6 ⟨a1, a2, a3, a4, a5⟩)
          have HS7 := Aside0.mk (show P2 (dirB d m) noB (fun _ => False) w _ ∧ ToldS K _ _ from ⟨HP6.out.grows g6, HT6.out.grows g6⟩)
          have hcell7 := cell_grows g6 hcell6
          have x2 := HX.out.c2
          dsimp only at x2
          have hyy : (a3.toList == a3.toList) = true := beq_self_eq_true _
          by_cases h0 : 0 < i
          · obtain ⟨x, hx1, hx2, hx3⟩ := HPV6.out h0
            have hx7 := cell_grows g6 hx1
            have hlt2 : Op.bytesLess a3.toList x.toList = false := klt_asymm hx3
            have heq2 : (a3.toList == x.toList) = false := by rw [key_beq]; exact decide_eq_false fun e => klt_ne hx3 e.symm
            have hd1 : decide (0 < (i : Int)) = true := decide_eq_true (by omega)
            have hd2 : decide (0 < i) = true := decide_eq_true h0
            have hw1 : IntKind.i64.wrap ((i : Int) - 1) = ((i - 1 : Nat) : Int) := by rw [IntWalk.i64_in _ ⟨by omega, by omega⟩]; omega
            clear hcell6 hx1 hx2 hx3 g6 HP6 HT6 HPV6
            generalize w6.alloc (.cells (Pl.cells ⟨a1, a2, a3, a4, a5⟩) 32) = w7 at *
            generalize w6.heap.size = q8 at *
            go_quiet (fail)
            go_wp2
            go_roundg (K.length - (i + 1))
            case measure => have := HF.out; omega
            case rel => exact ⟨i + 1, ⟨by omega⟩, by omega, by go_num, ⟨HS7.out.1.grows (drew_grows _ _), HS7.out.2.grows (drew_grows _ _)⟩⟩
          · have hd1 : decide (0 < (i : Int)) = false := decide_eq_false (by omega)
            have hd2 : decide (0 < i) = false := decide_eq_false h0
            clear hcell6 g6 HP6 HT6 HPV6
            generalize w6.alloc (.cells (Pl.cells ⟨a1, a2, a3, a4, a5⟩) 32) = w7 at *
            generalize w6.heap.size = q8 at *
            go_quiet (fail)
            go_wp2
            go_roundg (K.length - (i + 1))
            case measure => have := HF.out; omega
            case rel => exact ⟨i + 1, ⟨by omega⟩, by omega, by go_num, ⟨HS7.out.1.grows (drew_grows _ _), HS7.out.2.grows (drew_grows _ _)⟩⟩
        · obtain rfl : i = K.length := by omega
          have HST := HS
          clear HS
          go_wp2
          go_loopg [10, 11, 12, 13, 14] l.length (fun f v10 v11 v12 v13 v14 wr => ∃ (i : Nat), Aside0 (f + i = l.length) ∧ i ≤ l.length ∧ v10 = .int .i64 i ∧ Aside0 (P2 (dirB d m) noB (fun _ => False) w wr ∧ ToldS K (.slice A6 K.length c6) wr))
          case atStart => exact ⟨0, ⟨by omega⟩, by omega, rfl, HST⟩
          case round =>
            clear HST
            obtain ⟨i, HF, hi, rfl, HS⟩ := hrel
            by_cases hlt3 : i < l.length
            · obtain ⟨ad, rfl, ho⟩ := op_at HR.out HS.out.1.below hlt3
              have HKL := Aside0.mk (HKS.out _ (List.getElem_mem hlt3))
              have HOA := Aside0.mk (fun (W : World) (hb : Below w.heap.size w W) => (op_at HR.out hb hlt3).elim fun ad' h => (by have e := h.1; injection e with e; subst e; exact h.2.c3 : W.cell? ⟨(ad.add (i * 7)).block, (ad.add (i * 7)).off + 3, none⟩ = some (.string (opPl l[i]).key)))
              have h3 := ho.c3
              clear ho
              obtain ⟨y, hy⟩ : ∃ y, (opPl l[i]).key = y := ⟨_, rfl⟩
              rw [hy] at HKL h3
              simp only [hy] at HOA
              clear hy
              obtain ⟨p1, hp1⟩ : ∃ p1, wantOf' m y = p1 := ⟨_, rfl⟩
              obtain ⟨b1, hb1⟩ : ∃ b1, (getM m y).isSome = b1 := ⟨_, rfl⟩
              have HA := Aside0.mk (ans_of' hp1 hb1)
              obtain ⟨a1, a2, a3, a4, a5⟩ := p1
              dsimp only at HA
              have HC := Aside0.mk (by have := p_get HS.out.1 y (by have := HKL.out; omega) (by omega); rw [HA.out] at this; exact this)
              have HANY := Aside0.mk (show (K.any fun x => x.toList == y.toList) = b1 by rw [HAN.out y]; exact hb1)
              clear hp1 hb1
              go_upto_region 22 with (go_at_call 15; refine HC.out.mono ?_; clear HC; rintro e w6 ⟨rfl, hP, hg⟩; have HP6 := Aside0.mk hP; have HT6 := Aside0.mk (HS.out.2.grows hg); clear hP hg)
              change Code.wp _ _ _ _ (w6.alloc (.cells (Pl.cells ⟨a1, a2, a3, a4, a5⟩) 32))
              have g6 : Grows w6 (w6.alloc (.cells (Pl.cells ⟨a1, a2, a3, a4, a5⟩) 32)) := (Below.refl w6.heap.size w6).alloc (Nat.le_refl _) _
              have HS7 := Aside0.mk (show P2 (dirB d m) noB (fun _ => False) w _ ∧ ToldS K _ _ from ⟨HP6.out.grows g6, HT6.out.grows g6⟩)
              clear g6 HP6 HT6 HS h3
              generalize w6.alloc (.cells (Pl.cells ⟨a1, a2, a3, a4, a5⟩) 32) = w7 at *
              generalize w6.heap.size = q8 at *
              go_wp2
              go_loopg [13, 14] K.length (fun f v13 v14 wr => ∃ (k : Nat) (tb : Bool), Aside0 (f + k = K.length) ∧ k ≤ K.length ∧ v14 = .int .i64 k ∧ v13 = .bool tb ∧ Aside0 (((K.take k).any fun x => x.toList == y.toList) = tb) ∧ Aside0 (P2 (dirB d m) noB (fun _ => False) w wr ∧ ToldS K (.slice A6 K.length c6) wr))
              case atStart => exact ⟨0, false, ⟨by omega⟩, by omega, rfl, rfl, ⟨rfl⟩, HS7⟩
              case round =>
                clear HS7
                obtain ⟨k, tb, HF2, hk, rfl, rfl, HTB, HS⟩ := hrel
                by_cases hlt4 : k < K.length
                · obtain ⟨ad6, ea6, hcell⟩ := told_at HS.out.2 hlt4
                  subst ea6
                  have HTK := Aside0.mk (any_take (k := y) hlt4)
                  have h3 := HOA.out _ HS.out.1.below
                  obtain ⟨x, hx⟩ : ∃ x, K[k] = x := ⟨_, rfl⟩
                  rw [hx] at hcell HTK
                  clear hx
                  cases tb with
                  | true =>
                    go_upto_region 26 with fail
                    go_quiet (fail)
                    go_wp2
                    go_roundg (K.length - (k + 1))
                    case measure => have := HF2.out; omega
                    case rel => exact ⟨k + 1, true, ⟨by omega⟩, by omega, by go_num, rfl, ⟨by rw [HTK.out, HTB.out]; rfl⟩, ⟨HS.out.1.grows (drew_grows _ _), HS.out.2.grows (drew_grows _ _)⟩⟩
                  | false =>
                    obtain ⟨t2, ht2⟩ : ∃ t2, (x.toList == y.toList) = t2 := ⟨_, rfl⟩
                    have HT2 := Aside0.mk ht2
                    go_upto_region 26 with fail
                    go_quiet (fail)
                    go_wp2
                    go_roundg (K.length - (k + 1))
                    case measure => have := HF2.out; omega
                    case rel => exact ⟨k + 1, t2, ⟨by omega⟩, by omega, by go_num, rfl, ⟨by rw [HTK.out, HTB.out, HT2.out]; rfl⟩, ⟨HS.out.1.grows (drew_grows _ _), HS.out.2.grows (drew_grows _ _)⟩⟩
                · obtain rfl : k = K.length := by omega
                  have htb : tb = b1 := by rw [← HTB.out, ← HANY.out, List.take_length]
                  subst htb
                  go_wp2
                  go_roundg (l.length - (i + 1))
                  case measure => have := HF.out; omega
                  case rel => exact ⟨i + 1, ⟨by omega⟩, by omega, by go_num, HS⟩
            · have HM := Aside0.mk (p_many HS.out.1)
              rw [← HML.out] at HM
              have HE := Aside0.mk HS.out.1.below
              go_wp2_with (go_at_call 22; refine HM.out.mono ?_; clear HM; rintro e w8 ⟨rfl, rfl⟩)
              go_ret
              exact ⟨rfl, HE.out⟩
end Go.Proofs.Ytomlnflblecpbaa
