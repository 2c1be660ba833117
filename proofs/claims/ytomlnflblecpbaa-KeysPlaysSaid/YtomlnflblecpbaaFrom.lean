/-
  Layer 13: From; names that are told.
-/
import Derived.Test.YtomlnflblecpbaaList
import Derived.Test.YtomlnflblecpbaaSearch
import Derived.Test.YtomlnflblecpbaaGrow
namespace Go.Proofs.Ytomlnflblecpbaa
set_option linter.unusedVariables false
set_option linter.unusedSimpArgs false
open Go.Sort Go.RowKit Go.Proofs.YtomlnflblecpbaaW.PrintWords Go.Proofs.YtomlnflblecpbaaW.PrintMore
attribute [local go_sem] max2_int min2_int
/-- Names as they were told: they stay so. -/
def ToldS (l : List ByteArray) (v : Value) (W : World) : Prop := ∃ A c, v = .slice A l.length c ∧ l.length ≤ c ∧ Kd.C Kd.string W A l.length l
theorem ToldS.mono (l : List ByteArray) : ∀ v B W W', ToldS l v W → Ext B W W' → ToldS l v W' := by
  rintro v B W W' ⟨A, c, e, hc, h1, h2, h3⟩ hx
  refine ⟨A, c, e, hc, h1, h2, fun h0 => ?_⟩
  obtain ⟨ad, ea, hcell⟩ := h3 h0
  refine ⟨ad, ea, fun j p hj => ?_⟩
  obtain ⟨cs, q1, q2, q3⟩ := hcell j p hj
  exact ⟨cs, q1, q2, fun i u hu => hx.cell (q3 i u hu)⟩
theorem ToldS.grows {l : List ByteArray} {v : Value} {W W' : World} (h : ToldS l v W) (hg : Grows W W') : ToldS l v W' := by
  obtain ⟨A, c, e, hc, h1⟩ := h
  exact ⟨A, c, e, hc, Kd.C_below h1 hg⟩
/-- .. in blocks of R. -/
def ToldF (R : Nat → Prop) (l : List ByteArray) (v : Value) (W : World) : Prop := ∃ A c, v = .slice A l.length c ∧ l.length ≤ c ∧ Kd.C Kd.string W A l.length l ∧ ∀ ad, A = some ad → 0 < l.length → R ad.block
theorem ToldF.told {R : Nat → Prop} {l : List ByteArray} {v : Value} {W : World} (h : ToldF R l v W) : ToldS l v W := by
  obtain ⟨A, c, e, hc, h1, _⟩ := h
  exact ⟨A, c, e, hc, h1⟩
theorem ToldF.imp {R R' : Nat → Prop} {l : List ByteArray} {v : Value} {W : World} (h : ToldF R l v W) (hR : ∀ k, R k → R' k) : ToldF R' l v W := by
  obtain ⟨A, c, e, hc, h1, h2⟩ := h
  exact ⟨A, c, e, hc, h1, fun ad ea h0 => hR _ (h2 ad ea h0)⟩
theorem ToldF.lt {R : Nat → Prop} {l : List ByteArray} {v : Value} {W : World} (h : ToldF R l v W) : ToldF (fun k => R k ∧ k < W.heap.size) l v W := by
  obtain ⟨A, c, e, hc, h1, h2⟩ := h
  refine ⟨A, c, e, hc, h1, fun ad ea h0 => ⟨h2 ad ea h0, ?_⟩⟩
  obtain ⟨ad', ea', hcell⟩ := h1.2.2 h0
  rw [ea] at ea'; injection ea' with ea'; subst ea'
  obtain ⟨cs, q1, q2, q3⟩ := hcell 0 l[0] (List.getElem?_eq_getElem h0)
  have := q3 0 (.string l[0]) (by rw [show cs = [Value.string l[0]] from q2]; rfl)
  have hb := World.block_lt_of_cell? W _ this
  rwa [add_block] at hb
theorem ToldF.keep {R : Nat → Prop} {l : List ByteArray} {v : Value} {W W' : World} (h : ToldF R l v W) (hk : ∀ k, R k → k < W.heap.size → W'.heap[k]? = W.heap[k]?) : ToldF R l v W' := by
  obtain ⟨A, c, e, hc, h1, h2⟩ := h.lt
  refine ⟨A, c, e, hc, ⟨h1.1, h1.2.1, fun h0 => ?_⟩, fun ad ea h0 => (h2 ad ea h0).1⟩
  obtain ⟨ad, ea, hcell⟩ := h1.2.2 h0
  refine ⟨ad, ea, fun j p hj => ?_⟩
  obtain ⟨cs, q1, q2, q3⟩ := hcell j p hj
  refine ⟨cs, q1, q2, fun i u hu => ?_⟩
  rw [← q3 i u hu]
  exact World.cell?_of_block (by rw [add_block]; exact hk _ (h2 ad ea h0).1 (h2 ad ea h0).2)
theorem own_told {W : World} {B : Nat} {v : Value} {l : List ByteArray} (h : W.ownsRow B 9 1 v l.length (strV l)) : ToldS l v W := by
  rcases h.2 with ⟨rfl, h0⟩ | ⟨b, cap, cur, e, hB, hb, hc, hcm, hcs, hcur⟩
  · obtain rfl : l = [] := List.eq_nil_of_length_eq_zero h0
    exact ⟨none, 0, rfl, Nat.le_refl _, rfl, by decide, fun h => absurd h (Nat.lt_irrefl 0)⟩
  · refine ⟨_, cap, e, hc, rfl, by simp only [maxLen] at hcm; omega, fun _ => ⟨_, rfl, fun j p hj => ⟨[.string p], rfl, rfl, fun i u hu => ?_⟩⟩⟩
    obtain rfl : i = 0 := by
      cases i with
      | zero => rfl
      | succ i => cases hu
    obtain rfl := Option.some.inj hu
    have hadd : (⟨b, 0, none⟩ : Addr).add (j * 1 + 0) = ⟨b, j, none⟩ := by unfold Addr.add; split <;> simp_all
    show W.cell? ((⟨b, 0, none⟩ : Addr).add (j * 1 + 0)) = _
    rw [hadd, cell_of_row W b j cur 9 (0, 0) hb, ← Array.getElem?_toList]
    have hs : (strV l)[j]? = some (.string p) := by unfold strV; rw [List.getElem?_map, hj]; rfl
    rw [← hcur, List.getElem?_take] at hs
    split at hs
    · exact hs
    · cases hs
theorem own_toldF {W : World} {B : Nat} {v : Value} {l : List ByteArray} (h : W.ownsRow B 9 1 v l.length (strV l)) : ToldF (fun k => B ≤ k) l v W := by
  obtain ⟨A, c, e, hc, h1⟩ := own_told h
  refine ⟨A, c, e, hc, h1, fun ad ea h0 => ?_⟩
  subst ea
  rw [e] at h
  exact own_ge h _ rfl
theorem cut_from (A : Option Addr) (c : Nat) (xs : List ByteArray) (m : Nat) (hm : m ≤ xs.length) (hc : xs.length ≤ c) :
    ∃ A' : Option Addr, (∀ W : World, (Instr.slice 38 (.slice A xs.length c) (some (.int .i64 (m : Int))) none none).run Try.prog W = .ok (.slice A' (xs.drop m).length (c - m)) W) ∧
      (∀ w : World, Kd.C Kd.string w A xs.length xs → Kd.C Kd.string w A' (xs.drop m).length (xs.drop m)) ∧ (xs.drop m).length ≤ c - m ∧ ∀ ad, A' = some ad → ∃ ad', A = some ad' ∧ ad'.block = ad.block := by
  have hl : (xs.drop m).length = xs.length - m := List.length_drop
  obtain ⟨i, hi, hz⟩ := Option.map_eq_some_iff.1 (show (Try.prog.info? 9).map (fun i => i.size) = some 1 by kernel_rfl)
  refine ⟨if c = m then A else A.map (·.add (m * 1)), fun W => ?_, fun w h => Kd.C_drop h hm hc, by rw [hl]; omega, fun ad e => ?_⟩
  case refine_2 =>
    split at e
    · exact ⟨ad, e, rfl⟩
    · cases A with
      | none => cases e
      | some a => injection e with e; exact ⟨a, rfl, by rw [← e, add_block]⟩
  have hel : Try.prog.elem 38 = 9 := by simp [Program.elem, Try.underlying38]
  have hu : Try.prog.underlying 38 = some (.slice (Try.prog.elem 38)) := by rw [hel]; exact Try.underlying38
  rw [run_slice_l W 38 A xs.length c hu .i64 (m : Int) (by omega) (by omega), hel, hl]
  simp [sizeOf, typeInfo, hi, hz, sliced, Result.andThen]
theorem cut_upto (A : Option Addr) (c : Nat) (xs : List ByteArray) (m : Nat) (hm : m ≤ xs.length) (hc : xs.length ≤ c) :
    (∀ W : World, (Instr.slice 38 (.slice A xs.length c) none (some (.int .i64 (m : Int))) none).run Try.prog W = .ok (.slice A (xs.take m).length c) W) ∧
      (∀ w : World, Kd.C Kd.string w A xs.length xs → Kd.C Kd.string w A (xs.take m).length (xs.take m)) ∧ (xs.take m).length ≤ c := by
  have hl : (xs.take m).length = m := by rw [List.length_take]; omega
  obtain ⟨i, hi, hz⟩ := Option.map_eq_some_iff.1 (show (Try.prog.info? 9).map (fun i => i.size) = some 1 by kernel_rfl)
  refine ⟨fun W => ?_, fun w h => Kd.C_take h hm, by rw [hl]; omega⟩
  have hel : Try.prog.elem 38 = 9 := by simp [Program.elem, Try.underlying38]
  have hu : Try.prog.underlying 38 = some (.slice (Try.prog.elem 38)) := by rw [hel]; exact Try.underlying38
  have ha : (A.map fun x => x.add 0) = A := by cases A <;> simp [Addr.add]
  rw [run_slice_h W 38 A xs.length c hu .i64 (m : Int) (by omega) (by omega), hel, hl]
  simp [sizeOf, typeInfo, hi, hz, sliced, Result.andThen, ha]
theorem search_none (A : Option Addr) (c : Nat) (k : ByteArray) (W : World) : Calls Try.prog 30 #[.slice A 0 c, .string k] W fun e w' => e = .returned (.tuple #[.int .i64 0, .bool false]) ∧ w' = W :=
  Any2.slices_BinarySearch_string_empty lays26 A c k W
/-- BinarySearch of keys in order, as they are told. -/
theorem search_told {W : World} {A : Option Addr} {c : Nat} {l : List ByteArray} (h : l.Pairwise fun a b => klt a b = true) (k : ByteArray) (hs : l.length < 4611686018427387904) (hb : ∀ ad, A = some ad → 0 < l.length → ∃ b, ad = ⟨b, 0, none⟩) (ht : Kd.C Kd.string W A l.length l) :
    Calls Try.prog 30 #[.slice A l.length c, .string k] W fun e w' => (∃ bb, e = .returned (.tuple #[.int .i64 (l.takeWhile fun x => klt x k).length, .bool bb])) ∧ ∃ q, w' = W.drewN q := by
  rcases Nat.eq_zero_or_pos l.length with h0 | h0
  · obtain rfl : l = [] := List.eq_nil_of_length_eq_zero h0
    exact (search_none A c k W).mono fun e w' h => ⟨⟨_, h.1⟩, 0, h.2⟩
  · obtain ⟨ad, rfl, hc⟩ := ht.2.2 h0
    obtain ⟨b, rfl⟩ := hb ad rfl h0
    refine search_calls h k rfl hs fun j hj => ?_
    obtain ⟨cs, q1, q2, q3⟩ := hc j l[j] (List.getElem?_eq_getElem hj)
    have := q3 0 (.string l[j]) (by rw [show cs = [Value.string l[j]] from q2]; rfl)
    have hadd : (⟨b, 0, none⟩ : Addr).add (j * 1 + 0) = ⟨b, j, none⟩ := by unfold Addr.add; split <;> simp_all
    rw [List.getD_eq_getElem?_getD, List.getElem?_eq_getElem hj, ← hadd]
    exact this
set_option maxRecDepth 100000 in
set_option maxHeartbeats 4000000 in
theorem from_calls {W : World} {O : Nat → Prop} {d : Nat} {m : List Pl} (h : DirM W O d m) (hm : m.length ≤ 100000) (key : ByteArray) (many : Int) :
    Calls Try.prog 18 #[.pointer (some ⟨d, 0, none⟩), .string key, .int .i64 many] W fun e w' => ∃ v, e = .returned v ∧ ToldF (fun k => W.heap.size ≤ k) ((fromK (keysM m) key).take many.toNat) v w' ∧ Grows W w' := by
  have hsrt : (keysM m).Pairwise fun a b => klt a b = true := by obtain ⟨rs, vs, hB, hR⟩ := h; exact keysM_sorted hR.sorted
  have hkl : (keysM m).length = m.length := by unfold keysM; rw [List.length_map]
  have HL := Aside0.mk (list_calls h hm)
  have HSR := Aside0.mk hsrt
  have HFD := Aside0.mk (from_drop hsrt key)
  have htw := takeWhile_le (fun x => klt x key) (keysM m)
  have hkm : (keysM m).length ≤ 100000 := by omega
  generalize keysM m = K at *
  obtain ⟨p, hp⟩ : ∃ p, (K.takeWhile fun x => klt x key).length = p := ⟨_, rfl⟩
  rw [hp] at HFD htw
  have HP := Aside0.mk hp
  clear h hm hsrt hkl hp
  go_enter Try.func18, Try.ntmps18
  go_upto_region 2 with (go_at_call 24; refine HL.out.mono ?_; clear HL; rintro e w2 ⟨v, rfl, ho, hg⟩; have HO := Aside0.mk ho; have HG := Aside0.mk hg; clear ho hg)
  obtain ⟨A, c, rfl, hc, hC⟩ := own_told HO.out
  have HC := Aside0.mk hC
  have HS := Aside0.mk (search_told (A := A) (c := c) (W := w2) HSR.out key (by omega) (fun ad e h0 => by
    rcases HO.out.2 with ⟨e1, h1⟩ | ⟨b, cap, cur, e1, _⟩
    · omega
    · injection e1 with e1; rw [e] at e1; injection e1 with e1; exact ⟨b, e1⟩) hC)
  obtain ⟨A', hs1, hs2, hs3, hs4⟩ := cut_from A c K p htw hc
  have HS4 := Aside0.mk hs4
  clear hs4
  rw [HFD.out] at hs1 hs2 hs3
  have HS2 := Aside0.mk hs2
  clear hs2
  have hfl : (fromK K key).length ≤ K.length := List.length_filter_le _ _
  obtain ⟨F, hF⟩ : ∃ F, fromK K key = F := ⟨_, rfl⟩
  rw [hF] at hs1 HS2 hs3 hfl
  have HF := Aside0.mk hF
  clear hF
  obtain ⟨u1, u2, u3⟩ := cut_upto A' (c - p) F (min many.toNat F.length) (by omega) hs3
  have hmin : min (max many 0) (F.length : Int) = ((min many.toNat F.length : Nat) : Int) := by omega
  have htk : F.take (min many.toNat F.length) = F.take many.toNat := by rw [List.take_eq_take_iff]; omega
  rw [htk] at u1 u2 u3
  have HU := Aside0.mk u2
  clear hC u2 htk
  rw [HP.out] at HS
  go_upto_region 3 with (go_at_call 30; refine HS.out.mono ?_; clear HS; rintro e w3 ⟨⟨bb, rfl⟩, q, rfl⟩)
  go_wp2
  go_ret
  have hl : (F.take many.toNat).length = min many.toNat F.length := List.length_take
  refine ⟨_, rfl, ?_, HG.out.trans ((show Grows w2 (w2.drewN q) from ⟨rfl, rfl, rfl, Nat.le_refl _, fun _ _ => rfl⟩).mono HG.out.size)⟩
  rw [HF.out]
  exact ⟨A', c - p, by rw [hl]; rfl, u3, HU.out _ (HS2.out _ HC.out), fun ad e h0 => by
    obtain ⟨ad', e1, e2⟩ := HS4.out ad e
    subst e1
    rw [← e2]
    exact own_ge HO.out _ rfl⟩
end Go.Proofs.Ytomlnflblecpbaa
