/-
  Layer 6: the document's Write.
-/
import Derived.Test.YtoaokmlpeijepaaRef
namespace Go.Proofs.Ytoaokmlpeijepaa
set_option linter.unusedVariables false
set_option linter.unusedSimpArgs false
open Go.RowKit Go.Proofs.YtoaokmlpeijepaaW.PrintWords

structure RowsR (W : World) (B : Nat) (v : Value) (each : Nat) (xs : List (Nat × Nat)) (chs : List (List Int)) : Prop where
  row : OwnE W B 29 1 v xs.length (xs.map (hdr each))
  len : xs.length = chs.length
  piece : ∀ (j : Nat) (x : Nat × Nat) (ch : List Int), xs[j]? = some x → chs[j]? = some ch → Row5 W B x ch ∧ ch.length = each
theorem Row5.kept {W W' : World} {B : Nat} {x : Nat × Nat} {ch : List Int} (h : Row5 W B x ch) (hk : ∀ cs fr, W.heap[x.1]? = some (Obj.cells cs 5 fr) → W'.heap[x.1]? = some (.cells cs 5 fr)) : Row5 W' B x ch :=
  ⟨h.1, h.2.1, h.2.2.elim fun cs h => h.elim fun fr h => ⟨cs, fr, hk cs fr h.1, h.2⟩⟩
theorem Row5.reads {W : World} {B : Nat} {x : Nat × Nat} {ch : List Int} (h : Row5 W B x ch) (hm : ch.length ≤ 9223372036854775807) : ReadsInt W .u8 (some ⟨x.1, 0, none⟩) ch.length ch := by
  obtain ⟨cs, fr, hcs, hj⟩ := h.2.2
  refine ⟨rfl, hm, fun _ => ⟨_, rfl, fun j hj' => ?_⟩⟩
  rw [add_plain, cell_of_row W x.1 j cs 5 fr hcs]
  exact hj j hj'
theorem RowsR.kept {W W' : World} {B : Nat} {v : Value} {each : Nat} {xs : List (Nat × Nat)} {chs : List (List Int)} (h : RowsR W B v each xs chs) (hk : ∀ (k : Nat) (cs : Array Value) (t : TypeId) (fr : Nat × Nat), B ≤ k → W.heap[k]? = some (Obj.cells cs t fr) → t = 5 ∨ t = 29 → W'.heap[k]? = some (.cells cs t fr)) : RowsR W' B v each xs chs :=
  ⟨h.row.keep fun g cs hg hc => hk g cs 29 _ hg hc (.inr rfl), h.len, fun j x ch e1 e2 => ⟨(h.piece j x ch e1 e2).1.kept fun cs fr hc => hk _ cs 5 fr (h.piece j x ch e1 e2).1.1 hc (.inl rfl), (h.piece j x ch e1 e2).2⟩⟩
theorem RowsR.grows {W W' : World} {B : Nat} {v : Value} {each : Nat} {xs : List (Nat × Nat)} {chs : List (List Int)} (h : RowsR W B v each xs chs) (hg : Grows W W') : RowsR W' B v each xs chs :=
  h.kept fun k cs t fr _ hc _ => (hg.block k (lt_heap hc)).trans hc
theorem RowsR.reads {W : World} {n0 : Nat} {v : Value} {each : Nat} {xs : List (Nat × Nat)} {chs : List (List Int)} (h : RowsR W n0 v each xs chs) (hm : chs.length ≤ 140737488355328) (he : each ≤ 140737488355328) :
    ∃ A c, v = .slice A chs.length c ∧ chs.length ≤ c ∧ Kd.C (Kd.slice 5 (Kd.int .u8)) W A chs.length chs := by
  obtain ⟨A, c, rfl, hc⟩ := h.row.slice
  rw [h.len] at hc
  refine ⟨A, c, by rw [h.len], hc, rfl, by omega, fun hn => ?_⟩
  have hx : ∀ j, j < chs.length → ∃ x, xs[j]? = some x := fun j hj => ⟨xs[j]'(by rw [h.len]; exact hj), List.getElem?_eq_getElem _⟩
  obtain ⟨x0, hx0⟩ := hx 0 hn
  obtain ⟨g, rfl, _⟩ := h.row.cells 0 (hdr each x0) (by rw [List.getElem?_map, hx0]; rfl)
  refine ⟨_, rfl, fun j p hp => ?_⟩
  have hj : j < chs.length := by
    rcases Nat.lt_or_ge j chs.length with h | h
    · exact h
    · rw [List.getElem?_eq_none h] at hp; cases hp
  obtain ⟨x, hxj⟩ := hx j hj
  obtain ⟨hpc, hl⟩ := h.piece j x p hxj hp
  refine ⟨[hdr each x], rfl, ⟨_, x.2, by rw [hl]; rfl, hpc.2.1, C_of_u8 (hpc.reads (by rw [hl]; omega))⟩, fun t u hu => ?_⟩
  cases t with
  | zero =>
    obtain rfl := Option.some.inj hu
    obtain ⟨g', e1, _, _, hcell⟩ := h.row.cells j (hdr each x) (by rw [List.getElem?_map, hxj]; rfl)
    injection e1 with e1
    injection e1 with e1
    subst e1
    have hadd : (⟨g, 0, none⟩ : Addr).add (j * 1 + 0) = ⟨g, j, none⟩ := by unfold Addr.add; split <;> simp_all
    show W.cell? ((⟨g, 0, none⟩ : Addr).add (j * 1 + 0)) = _
    rw [hadd]; exact hcell
  | succ t => cases hu
theorem u8s_take {xs : List Int} (h : u8s xs) (n : Nat) : u8s (xs.take n) := fun x hx => h x (List.mem_of_mem_take hx)
theorem u8s_drop {xs : List Int} (h : u8s xs) (n : Nat) : u8s (xs.drop n) := fun x hx => h x (List.mem_of_mem_drop hx)
theorem u8s_append {xs ys : List Int} (h : u8s xs) (k : u8s ys) : u8s (xs ++ ys) := fun x hx => (List.mem_append.1 hx).elim (h x) (k x)
theorem str_extract (xs : List Int) (a b : Nat) (hb : b ≤ xs.length) : (strOfNums xs).extract a b = strOfNums ((xs.take b).drop a) := by
  apply ByteArray.ext
  simp [strOfNums, List.extract_eq_take_drop, List.map_take, List.map_drop, List.drop_take]
theorem cut_to (L : List Int) (each : Nat) (h : each ≤ L.length) (w : World) : (Instr.slice 9 (.string (strOfNums L)) none (some (.int .i64 (each : Int))) none).run Try.prog w = .ok (.string (strOfNums (L.take each))) w := by
  have h1 := str_size L
  have h2 : (each : Int) ≤ (L.length : Int) := by omega
  have h3 := str_extract L 0 each h
  rw [List.drop_zero] at h3
  go_simp
theorem cut_off (L : List Int) (each : Nat) (h : each ≤ L.length) (w : World) : (Instr.slice 9 (.string (strOfNums L)) (some (.int .i64 (each : Int))) none none).run Try.prog w = .ok (.string (strOfNums (L.drop each))) w := by
  have h1 := str_size L
  have h2 : (each : Int) ≤ (L.length : Int) := by omega
  have h3 := str_extract L each L.length (Nat.le_refl _)
  rw [List.take_length] at h3
  go_simp
end Go.Proofs.Ytoaokmlpeijepaa
