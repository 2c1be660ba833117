/-
  Layer 5: the document's Segments.
-/
import Derived.Test.YtgolccldopofbaaAppend
import Derived.RegionTactic
import Derived.Deep.RegionWith
import Derived.Deep.RegionLaw
namespace Go.Proofs.Ytgolccldopofbaa
set_option linter.unusedVariables false
set_option linter.unusedSimpArgs false
open Go.RowKit Go.Proofs.YtgolccldopofbaaW.PrintWords

/-- How many at the head are below n. -/
def place (n : Int) : List Int → Nat
  | [] => 0
  | x :: xs => if x < n then place n xs + 1 else 0
/-- A number put in its place, once. -/
def put1 (n : Int) (xs : List Int) : List Int := if xs[place n xs]? = some n then xs else xs.take (place n xs) ++ [n] ++ xs.drop (place n xs)
def rsegsF (pF : ByteArray → Int × Int × Bool) (l : List ByteArray) : List Int :=
  l.foldl (fun out s => if (pF s).2.2 = true then (if (pF s).1 = 1 then put1 (pF s).2.1 out else out) else out) []
theorem place_le (n : Int) : ∀ xs, place n xs ≤ xs.length
  | [] => Nat.le_refl _
  | x :: xs => by
    unfold place
    have := place_le n xs
    split <;> simp <;> omega
theorem place_lt (n : Int) : ∀ (xs : List Int) (p : Nat), p < place n xs → xs.getD p 0 < n
  | [], p, h => by simp [place] at h
  | x :: xs, p, h => by
    unfold place at h
    split at h
    · cases p with
      | zero => assumption
      | succ p => exact place_lt n xs p (by omega)
    · omega
theorem place_at (n : Int) : ∀ (xs : List Int), place n xs < xs.length → ¬ xs.getD (place n xs) 0 < n
  | [], h => by simp at h
  | x :: xs, h => by
    unfold place at h ⊢
    split
    · rename_i hx
      rw [if_pos hx] at h
      exact place_at n xs (by simpa using h)
    · assumption
theorem rsegsF_snoc (pF : ByteArray → Int × Int × Bool) (l : List ByteArray) (s : ByteArray) : rsegsF pF (l ++ [s]) = if (pF s).2.2 = true then (if (pF s).1 = 1 then put1 (pF s).2.1 (rsegsF pF l) else rsegsF pF l) else rsegsF pF l := by
  simp [rsegsF, List.foldl_append]
theorem put1_len (n : Int) (xs : List Int) : (put1 n xs).length ≤ xs.length + 1 := by
  unfold put1
  have := place_le n xs
  split
  · omega
  · simp; omega
theorem rsegsF_len (pF : ByteArray → Int × Int × Bool) (l : List ByteArray) : (rsegsF pF l).length ≤ l.length := by
  have main : ∀ (l : List ByteArray) (out : List Int), (l.foldl (fun out s => if (pF s).2.2 = true then (if (pF s).1 = 1 then put1 (pF s).2.1 out else out) else out) out).length ≤ out.length + l.length := by
    intro l
    induction l with
    | nil => intro out; simp
    | cons s l ih =>
      intro out
      rw [List.foldl_cons]
      refine Nat.le_trans (ih _) ?_
      have := put1_len (pF s).2.1 out
      simp only [List.length_cons]
      split
      · split <;> omega
      · omega
  simpa [rsegsF] using main l []

set_option maxRecDepth 100000 in
set_option maxHeartbeats 1000000 in
theorem rsegs_calls (pF : ByteArray → Int × Int × Bool) (hP : ∀ s w, Calls Try.prog 10 #[.string s] w fun e w' => e = .returned (.tuple #[.int .i64 (pF s).1, .int .i64 (pF s).2.1, .bool (pF s).2.2]) ∧ Below w.heap.size w w')
    (A : Option Addr) (n c : Nat) (l : List ByteArray) (w : World) (hr : Kd.string.C w A n l) (hc : n ≤ c) (hn : n < 17592186044415) :
    Calls Try.prog 15 #[.slice A n c] w fun e w' => ∃ v, e = .returned v ∧ w'.ownsRow w.heap.size 3 1 v (rsegsF pF l).length (nums .i64 (rsegsF pF l)) ∧ Below w.heap.size w w' := by
  have HR := Aside0.mk hr
  have hm := hr.2.1
  have HL := Aside0.mk hr.1
  have HNN := Aside0.mk hn
  have HPP := Aside0.mk hP
  clear hr hn hP
  go_enter Try.func15, Try.ntmps15
  go_wp2
  go_loopg [3, 4] n (fun g v i wr => ∃ (k : Nat), Aside0 (g + k = n) ∧ k ≤ n ∧ i = .int .i64 k ∧ Aside0 (wr.ownsRow w.heap.size 3 1 v (rsegsF pF (l.take k)).length (nums .i64 (rsegsF pF (l.take k))) ∧ Below w.heap.size w wr))
  case atStart => exact ⟨0, ⟨rfl⟩, by omega, rfl, ⟨own_nil _ _ _ _, Below.refl _ _⟩⟩
  case round =>
    obtain ⟨k, HK, hk, rfl, HV⟩ := hrel
    by_cases hlt : k < n
    · obtain ⟨ad, hA, hcell⟩ := Kd.at_string (Kd.C_below HR.out HV.out.2) (k : Int) (by omega) (by omega)
      subst hA
      rw [Int.toNat_natCast] at hcell
      have HS := Aside0.mk (take_succ_rd l k (by have := HL.out; omega))
      generalize rdOf ByteArray.empty l k = s at hcell HS
      have hp := HPP.out s wr
      have HSTEP := Aside0.mk (rsegsF_snoc pF (l.take k) s)
      generalize pF s = r at hp HSTEP
      obtain ⟨ka, na, ia⟩ := r
      dsimp only at hp HSTEP
      have HP := Aside0.mk hp
      clear hp
      by_cases hi : ia = true
      · subst hi
        by_cases h1 : ka = 1
        · subst h1
          go_wp2_with (go_at_call 10; refine HP.out.mono ?_; rintro e w1 ⟨rfl, hb1⟩; have HO1 := Aside0.mk (pw_own_below HV.out.1 hb1); have HB1 := Aside0.mk (below_then HV.out.2 HV.out.2.size hb1); clear hb1)
          have HSTEP' := Aside0.mk (show rsegsF pF (l.take (k + 1)) = put1 na (rsegsF pF (l.take k)) by rw [HS.out, HSTEP.out, if_pos trivial, if_pos trivial])
          clear HSTEP
          have HXL := Aside0.mk (show (rsegsF pF (l.take k)).length ≤ k from Nat.le_trans (rsegsF_len pF _) (List.length_take_le k l))
          generalize rsegsF pF (l.take k) = xs at HO1 HV HSTEP' HXL
          obtain ⟨A3, c3, rfl, hr3⟩ := own_reads HO1.out
          have hxm : xs.length ≤ 9223372036854775807 := hr3.2.1
          have HR3 := Aside0.mk hr3
          clear hr3
          go_loopg [8] (place na xs) (fun g j wr2 => ∃ (p : Nat), Aside0 (g + p = place na xs) ∧ p ≤ xs.length ∧ j = .int .i64 p ∧ wr2 = w1)
          case atStart => exact ⟨0, ⟨rfl⟩, by omega, rfl, rfl⟩
          case round =>
            obtain ⟨p, HG, hp, rfl, hww⟩ := hrel
            replace hww := hww.symm
            subst hww
            by_cases hpl : p < xs.length
            · obtain ⟨ad3, hA3, hc3⟩ := HR3.out.at_ (p : Int) (by omega) (by omega)
              subst hA3
              rw [Int.toNat_natCast] at hc3
              have HRD := Aside0.mk (show rd xs (p : Int) = xs.getD p 0 from rfl)
              generalize rd xs (p : Int) = y at hc3 HRD
              by_cases hy : y < na
              · have hy' : decide (y < na) = true := by simpa using hy
                have HPL := Aside0.mk (show p < place na xs by
                  have h1 := HG.out
                  have h2 := place_at na xs
                  by_cases e : p = place na xs
                  · exact absurd hy (by rw [HRD.out, e]; exact h2 (by omega))
                  · omega)
                go_wp2
                go_roundg (place na xs - (p + 1))
                case measure => have := HG.out; have := HPL.out; omega
                case rel => exact ⟨p + 1, ⟨by have := HPL.out; omega⟩, by omega, by go_num, rfl⟩
              · have hy' : decide (y < na) = false := by simpa using hy
                have HPE := Aside0.mk (show p = place na xs by
                  have h1 := HG.out
                  by_cases e : p < place na xs
                  · exact absurd (place_lt na xs p e) (by rw [← HRD.out]; exact hy)
                  · omega)
                have HXP := Aside0.mk (show xs[p]? = some y by
                  rw [HRD.out, List.getD_eq_getElem?_getD, List.getElem?_eq_getElem hpl]; rfl)
                by_cases hyn : y = na
                · have hyn' : (y == na) = true := by simpa using hyn
                  have HPUT := Aside0.mk (show put1 na xs = xs by
                    unfold put1
                    rw [← HPE.out, HXP.out, hyn, if_pos rfl])
                  go_wp2
                  go_roundg (n - (k + 1))
                  case measure => have := HK.out; omega
                  case rel => exact ⟨k + 1, ⟨by omega⟩, by omega, by go_num, ⟨by rw [HSTEP'.out, HPUT.out]; exact HO1.out, HB1.out⟩⟩
                · have hyn' : (y == na) = false := by simpa using hyn
                  have HPUT := Aside0.mk (show put1 na xs = xs.take p ++ [na] ++ xs.drop p by
                    unfold put1
                    rw [← HPE.out, if_neg (by rw [HXP.out]; simpa using hyn)])
                  have hle : xs.length ≤ c3 := own_le HO1.out
                  have hpc : p ≤ c3 := by omega
                  have hpc2 : (p : Int) ≤ (c3 : Int) := by omega
                  have hpl2 : (p : Int) ≤ (xs.length : Int) := by omega
                  have HBD := Aside0.mk (show (xs.length + 1) * 8 ≤ 140737488355328 by have := HXL.out; have := HNN.out; omega)
                  go_wp2
                  go_region_law (first
                    | (refine step_app w1 (.tmp 56) (.tmp 59) rfl rfl [] (xs.take p) (A := some ad3) (m := p) (c := c3) rfl rfl ?_ ?_ ?_ (by show (0 + p) * 8 ≤ _; have := HBD.out; omega) ?_
                       · first | exact lit_own (W := w1.drew) w1 (Nat.le_refl _) | exact (lit_own (W := w1.drew) w1 (Nat.le_refl _)).alloc (.cells #[.int .i64 na] 3) | exact lit_own3 w1 _
                       · first | exact (HR3.out.take_ p (by omega)).below (below_alloc (below_drew (Below.refl _ _)) _) | exact (HR3.out.take_ p (by omega)).below (below_alloc (below_alloc (below_drew (Below.refl _ _)) _) _)
                       · first | exact below_alloc (below_drew (Below.refl _ _)) _ | exact below_alloc (below_alloc (below_drew (Below.refl _ _)) _) _
                       intro v4 W4 HO4 HB4 HG4
                       replace HO4 := Aside0.mk HO4
                       replace HB4 := Aside0.mk HB4
                       replace HG4 := Aside0.mk HG4)
                    | (refine step_app w1 (.tmp 60) (.tmp 62) rfl rfl (xs.take p) [na] (v := v4) (A := some ⟨_, 0, none⟩) (m := 1) (c := 1) rfl rfl ?_ ?_ ?_ (by have := HBD.out; simp only [List.length_take]; omega) ?_
                       · first | exact HO4.out | exact HO4.out.alloc _
                       · first | exact reads_blk (heap_alloc_new _ _) | exact two_a HG4.out | exact two_b HG4.out
                       · first | exact HB4.out | exact below_alloc HB4.out _
                       intro v5 W5 HO5 HB5 HG5
                       replace HO5 := Aside0.mk HO5
                       replace HB5 := Aside0.mk HB5
                       replace HG5 := Aside0.mk HG5)
                    | (refine step_app w1 (.tmp 63) (.tmp 66) rfl rfl (xs.take p ++ [na]) (xs.drop p) (v := v5) rfl rfl HO5.out ((HR3.out.drop_ p (by omega) hle).below HB5.out) HB5.out (by have := HBD.out; simp only [List.length_take, List.length_append, List.length_cons, List.length_nil]; omega) ?_
                       intro v6 W6 HO6 HB6 HG6
                       replace HO6 := Aside0.mk HO6
                       replace HB6 := Aside0.mk HB6)
                    | fail "none")
                  all_goals go_wp2
                  all_goals (
                    go_roundg (n - (k + 1))
                    case measure => have := HK.out; omega
                    case rel => exact ⟨k + 1, ⟨by omega⟩, by omega, by go_num, ⟨by rw [HSTEP'.out, HPUT.out]; exact own_less HO6.out HB1.out.size, below_then HB1.out HB1.out.size HB6.out⟩⟩)
            · have HPE := Aside0.mk (show p = place na xs by have := HG.out; have := place_le na xs; omega)
              have HPE2 := Aside0.mk (show p = xs.length by have := HPE.out; omega)
              have HPUT := Aside0.mk (show put1 na xs = xs.take p ++ [na] ++ xs.drop p by
                unfold put1
                rw [← HPE.out, if_neg (by rw [HPE2.out]; simp)])
              have hle : xs.length ≤ c3 := own_le HO1.out
              have hpc : p ≤ c3 := by omega
              have hpc2 : (p : Int) ≤ (c3 : Int) := by omega
              have hpl2 : (p : Int) ≤ (xs.length : Int) := by omega
              have HBD := Aside0.mk (show (xs.length + 1) * 8 ≤ 140737488355328 by have := HXL.out; have := HNN.out; omega)
              go_wp2
              go_region_law (first
                | (refine step_app w1 (.tmp 56) (.tmp 59) rfl rfl [] (xs.take p) (A := A3) (m := p) (c := c3) rfl rfl ?_ ?_ ?_ (by show (0 + p) * 8 ≤ _; have := HBD.out; omega) ?_
                   · first | exact lit_own (W := w1.drew) w1 (Nat.le_refl _) | exact (lit_own (W := w1.drew) w1 (Nat.le_refl _)).alloc (.cells #[.int .i64 na] 3) | exact lit_own3 w1 _
                   · first | exact (HR3.out.take_ p (by omega)).below (below_alloc (below_drew (Below.refl _ _)) _) | exact (HR3.out.take_ p (by omega)).below (below_alloc (below_alloc (below_drew (Below.refl _ _)) _) _)
                   · first | exact below_alloc (below_drew (Below.refl _ _)) _ | exact below_alloc (below_alloc (below_drew (Below.refl _ _)) _) _
                   intro v4 W4 HO4 HB4 HG4
                   replace HO4 := Aside0.mk HO4
                   replace HB4 := Aside0.mk HB4
                   replace HG4 := Aside0.mk HG4)
                | (refine step_app w1 (.tmp 60) (.tmp 62) rfl rfl (xs.take p) [na] (v := v4) (A := some ⟨_, 0, none⟩) (m := 1) (c := 1) rfl rfl ?_ ?_ ?_ (by have := HBD.out; simp only [List.length_take]; omega) ?_
                   · first | exact HO4.out | exact HO4.out.alloc _
                   · first | exact reads_blk (heap_alloc_new _ _) | exact two_a HG4.out | exact two_b HG4.out
                   · first | exact HB4.out | exact below_alloc HB4.out _
                   intro v5 W5 HO5 HB5 HG5
                   replace HO5 := Aside0.mk HO5
                   replace HB5 := Aside0.mk HB5
                   replace HG5 := Aside0.mk HG5)
                | (refine step_app w1 (.tmp 63) (.tmp 66) rfl rfl (xs.take p ++ [na]) (xs.drop p) (v := v5) rfl rfl HO5.out ((HR3.out.drop_ p (by omega) hle).below HB5.out) HB5.out (by have := HBD.out; simp only [List.length_take, List.length_append, List.length_cons, List.length_nil]; omega) ?_
                   intro v6 W6 HO6 HB6 HG6
                   replace HO6 := Aside0.mk HO6
                   replace HB6 := Aside0.mk HB6)
                | fail "none")
              all_goals go_wp2
              all_goals (
                go_roundg (n - (k + 1))
                case measure => have := HK.out; omega
                case rel => exact ⟨k + 1, ⟨by omega⟩, by omega, by go_num, ⟨by rw [HSTEP'.out, HPUT.out]; exact own_less HO6.out HB1.out.size, below_then HB1.out HB1.out.size HB6.out⟩⟩)
        · have h1' : (ka != 1) = true := by simpa using h1
          go_wp2_with (go_at_call 10; refine HP.out.mono ?_; rintro e w1 ⟨rfl, hb1⟩; have HO1 := Aside0.mk (pw_own_below HV.out.1 hb1); have HB1 := Aside0.mk (below_then HV.out.2 HV.out.2.size hb1); clear hb1)
          go_roundg (n - (k + 1))
          case measure => have := HK.out; omega
          case rel => exact ⟨k + 1, ⟨by omega⟩, by omega, by go_num, ⟨by rw [HS.out, HSTEP.out, if_pos trivial, if_neg h1]; exact HO1.out, HB1.out⟩⟩
      · have hi' : ia = false := by simpa using hi
        subst hi'
        go_wp2_with (go_at_call 10; refine HP.out.mono ?_; rintro e w1 ⟨rfl, hb1⟩; have HO1 := Aside0.mk (pw_own_below HV.out.1 hb1); have HB1 := Aside0.mk (below_then HV.out.2 HV.out.2.size hb1); clear hb1)
        go_roundg (n - (k + 1))
        case measure => have := HK.out; omega
        case rel => exact ⟨k + 1, ⟨by omega⟩, by omega, by go_num, ⟨by rw [HS.out, HSTEP.out, if_neg (by decide)]; exact HO1.out, HB1.out⟩⟩
    · have e : k = n := by omega
      subst e
      have HALL := Aside0.mk (show l.take k = l from List.take_of_length_le (by have := HL.out; omega))
      go_wp2
      go_ret
      have h := HV.out
      rw [HALL.out] at h
      exact ⟨_, rfl, h.1, h.2⟩
end Go.Proofs.Ytgolccldopofbaa
