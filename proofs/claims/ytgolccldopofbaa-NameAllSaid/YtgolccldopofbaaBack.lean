/-
  Layer 5, plain: what a name tells has that name.
-/
import Derived.Test.YtgolccldopofbaaHeads
namespace Go.Proofs.Ytgolccldopofbaa
set_option linter.unusedVariables false
set_option linter.unusedSimpArgs false
open Go.RowKit Go.Proofs.YtgolccldopofbaaW.PrintWords

theorem str_bytes (s : ByteArray) : strOfNums (bytesOf s) = s := by
  apply ByteArray.ext
  apply Array.toList_inj.1
  rw [strOfNums_data, bytesOf, List.map_map]
  conv => rhs; rw [← List.map_id s.data.toList]
  refine List.map_congr_left fun x hx => ?_
  simp
theorem bytesOf_range (s : ByteArray) : ∀ x ∈ bytesOf s, 0 ≤ x ∧ x ≤ 255 := by
  intro x hx
  obtain ⟨b, _, rfl⟩ := List.mem_map.1 hx
  have := b.toNat_lt
  omega
/-- Eight bytes that are a number are its digits. -/
theorem digits_back {d1 d2 d3 d4 d5 d6 d7 d8 : Int} (hb : ∀ x ∈ [d1, d2, d3, d4, d5, d6, d7, d8], 0 ≤ x ∧ x ≤ 255) (h : (numberF (strOfNums [d1, d2, d3, d4, d5, d6, d7, d8])).2 = true) :
    ∃ n, 0 ≤ n ∧ n ≤ 99999999 ∧ (numberF (strOfNums [d1, d2, d3, d4, d5, d6, d7, d8])).1 = n ∧ [d1, d2, d3, d4, d5, d6, d7, d8] = [48 + n / 10000000 % 10, 48 + n / 1000000 % 10, 48 + n / 100000 % 10, 48 + n / 10000 % 10, 48 + n / 1000 % 10, 48 + n / 100 % 10, 48 + n / 10 % 10, 48 + n % 10] := by
  have hbt := bt_str hb
  have e0 : bt (strOfNums [d1, d2, d3, d4, d5, d6, d7, d8]) 0 = d1 := by rw [hbt]; rfl
  have e1 : bt (strOfNums [d1, d2, d3, d4, d5, d6, d7, d8]) 1 = d2 := by rw [hbt]; rfl
  have e2 : bt (strOfNums [d1, d2, d3, d4, d5, d6, d7, d8]) 2 = d3 := by rw [hbt]; rfl
  have e3 : bt (strOfNums [d1, d2, d3, d4, d5, d6, d7, d8]) 3 = d4 := by rw [hbt]; rfl
  have e4 : bt (strOfNums [d1, d2, d3, d4, d5, d6, d7, d8]) 4 = d5 := by rw [hbt]; rfl
  have e5 : bt (strOfNums [d1, d2, d3, d4, d5, d6, d7, d8]) 5 = d6 := by rw [hbt]; rfl
  have e6 : bt (strOfNums [d1, d2, d3, d4, d5, d6, d7, d8]) 6 = d7 := by rw [hbt]; rfl
  have e7 : bt (strOfNums [d1, d2, d3, d4, d5, d6, d7, d8]) 7 = d8 := by rw [hbt]; rfl
  have hn : numberF (strOfNums [d1, d2, d3, d4, d5, d6, d7, d8]) = numAt (strOfNums [d1, d2, d3, d4, d5, d6, d7, d8]) 8 0 0 := by unfold numberF; rw [if_pos (by rw [strOfNums_size]; rfl)]
  rw [hn] at h ⊢
  simp only [numAt] at h ⊢
  rw [show ((0 : Nat) : Int) = 0 from rfl, show ((0 + 1 : Nat) : Int) = 1 from rfl, show ((0 + 1 + 1 : Nat) : Int) = 2 from rfl, show ((0 + 1 + 1 + 1 : Nat) : Int) = 3 from rfl, show ((0 + 1 + 1 + 1 + 1 : Nat) : Int) = 4 from rfl, show ((0 + 1 + 1 + 1 + 1 + 1 : Nat) : Int) = 5 from rfl, show ((0 + 1 + 1 + 1 + 1 + 1 + 1 : Nat) : Int) = 6 from rfl, show ((0 + 1 + 1 + 1 + 1 + 1 + 1 + 1 : Nat) : Int) = 7 from rfl] at h ⊢
  rw [e0, e1, e2, e3, e4, e5, e6, e7] at h ⊢
  have nt : ∀ {c : Prop} [Decidable c] {x : Int × Bool}, (if c then ((0 : Int), false) else x).2 = true → ¬ c := fun {c} _ {x} hh hc => by rw [if_pos hc] at hh; cases hh
  have g0 := nt h; rw [if_neg g0] at h ⊢
  have g1 := nt h; rw [if_neg g1] at h ⊢
  have g2 := nt h; rw [if_neg g2] at h ⊢
  have g3 := nt h; rw [if_neg g3] at h ⊢
  have g4 := nt h; rw [if_neg g4] at h ⊢
  have g5 := nt h; rw [if_neg g5] at h ⊢
  have g6 := nt h; rw [if_neg g6] at h ⊢
  have g7 := nt h; rw [if_neg g7] at h ⊢
  clear h hn e0 e1 e2 e3 e4 e5 e6 e7 hbt hb nt
  refine ⟨_, ?_, ?_, rfl, ?_⟩
  · dsimp only; omega
  · dsimp only; omega
  · dsimp only
    simp only [List.cons.injEq, and_true]
    refine ⟨?_, ?_, ?_, ?_, ?_, ?_, ?_, ?_⟩ <;> omega
theorem parse_spec (s : ByteArray) : parseF s = (0, 0, false) ∨ (s.toList = [109] ∧ parseF s = (3, 0, true)) ∨ (s.toList = [116] ∧ parseF s = (4, 0, true)) ∨
    ∃ c kind n : Int, ((c = 115 ∧ kind = 1) ∨ (c = 104 ∧ kind = 2)) ∧ 0 ≤ n ∧ n ≤ 99999999 ∧ parseF s = (kind, n, true) ∧ s = strOfNums (numberedL c n) := by
  have hs := str_bytes s
  have hr := bytesOf_range s
  generalize bytesOf s = l at hs hr
  subst hs
  by_cases h1 : (strOfNums l).toList.isEmpty = true
  · exact .inl (by rw [parseF, if_pos h1])
  by_cases h2 : ((strOfNums l).toList == [109]) = true
  · exact .inr (.inl ⟨beq_iff_eq.1 h2, by rw [parseF, if_neg h1, if_pos h2]⟩)
  by_cases h3 : ((strOfNums l).toList == [116]) = true
  · exact .inr (.inr (.inl ⟨beq_iff_eq.1 h3, by rw [parseF, if_neg h1, if_neg h2, if_pos h3]⟩))
  have hp : parseF (strOfNums l) = if (numberF (rest1 (strOfNums l))).2 = true then (if ((first1 (strOfNums l)).toList == [115]) = true then (1, (numberF (rest1 (strOfNums l))).1, true) else if ((first1 (strOfNums l)).toList == [104]) = true then (2, (numberF (rest1 (strOfNums l))).1, true) else (0, 0, false)) else (0, 0, false) := by
    rw [parseF, if_neg h1, if_neg h2, if_neg h3]
  by_cases h4 : (numberF (rest1 (strOfNums l))).2 = true
  · rw [if_pos h4] at hp
    cases l with
    | nil => exact absurd (by rw [str_toList]; rfl) h1
    | cons c ds =>
      rw [rest_str] at h4 hp
      rw [first_str] at hp
      have hlen : ds.length = 8 := by
        unfold numberF at h4
        split at h4
        · rename_i h; rwa [strOfNums_size] at h
        · cases h4
      match ds, hlen with
      | [d1, d2, d3, d4, d5, d6, d7, d8], _ =>
        have hds : ∀ x ∈ [d1, d2, d3, d4, d5, d6, d7, d8], 0 ≤ x ∧ x ≤ 255 := fun x hx => hr x (List.mem_cons_of_mem _ hx)
        have hc := hr c List.mem_cons_self
        obtain ⟨n, n0, n1, hn, hd⟩ := digits_back hds h4
        rw [hn] at hp
        have hcc : ∀ v : Nat, v ≤ 255 → ([UInt8.ofNat c.toNat] == [UInt8.ofNat v]) = true → c = v := fun v hv h => by
          rw [beq_iff_eq] at h
          have h := (List.cons.inj h).1
          have h := congrArg UInt8.toNat h
          rw [UInt8.toNat_ofNat', UInt8.toNat_ofNat'] at h
          omega
        by_cases h5 : ([UInt8.ofNat c.toNat] == [115]) = true
        · rw [if_pos h5] at hp
          have := hcc 115 (by omega) h5
          exact .inr (.inr (.inr ⟨115, 1, n, .inl ⟨rfl, rfl⟩, n0, n1, hp, by rw [numberedL_eq, ← hd, this]; rfl⟩))
        · rw [if_neg h5] at hp
          by_cases h6 : ([UInt8.ofNat c.toNat] == [104]) = true
          · rw [if_pos h6] at hp
            have := hcc 104 (by omega) h6
            exact .inr (.inr (.inr ⟨104, 2, n, .inr ⟨rfl, rfl⟩, n0, n1, hp, by rw [numberedL_eq, ← hd, this]; rfl⟩))
          · rw [if_neg h6] at hp
            exact .inl hp
  · rw [if_neg h4] at hp
    exact .inl hp
end Go.Proofs.Ytgolccldopofbaa
