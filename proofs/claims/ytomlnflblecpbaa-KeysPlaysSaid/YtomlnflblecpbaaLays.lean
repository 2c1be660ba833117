/-
  Layer 13: the library function slices.Sort at []string: where it lies in this program; its contract, off the library.
-/
import Derived.Shelf.Sort.Plain
import Derived.Shelf.Slices.In.SortNone
import Derived.Test.YtomlnflblecpbaaProg
namespace Go.Proofs.Ytomlnflblecpbaa
set_option linter.unusedVariables false
set_option linter.unusedSimpArgs false
open Go.Shelf Go.Sort
def lays190_ren : Go.Shelf.Ren := ⟨fun | 190 => 31 | 125 => 37 | 258 => 36 | 128 => 47 | 129 => 48 | 302 => 39 | 303 => 40 | 304 => 41 | 305 => 42 | 306 => 43 | 307 => 44 | 308 => 34 | 309 => 45 | 310 => 46 | 333 => 49 | 329 => 50 | 330 => 51 | 334 => 52 | 335 => 53 | 336 => 38 | 344 => 54 | n => n, fun | 31 => 38 | 9 => 9 | 3 => 3 | 46 => 65 | 0 => 0 | 51 => 62 | 53 => 79 | 4 => 4 | 183 => 72 | 182 => 71 | 131 => 59 | 5 => 5 | 218 => 80 | 222 => 84 | 228 => 86 | 229 => 87 | n => n, fun | n => n⟩
theorem lays190 : Go.Proofs.Lays.n190 Try.prog lays190_ren := {
  mixed := by kernel_rfl
  f125 := Try.func37.trans (congrArg some (by kernel_rfl))
  f128 := Try.func47.trans (congrArg some (by kernel_rfl))
  f129 := Try.func48.trans (congrArg some (by kernel_rfl))
  f190 := Try.func31.trans (congrArg some (by kernel_rfl))
  f258 := Try.func36.trans (congrArg some (by kernel_rfl))
  f302 := Try.func39.trans (congrArg some (by kernel_rfl))
  f303 := Try.func40.trans (congrArg some (by kernel_rfl))
  f304 := Try.func41.trans (congrArg some (by kernel_rfl))
  f305 := Try.func42.trans (congrArg some (by kernel_rfl))
  f306 := Try.func43.trans (congrArg some (by kernel_rfl))
  f307 := Try.func44.trans (congrArg some (by kernel_rfl))
  f308 := Try.func34.trans (congrArg some (by kernel_rfl))
  f309 := Try.func45.trans (congrArg some (by kernel_rfl))
  f310 := Try.func46.trans (congrArg some (by kernel_rfl))
  f329 := Try.func50.trans (congrArg some (by kernel_rfl))
  f330 := Try.func51.trans (congrArg some (by kernel_rfl))
  f333 := Try.func49.trans (congrArg some (by kernel_rfl))
  f334 := Try.func52.trans (congrArg some (by kernel_rfl))
  f335 := Try.func53.trans (congrArg some (by kernel_rfl))
  f336 := Try.func38.trans (congrArg some (by kernel_rfl))
  f344 := Try.func54.trans (congrArg some (by kernel_rfl))
  t0 := Try.underlying0
  a0 := Try.isAgg0
  z0 := Try.sizeOf0
  v0 := Try.zeroValue0
  t3 := Try.underlying3
  a3 := Try.isAgg3
  z3 := Try.sizeOf3
  v3 := Try.zeroValue3
  t4 := Try.underlying4
  a4 := Try.isAgg4
  z4 := Try.sizeOf4
  v4 := Try.zeroValue4
  t5 := Try.underlying5
  a5 := Try.isAgg5
  z5 := Try.sizeOf5
  v5 := Try.zeroValue5
  t9 := Try.underlying9
  a9 := Try.isAgg9
  z9 := Try.sizeOf9
  v9 := Try.zeroValue9
  t31 := Try.underlying38
  a31 := Try.isAgg38
  z31 := Try.sizeOf38
  v31 := Try.zeroValue38
  t46 := Try.underlying65
  a46 := Try.isAgg65
  z46 := Try.sizeOf65
  v46 := Try.zeroValue65
  t51 := Try.underlying62
  a51 := Try.isAgg62
  z51 := Try.sizeOf62
  v51 := Try.zeroValue62
  t53 := Try.underlying79
  a53 := Try.isAgg79
  z53 := Try.sizeOf79
  v53 := Try.zeroValue79
  t131 := Try.underlying59
  a131 := Try.isAgg59
  z131 := Try.sizeOf59
  v131 := Try.zeroValue59
  t182 := Try.underlying71
  a182 := Try.isAgg71
  z182 := Try.sizeOf71
  v182 := Try.zeroValue71
  t183 := Try.underlying72
  a183 := Try.isAgg72
  z183 := Try.sizeOf72
  v183 := Try.zeroValue72
  t218 := Try.underlying80
  a218 := Try.isAgg80
  z218 := Try.sizeOf80
  v218 := Try.zeroValue80
  t222 := Try.underlying84
  a222 := Try.isAgg84
  z222 := Try.sizeOf84
  v222 := Try.zeroValue84
  t228 := Try.underlying86
  a228 := Try.isAgg86
  z228 := Try.sizeOf86
  v228 := Try.zeroValue86
  t229 := Try.underlying87
  a229 := Try.isAgg87
  z229 := Try.sizeOf87
  v229 := Try.zeroValue87 }
theorem sort_calls (b cap : Nat) (ss : List (List UInt8)) (w : World) (hH : Holds encStr w b 0 ss.toArray) (hb : b < w.heap.size) (hs : ss.length < 4611686018427387904) :
    Calls Try.prog 31 #[.slice (some ⟨b, 0, none⟩) ss.length cap] w fun e w' => e = .returned (.tuple #[]) ∧ ∃ n os, w' = grow (putRow encStr (Sort.ahead w n) b 0 (ss.mergeSort fun x y => decide (x ≤ y)).toArray) os :=
  Any.slices_Sort_string lays190 b 0 cap ss w hH hb hs
theorem sort_none (p : Option Addr) (cap : Nat) (w : World) : Calls Try.prog 31 #[.slice p 0 cap] w fun e w' => e = .returned (.tuple #[]) ∧ w' = w := Any.slices_Sort_string_none lays190 p cap w
end Go.Proofs.Ytomlnflblecpbaa
