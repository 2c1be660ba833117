/-
  Layer 5: the library functions slices.Sort and slices.Compact at []int: where they lie in this program; their contracts, off the library.
-/
import Derived.Shelf.Sort.Plain
import Derived.Shelf.Slices.In.SortNone
import Derived.Shelf.Slices.In.CompactI
import Derived.Sort.EveryDepth
import Derived.Test.YtgolccldopofbaaProg
namespace Go.Proofs.Ytgolccldopofbaa
set_option linter.unusedVariables false
set_option linter.unusedSimpArgs false
open Go.Shelf Go.Sort Go.RowKit
def lays189_ren : Go.Shelf.Ren := ⟨fun | 189 => 18 | 125 => 21 | 257 => 20 | 128 => 31 | 129 => 32 | 294 => 22 | 295 => 23 | 296 => 24 | 297 => 25 | 298 => 26 | 299 => 27 | 216 => 28 | 300 => 29 | 301 => 30 | 328 => 33 | 329 => 34 | 330 => 35 | 331 => 36 | 332 => 37 | 215 => 38 | 343 => 39 | n => n, fun | 28 => 28 | 3 => 3 | 46 => 47 | 0 => 0 | 51 => 32 | 53 => 58 | 4 => 4 | 183 => 50 | 182 => 49 | 131 => 39 | 5 => 5 | 9 => 9 | 218 => 59 | 222 => 63 | 228 => 66 | 229 => 67 | n => n, fun | n => n⟩
theorem lays189 : Go.Proofs.Lays.n189 Try.prog lays189_ren where
  mixed := by kernel_rfl
  f125 := Try.func21.trans (congrArg some (by kernel_rfl))
  f128 := Try.func31.trans (congrArg some (by kernel_rfl))
  f129 := Try.func32.trans (congrArg some (by kernel_rfl))
  f189 := Try.func18.trans (congrArg some (by kernel_rfl))
  f215 := Try.func38.trans (congrArg some (by kernel_rfl))
  f216 := Try.func28.trans (congrArg some (by kernel_rfl))
  f257 := Try.func20.trans (congrArg some (by kernel_rfl))
  f294 := Try.func22.trans (congrArg some (by kernel_rfl))
  f295 := Try.func23.trans (congrArg some (by kernel_rfl))
  f296 := Try.func24.trans (congrArg some (by kernel_rfl))
  f297 := Try.func25.trans (congrArg some (by kernel_rfl))
  f298 := Try.func26.trans (congrArg some (by kernel_rfl))
  f299 := Try.func27.trans (congrArg some (by kernel_rfl))
  f300 := Try.func29.trans (congrArg some (by kernel_rfl))
  f301 := Try.func30.trans (congrArg some (by kernel_rfl))
  f328 := Try.func33.trans (congrArg some (by kernel_rfl))
  f329 := Try.func34.trans (congrArg some (by kernel_rfl))
  f330 := Try.func35.trans (congrArg some (by kernel_rfl))
  f331 := Try.func36.trans (congrArg some (by kernel_rfl))
  f332 := Try.func37.trans (congrArg some (by kernel_rfl))
  f343 := Try.func39.trans (congrArg some (by kernel_rfl))
  t0 := Try.underlying0
  a0 := Try.isAgg0
  z0 := Try.sizeOf0
  v0 := Try.zeroValue0
  t3 := Try.underlying3
  a3 := Try.isAgg3
  z3 := Try.sizeOf3
  v3 := Try.zeroValue3
  t4 := Try.underlying4
  a4 := Try.isAgg4
  z4 := Try.sizeOf4
  v4 := Try.zeroValue4
  t5 := Try.underlying5
  a5 := Try.isAgg5
  z5 := Try.sizeOf5
  v5 := Try.zeroValue5
  t9 := Try.underlying9
  a9 := Try.isAgg9
  z9 := Try.sizeOf9
  v9 := Try.zeroValue9
  t28 := Try.underlying28
  a28 := Try.isAgg28
  z28 := Try.sizeOf28
  v28 := Try.zeroValue28
  t46 := Try.underlying47
  a46 := Try.isAgg47
  z46 := Try.sizeOf47
  v46 := Try.zeroValue47
  t51 := Try.underlying32
  a51 := Try.isAgg32
  z51 := Try.sizeOf32
  v51 := Try.zeroValue32
  t53 := Try.underlying58
  a53 := Try.isAgg58
  z53 := Try.sizeOf58
  v53 := Try.zeroValue58
  t131 := Try.underlying39
  a131 := Try.isAgg39
  z131 := Try.sizeOf39
  v131 := Try.zeroValue39
  t182 := Try.underlying49
  a182 := Try.isAgg49
  z182 := Try.sizeOf49
  v182 := Try.zeroValue49
  t183 := Try.underlying50
  a183 := Try.isAgg50
  z183 := Try.sizeOf50
  v183 := Try.zeroValue50
  t218 := Try.underlying59
  a218 := Try.isAgg59
  z218 := Try.sizeOf59
  v218 := Try.zeroValue59
  t222 := Try.underlying63
  a222 := Try.isAgg63
  z222 := Try.sizeOf63
  v222 := Try.zeroValue63
  t228 := Try.underlying66
  a228 := Try.isAgg66
  z228 := Try.sizeOf66
  v228 := Try.zeroValue66
  t229 := Try.underlying67
  a229 := Try.isAgg67
  z229 := Try.sizeOf67
  v229 := Try.zeroValue67
def lays20_ren : Go.Shelf.Ren := ⟨fun | 20 => 19 | n => n, fun | 22 => 28 | 3 => 3 | 4 => 4 | 0 => 0 | n => n, fun | n => n⟩
theorem lays20 : Go.Proofs.Lays2.n20 Try.prog lays20_ren where
  mixed := by kernel_rfl
  f20 := Try.func19.trans (congrArg some (by kernel_rfl))
  t0 := Try.underlying0
  a0 := Try.isAgg0
  z0 := Try.sizeOf0
  v0 := Try.zeroValue0
  t3 := Try.underlying3
  a3 := Try.isAgg3
  z3 := Try.sizeOf3
  v3 := Try.zeroValue3
  t4 := Try.underlying4
  a4 := Try.isAgg4
  z4 := Try.sizeOf4
  v4 := Try.zeroValue4
  t22 := Try.underlying28
  a22 := Try.isAgg28
  z22 := Try.sizeOf28
  v22 := Try.zeroValue28
  i3 := by kernel_rfl
theorem sort_calls (blk off cap : Nat) (zs : List Int) (w : World) (hH : Holds (Value.int .i64) w blk off zs.toArray) (hblk : blk < w.heap.size) (hsz : zs.length < 4611686018427387904) :
    Calls Try.prog 18 #[.slice (some ⟨blk, off, none⟩) zs.length cap] w fun e w' =>
      e = .returned (.tuple #[]) ∧ ∃ n os, w' = grow (putRow (Value.int .i64) (Sort.ahead w n) blk off (zs.mergeSort fun x y => decide (x ≤ y)).toArray) os :=
  Any.slices_Sort_int lays189 blk off cap zs w hH hblk hsz
theorem sort_none (p : Option Addr) (cap : Nat) (w : World) : Calls Try.prog 18 #[.slice p 0 cap] w fun e w' => e = .returned (.tuple #[]) ∧ w' = w := Any.slices_Sort_int_none lays189 p cap w
theorem compact_calls (blk off cap : Nat) (zs : List Int) (w : World) (hH : Holds (Value.int .i64) w blk off zs.toArray) (hsz : zs.length ≤ 9223372036854775807) (hcap : zs.length ≤ cap) :
    Calls Try.prog 19 #[.slice (some ⟨blk, off, none⟩) zs.length cap] w fun e w' => e = .returned (.slice (some ⟨blk, off, none⟩) (Lib.compact zs).length cap) ∧ ∃ q, w' = putRow (Value.int .i64) (Sort.ahead w q) blk off (Lib.compact zs ++ List.replicate (zs.length - (Lib.compact zs).length) 0).toArray :=
  calls_of_every_depth fun D => AnyS.slices_Compact_int_in lays20 D blk off cap zs w hH hsz hcap
theorem compact_none (a : Option Addr) (cap : Nat) (w : World) : Calls Try.prog 19 #[.slice a 0 cap] w fun e w' => e = .returned (.slice a 0 cap) ∧ w' = w :=
  calls_of_every_depth fun D => AnyS.slices_Compact_int_empty_in lays20 D a cap w
end Go.Proofs.Ytgolccldopofbaa
