/-
  No cell of these rows narrows 'for every input' (looked for: loops, veiled, ifaces, maps, wideKeys, modest, calm, conditions, laid).
  DERIVED. THE GIVEN ROWS OF THIS SEAT. 6 by the template 'for every input the law returns true; each argument reads behind the call as it read before'; 0 by the template 'total and deterministic' (their statements: YtomlnflblecpbaaTotals.lean).
  GIVEN WITH THE SEED: the statements are not yours to turn. If you find one false, say at which input.
  Laid BY PROGRAM, IN A SANDBOX (cutbox-rows.mjs): the forced cells as the released guide's own fill.sh prints them over the translation 857b8a7506da65f4… (all of the seat's roots in one cut). By AI agents, Wed Nov 11 2026. No macro, syntax, notation, axiom, sorry.
-/
import Derived.Test.YtomlnflblecpbaaChecked
import GoSem.Claim
import GoSem.ClaimJoined
import GoSem.ClaimMapViews
import Derived.JoinedTies
import Derived.KernelRfl
namespace Go.Proofs.Ytomlnflblecpbaa
/- THE CELL 'sum', in the pinned program and in every row, IS THE sha256 OF THE DUMP (.gsa) THAT YtomlnflblecpbaaProg.lean LOADS. Nothing in Lean hashes anything: it is a label: what it is worth is what the hold of that sum in a sandbox is worth. -/
noncomputable def Try.pinned : Pinned := { name := "ytomlnflblecpbaa", sum := "857b8a7506da65f474a41b9d70b27d98d445f4f3dbb8fb28fc8f93e5b2609dc5", checked := Try.checked }
namespace Rows
def none {H : Type} : Left H := { results := [], args := [] }

/-- 'souterrainlaw13.KeysPlays': WHATEVER THE INPUT: true; the input reads as it did. -/
def keysPlaysSpec : ChangeSpec := { name := "keysPlays", fn := fun _ => fun
  | [d] => { results := [.lit (.bool true)], args := [d] }
  | _ => none }
def keysPlaysRow : OpenClaim := { program := "ytomlnflblecpbaa", sum := "857b8a7506da65f474a41b9d70b27d98d445f4f3dbb8fb28fc8f93e5b2609dc5", func := "souterrain/souterrainlaw13.KeysPlays", spec := "keysPlays", unfollowed := true, recurses := true, apart := false }
def KeysPlaysSaid : Prop := keysPlaysRow.holds Try.pinned (OpenSpec.ofChange keysPlaysSpec)

/-- ITS FALSE NEIGHBOUR: 'it returns false'. Refute it at one input. -/
def keysPlaysWrong : ChangeSpec := { name := "keysPlays", fn := fun _ => fun
  | [d] => { results := [.lit (.bool false)], args := [d] }
  | _ => none }
def KeysPlaysWrongFalsely : Prop := keysPlaysRow.holds Try.pinned (OpenSpec.ofChange keysPlaysWrong)

/-- 'souterrainlaw13.KeysMap': WHATEVER THE INPUT: true; the input reads as it did. -/
def keysMapSpec : ChangeSpec := { name := "keysMap", fn := fun _ => fun
  | [d1, d2] => { results := [.lit (.bool true)], args := [d1, d2] }
  | _ => none }
def keysMapRow : OpenClaim := { program := "ytomlnflblecpbaa", sum := "857b8a7506da65f474a41b9d70b27d98d445f4f3dbb8fb28fc8f93e5b2609dc5", func := "souterrain/souterrainlaw13.KeysMap", spec := "keysMap", unfollowed := true, recurses := true, apart := false }
def KeysMapSaid : Prop := keysMapRow.holds Try.pinned (OpenSpec.ofChange keysMapSpec)

/-- ITS FALSE NEIGHBOUR: 'it returns false'. Refute it at one input. -/
def keysMapWrong : ChangeSpec := { name := "keysMap", fn := fun _ => fun
  | [d1, d2] => { results := [.lit (.bool false)], args := [d1, d2] }
  | _ => none }
def KeysMapWrongFalsely : Prop := keysMapRow.holds Try.pinned (OpenSpec.ofChange keysMapWrong)

/-- 'souterrainlaw13.KeysOrder': WHATEVER THE INPUT: true; the input reads as it did. -/
def keysOrderSpec : ChangeSpec := { name := "keysOrder", fn := fun _ => fun
  | [d] => { results := [.lit (.bool true)], args := [d] }
  | _ => none }
def keysOrderRow : OpenClaim := { program := "ytomlnflblecpbaa", sum := "857b8a7506da65f474a41b9d70b27d98d445f4f3dbb8fb28fc8f93e5b2609dc5", func := "souterrain/souterrainlaw13.KeysOrder", spec := "keysOrder", unfollowed := true, recurses := true, apart := false }
def KeysOrderSaid : Prop := keysOrderRow.holds Try.pinned (OpenSpec.ofChange keysOrderSpec)

/-- ITS FALSE NEIGHBOUR: 'it returns false'. Refute it at one input. -/
def keysOrderWrong : ChangeSpec := { name := "keysOrder", fn := fun _ => fun
  | [d] => { results := [.lit (.bool false)], args := [d] }
  | _ => none }
def KeysOrderWrongFalsely : Prop := keysOrderRow.holds Try.pinned (OpenSpec.ofChange keysOrderWrong)

/-- 'souterrainlaw13.KeysFrom': WHATEVER THE INPUT: true; the input reads as it did. -/
def keysFromSpec : ChangeSpec := { name := "keysFrom", fn := fun _ => fun
  | [d1, d2, d3] => { results := [.lit (.bool true)], args := [d1, d2, d3] }
  | _ => none }
def keysFromRow : OpenClaim := { program := "ytomlnflblecpbaa", sum := "857b8a7506da65f474a41b9d70b27d98d445f4f3dbb8fb28fc8f93e5b2609dc5", func := "souterrain/souterrainlaw13.KeysFrom", spec := "keysFrom", unfollowed := true, recurses := true, apart := false }
def KeysFromSaid : Prop := keysFromRow.holds Try.pinned (OpenSpec.ofChange keysFromSpec)

/-- ITS FALSE NEIGHBOUR: 'it returns false'. Refute it at one input. -/
def keysFromWrong : ChangeSpec := { name := "keysFrom", fn := fun _ => fun
  | [d1, d2, d3] => { results := [.lit (.bool false)], args := [d1, d2, d3] }
  | _ => none }
def KeysFromWrongFalsely : Prop := keysFromRow.holds Try.pinned (OpenSpec.ofChange keysFromWrong)

/-- 'souterrainlaw13.KeysApart': WHATEVER THE INPUT: true; the input reads as it did. -/
def keysApartSpec : ChangeSpec := { name := "keysApart", fn := fun _ => fun
  | [d1, d2] => { results := [.lit (.bool true)], args := [d1, d2] }
  | _ => none }
def keysApartRow : OpenClaim := { program := "ytomlnflblecpbaa", sum := "857b8a7506da65f474a41b9d70b27d98d445f4f3dbb8fb28fc8f93e5b2609dc5", func := "souterrain/souterrainlaw13.KeysApart", spec := "keysApart", unfollowed := true, recurses := true, apart := false }
def KeysApartSaid : Prop := keysApartRow.holds Try.pinned (OpenSpec.ofChange keysApartSpec)

/-- ITS FALSE NEIGHBOUR: 'it returns false'. Refute it at one input. -/
def keysApartWrong : ChangeSpec := { name := "keysApart", fn := fun _ => fun
  | [d1, d2] => { results := [.lit (.bool false)], args := [d1, d2] }
  | _ => none }
def KeysApartWrongFalsely : Prop := keysApartRow.holds Try.pinned (OpenSpec.ofChange keysApartWrong)

/-- 'souterrainlaw13.KeysTwice': WHATEVER THE INPUT: true; the input reads as it did. -/
def keysTwiceSpec : ChangeSpec := { name := "keysTwice", fn := fun _ => fun
  | [d1, d2] => { results := [.lit (.bool true)], args := [d1, d2] }
  | _ => none }
def keysTwiceRow : OpenClaim := { program := "ytomlnflblecpbaa", sum := "857b8a7506da65f474a41b9d70b27d98d445f4f3dbb8fb28fc8f93e5b2609dc5", func := "souterrain/souterrainlaw13.KeysTwice", spec := "keysTwice", unfollowed := true, recurses := true, apart := false }
def KeysTwiceSaid : Prop := keysTwiceRow.holds Try.pinned (OpenSpec.ofChange keysTwiceSpec)

/-- ITS FALSE NEIGHBOUR: 'it returns false'. Refute it at one input. -/
def keysTwiceWrong : ChangeSpec := { name := "keysTwice", fn := fun _ => fun
  | [d1, d2] => { results := [.lit (.bool false)], args := [d1, d2] }
  | _ => none }
def KeysTwiceWrongFalsely : Prop := keysTwiceRow.holds Try.pinned (OpenSpec.ofChange keysTwiceWrong)

/- THE SECOND FORM. 'bulk': how many values and letters a reading holds, each counted each time it is reached (what is shared counts as often as it is met; a slice's spare places count too). A statement '..UptoSaid' is the law's where the arguments, and the package variables that the reading takes, are together of bulk at most 1048576: NARROWER than '..Said'. Prove '..Said' where nothing that the law and all that it calls make is longer than what came in: it says more and counts as full. Else prove '..UptoSaid'. A law counts once. -/
mutual
def uptoBulk {H : Type} : DataW H → Nat
  | .lit (.string bytes) => bytes.length + 1
  | .lit _ => 1
  | .nil => 1
  | .ptr d => uptoBulk d + 1
  | .slice elems spare => uptoBulkAll elems + uptoBulkAll spare + 1
  | .agg parts => uptoBulkAll parts + 1
  | .iface _ d => uptoBulk d + 1
  | .map entries => uptoBulkEntries entries + 1
  | .held _ => 1
def uptoBulkAll {H : Type} : List (DataW H) → Nat
  | [] => 0
  | d :: r => uptoBulk d + uptoBulkAll r
def uptoBulkEntries {H : Type} : List (Lit × DataW H) → Nat
  | [] => 0
  | x :: r => uptoBulkEntry x + uptoBulkEntries r
def uptoBulkEntry {H : Type} : Lit × DataW H → Nat
  | (.string bytes, d) => bytes.length + uptoBulk d + 1
  | (_, d) => uptoBulk d + 1
 end
def uptoSmall : (H : Type) → List (DataW H) → Bool := fun _ ds => decide (uptoBulkAll ds ≤ 1048576)
def OpenSpec.upto (s : _root_.Go.ChangeSpec) : _root_.Go.OpenSpec := { _root_.Go.OpenSpec.ofChange s with cond := some uptoSmall }

/-- 'souterrainlaw13.KeysPlays', WHERE WHAT IT READS IS OF BULK AT MOST 1048576: true; the input reads as it did. -/
def keysPlaysUptoRow : OpenClaim := { program := "ytomlnflblecpbaa", sum := "857b8a7506da65f474a41b9d70b27d98d445f4f3dbb8fb28fc8f93e5b2609dc5", func := "souterrain/souterrainlaw13.KeysPlays", spec := "keysPlays", unfollowed := true, recurses := true, apart := false, narrowed := true }
def KeysPlaysUptoSaid : Prop := keysPlaysUptoRow.holds Try.pinned (OpenSpec.upto keysPlaysSpec)

/-- 'souterrainlaw13.KeysMap', WHERE WHAT IT READS IS OF BULK AT MOST 1048576: true; the input reads as it did. -/
def keysMapUptoRow : OpenClaim := { program := "ytomlnflblecpbaa", sum := "857b8a7506da65f474a41b9d70b27d98d445f4f3dbb8fb28fc8f93e5b2609dc5", func := "souterrain/souterrainlaw13.KeysMap", spec := "keysMap", unfollowed := true, recurses := true, apart := false, narrowed := true }
def KeysMapUptoSaid : Prop := keysMapUptoRow.holds Try.pinned (OpenSpec.upto keysMapSpec)

/-- 'souterrainlaw13.KeysOrder', WHERE WHAT IT READS IS OF BULK AT MOST 1048576: true; the input reads as it did. -/
def keysOrderUptoRow : OpenClaim := { program := "ytomlnflblecpbaa", sum := "857b8a7506da65f474a41b9d70b27d98d445f4f3dbb8fb28fc8f93e5b2609dc5", func := "souterrain/souterrainlaw13.KeysOrder", spec := "keysOrder", unfollowed := true, recurses := true, apart := false, narrowed := true }
def KeysOrderUptoSaid : Prop := keysOrderUptoRow.holds Try.pinned (OpenSpec.upto keysOrderSpec)

/-- 'souterrainlaw13.KeysFrom', WHERE WHAT IT READS IS OF BULK AT MOST 1048576: true; the input reads as it did. -/
def keysFromUptoRow : OpenClaim := { program := "ytomlnflblecpbaa", sum := "857b8a7506da65f474a41b9d70b27d98d445f4f3dbb8fb28fc8f93e5b2609dc5", func := "souterrain/souterrainlaw13.KeysFrom", spec := "keysFrom", unfollowed := true, recurses := true, apart := false, narrowed := true }
def KeysFromUptoSaid : Prop := keysFromUptoRow.holds Try.pinned (OpenSpec.upto keysFromSpec)

/-- 'souterrainlaw13.KeysApart', WHERE WHAT IT READS IS OF BULK AT MOST 1048576: true; the input reads as it did. -/
def keysApartUptoRow : OpenClaim := { program := "ytomlnflblecpbaa", sum := "857b8a7506da65f474a41b9d70b27d98d445f4f3dbb8fb28fc8f93e5b2609dc5", func := "souterrain/souterrainlaw13.KeysApart", spec := "keysApart", unfollowed := true, recurses := true, apart := false, narrowed := true }
def KeysApartUptoSaid : Prop := keysApartUptoRow.holds Try.pinned (OpenSpec.upto keysApartSpec)

/-- 'souterrainlaw13.KeysTwice', WHERE WHAT IT READS IS OF BULK AT MOST 1048576: true; the input reads as it did. -/
def keysTwiceUptoRow : OpenClaim := { program := "ytomlnflblecpbaa", sum := "857b8a7506da65f474a41b9d70b27d98d445f4f3dbb8fb28fc8f93e5b2609dc5", func := "souterrain/souterrainlaw13.KeysTwice", spec := "keysTwice", unfollowed := true, recurses := true, apart := false, narrowed := true }
def KeysTwiceUptoSaid : Prop := keysTwiceUptoRow.holds Try.pinned (OpenSpec.upto keysTwiceSpec)

end Rows
end Go.Proofs.Ytomlnflblecpbaa
