/-
  No cell of these rows narrows 'for every input' (looked for: loops, veiled, ifaces, maps, wideKeys, modest, calm, conditions, laid).
  DERIVED. THE GIVEN ROWS OF THIS SEAT. 6 by the template 'for every input the law returns true; each argument reads behind the call as it read before'; 0 by the template 'total and deterministic' (their statements: YtemnhgmgffdncaaTotals.lean).
  GIVEN WITH THE SEED: the statements are not yours to turn. If you find one false, say at which input.
  Laid BY PROGRAM, IN A SANDBOX (cutbox-rows.mjs): the forced cells as the released guide's own fill.sh prints them over the translation 233db6f47769ee3f… (all of the seat's roots in one cut). By AI agents, Wed Nov 11 2026. No macro, syntax, notation, axiom, sorry.
-/
import Derived.Test.YtemnhgmgffdncaaChecked
import GoSem.Claim
import GoSem.ClaimJoined
import GoSem.ClaimMapViews
import Derived.JoinedTies
import Derived.KernelRfl
namespace Go.Proofs.Ytemnhgmgffdncaa
/- THE CELL 'sum', in the pinned program and in every row, IS THE sha256 OF THE DUMP (.gsa) THAT YtemnhgmgffdncaaProg.lean LOADS. Nothing in Lean hashes anything: it is a label: what it is worth is what the hold of that sum in a sandbox is worth. -/
noncomputable def Try.pinned : Pinned := { name := "ytemnhgmgffdncaa", sum := "233db6f47769ee3f1f0a9451ef1fca440ee39803bef712d6121a212c22dda1a8", checked := Try.checked }
namespace Rows
def none {H : Type} : Left H := { results := [], args := [] }

/-- 'souterrainlaw04.RecTells': WHATEVER THE INPUT: true; the input reads as it did. -/
def recTellsSpec : ChangeSpec := { name := "recTells", fn := fun _ => fun
  | [d1, d2, d3] => { results := [.lit (.bool true)], args := [d1, d2, d3] }
  | _ => none }
def recTellsRow : OpenClaim := { program := "ytemnhgmgffdncaa", sum := "233db6f47769ee3f1f0a9451ef1fca440ee39803bef712d6121a212c22dda1a8", func := "souterrain/souterrainlaw04.RecTells", spec := "recTells", unfollowed := true, recurses := true, apart := false }
def RecTellsSaid : Prop := recTellsRow.holds Try.pinned (OpenSpec.ofChange recTellsSpec)

/-- ITS FALSE NEIGHBOUR: 'it returns false'. Refute it at one input. -/
def recTellsWrong : ChangeSpec := { name := "recTells", fn := fun _ => fun
  | [d1, d2, d3] => { results := [.lit (.bool false)], args := [d1, d2, d3] }
  | _ => none }
def RecTellsWrongFalsely : Prop := recTellsRow.holds Try.pinned (OpenSpec.ofChange recTellsWrong)

/-- 'souterrainlaw04.RecBack': WHATEVER THE INPUT: true; the input reads as it did. -/
def recBackSpec : ChangeSpec := { name := "recBack", fn := fun _ => fun
  | [d1, d2] => { results := [.lit (.bool true)], args := [d1, d2] }
  | _ => none }
def recBackRow : OpenClaim := { program := "ytemnhgmgffdncaa", sum := "233db6f47769ee3f1f0a9451ef1fca440ee39803bef712d6121a212c22dda1a8", func := "souterrain/souterrainlaw04.RecBack", spec := "recBack", unfollowed := true, recurses := true, apart := false }
def RecBackSaid : Prop := recBackRow.holds Try.pinned (OpenSpec.ofChange recBackSpec)

/-- ITS FALSE NEIGHBOUR: 'it returns false'. Refute it at one input. -/
def recBackWrong : ChangeSpec := { name := "recBack", fn := fun _ => fun
  | [d1, d2] => { results := [.lit (.bool false)], args := [d1, d2] }
  | _ => none }
def RecBackWrongFalsely : Prop := recBackRow.holds Try.pinned (OpenSpec.ofChange recBackWrong)

/-- 'souterrainlaw04.RecCut': WHATEVER THE INPUT: true; the input reads as it did. -/
def recCutSpec : ChangeSpec := { name := "recCut", fn := fun _ => fun
  | [d1, d2, d3] => { results := [.lit (.bool true)], args := [d1, d2, d3] }
  | _ => none }
def recCutRow : OpenClaim := { program := "ytemnhgmgffdncaa", sum := "233db6f47769ee3f1f0a9451ef1fca440ee39803bef712d6121a212c22dda1a8", func := "souterrain/souterrainlaw04.RecCut", spec := "recCut", unfollowed := true, recurses := true, apart := false }
def RecCutSaid : Prop := recCutRow.holds Try.pinned (OpenSpec.ofChange recCutSpec)

/-- ITS FALSE NEIGHBOUR: 'it returns false'. Refute it at one input. -/
def recCutWrong : ChangeSpec := { name := "recCut", fn := fun _ => fun
  | [d1, d2, d3] => { results := [.lit (.bool false)], args := [d1, d2, d3] }
  | _ => none }
def RecCutWrongFalsely : Prop := recCutRow.holds Try.pinned (OpenSpec.ofChange recCutWrong)

/-- 'souterrainlaw04.RecUnlike': WHATEVER THE INPUT: true; the input reads as it did. -/
def recUnlikeSpec : ChangeSpec := { name := "recUnlike", fn := fun _ => fun
  | [d1, d2] => { results := [.lit (.bool true)], args := [d1, d2] }
  | _ => none }
def recUnlikeRow : OpenClaim := { program := "ytemnhgmgffdncaa", sum := "233db6f47769ee3f1f0a9451ef1fca440ee39803bef712d6121a212c22dda1a8", func := "souterrain/souterrainlaw04.RecUnlike", spec := "recUnlike", unfollowed := true, recurses := true, apart := false }
def RecUnlikeSaid : Prop := recUnlikeRow.holds Try.pinned (OpenSpec.ofChange recUnlikeSpec)

/-- ITS FALSE NEIGHBOUR: 'it returns false'. Refute it at one input. -/
def recUnlikeWrong : ChangeSpec := { name := "recUnlike", fn := fun _ => fun
  | [d1, d2] => { results := [.lit (.bool false)], args := [d1, d2] }
  | _ => none }
def RecUnlikeWrongFalsely : Prop := recUnlikeRow.holds Try.pinned (OpenSpec.ofChange recUnlikeWrong)

/-- 'souterrainlaw04.RecBare': WHATEVER THE INPUT: true; the input reads as it did. -/
def recBareSpec : ChangeSpec := { name := "recBare", fn := fun _ => fun
  | [d1, d2] => { results := [.lit (.bool true)], args := [d1, d2] }
  | _ => none }
def recBareRow : OpenClaim := { program := "ytemnhgmgffdncaa", sum := "233db6f47769ee3f1f0a9451ef1fca440ee39803bef712d6121a212c22dda1a8", func := "souterrain/souterrainlaw04.RecBare", spec := "recBare", unfollowed := true, recurses := true, apart := false }
def RecBareSaid : Prop := recBareRow.holds Try.pinned (OpenSpec.ofChange recBareSpec)

/-- ITS FALSE NEIGHBOUR: 'it returns false'. Refute it at one input. -/
def recBareWrong : ChangeSpec := { name := "recBare", fn := fun _ => fun
  | [d1, d2] => { results := [.lit (.bool false)], args := [d1, d2] }
  | _ => none }
def RecBareWrongFalsely : Prop := recBareRow.holds Try.pinned (OpenSpec.ofChange recBareWrong)

/-- 'souterrainlaw04.RecSizes': WHATEVER THE INPUT: true; the input reads as it did. -/
def recSizesSpec : ChangeSpec := { name := "recSizes", fn := fun _ => fun
  | [d] => { results := [.lit (.bool true)], args := [d] }
  | _ => none }
def recSizesRow : OpenClaim := { program := "ytemnhgmgffdncaa", sum := "233db6f47769ee3f1f0a9451ef1fca440ee39803bef712d6121a212c22dda1a8", func := "souterrain/souterrainlaw04.RecSizes", spec := "recSizes", unfollowed := true, recurses := true, apart := false }
def RecSizesSaid : Prop := recSizesRow.holds Try.pinned (OpenSpec.ofChange recSizesSpec)

/-- ITS FALSE NEIGHBOUR: 'it returns false'. Refute it at one input. -/
def recSizesWrong : ChangeSpec := { name := "recSizes", fn := fun _ => fun
  | [d] => { results := [.lit (.bool false)], args := [d] }
  | _ => none }
def RecSizesWrongFalsely : Prop := recSizesRow.holds Try.pinned (OpenSpec.ofChange recSizesWrong)

/- THE SECOND FORM. 'bulk': how many values and letters a reading holds, each counted each time it is reached (what is shared counts as often as it is met; a slice's spare places count too). A statement '..UptoSaid' is the law's where the arguments, and the package variables that the reading takes, are together of bulk at most 1048576: NARROWER than '..Said'. Prove '..Said' where nothing that the law and all that it calls make is longer than what came in: it says more and counts as full. Else prove '..UptoSaid'. A law counts once. -/
mutual
def uptoBulk {H : Type} : DataW H → Nat
  | .lit (.string bytes) => bytes.length + 1
  | .lit _ => 1
  | .nil => 1
  | .ptr d => uptoBulk d + 1
  | .slice elems spare => uptoBulkAll elems + uptoBulkAll spare + 1
  | .agg parts => uptoBulkAll parts + 1
  | .iface _ d => uptoBulk d + 1
  | .map entries => uptoBulkEntries entries + 1
  | .held _ => 1
def uptoBulkAll {H : Type} : List (DataW H) → Nat
  | [] => 0
  | d :: r => uptoBulk d + uptoBulkAll r
def uptoBulkEntries {H : Type} : List (Lit × DataW H) → Nat
  | [] => 0
  | x :: r => uptoBulkEntry x + uptoBulkEntries r
def uptoBulkEntry {H : Type} : Lit × DataW H → Nat
  | (.string bytes, d) => bytes.length + uptoBulk d + 1
  | (_, d) => uptoBulk d + 1
 end
def uptoSmall : (H : Type) → List (DataW H) → Bool := fun _ ds => decide (uptoBulkAll ds ≤ 1048576)
def OpenSpec.upto (s : _root_.Go.ChangeSpec) : _root_.Go.OpenSpec := { _root_.Go.OpenSpec.ofChange s with cond := some uptoSmall }

/-- 'souterrainlaw04.RecTells', WHERE WHAT IT READS IS OF BULK AT MOST 1048576: true; the input reads as it did. -/
def recTellsUptoRow : OpenClaim := { program := "ytemnhgmgffdncaa", sum := "233db6f47769ee3f1f0a9451ef1fca440ee39803bef712d6121a212c22dda1a8", func := "souterrain/souterrainlaw04.RecTells", spec := "recTells", unfollowed := true, recurses := true, apart := false, narrowed := true }
def RecTellsUptoSaid : Prop := recTellsUptoRow.holds Try.pinned (OpenSpec.upto recTellsSpec)

/-- 'souterrainlaw04.RecBack', WHERE WHAT IT READS IS OF BULK AT MOST 1048576: true; the input reads as it did. -/
def recBackUptoRow : OpenClaim := { program := "ytemnhgmgffdncaa", sum := "233db6f47769ee3f1f0a9451ef1fca440ee39803bef712d6121a212c22dda1a8", func := "souterrain/souterrainlaw04.RecBack", spec := "recBack", unfollowed := true, recurses := true, apart := false, narrowed := true }
def RecBackUptoSaid : Prop := recBackUptoRow.holds Try.pinned (OpenSpec.upto recBackSpec)

/-- 'souterrainlaw04.RecCut', WHERE WHAT IT READS IS OF BULK AT MOST 1048576: true; the input reads as it did. -/
def recCutUptoRow : OpenClaim := { program := "ytemnhgmgffdncaa", sum := "233db6f47769ee3f1f0a9451ef1fca440ee39803bef712d6121a212c22dda1a8", func := "souterrain/souterrainlaw04.RecCut", spec := "recCut", unfollowed := true, recurses := true, apart := false, narrowed := true }
def RecCutUptoSaid : Prop := recCutUptoRow.holds Try.pinned (OpenSpec.upto recCutSpec)

/-- 'souterrainlaw04.RecUnlike', WHERE WHAT IT READS IS OF BULK AT MOST 1048576: true; the input reads as it did. -/
def recUnlikeUptoRow : OpenClaim := { program := "ytemnhgmgffdncaa", sum := "233db6f47769ee3f1f0a9451ef1fca440ee39803bef712d6121a212c22dda1a8", func := "souterrain/souterrainlaw04.RecUnlike", spec := "recUnlike", unfollowed := true, recurses := true, apart := false, narrowed := true }
def RecUnlikeUptoSaid : Prop := recUnlikeUptoRow.holds Try.pinned (OpenSpec.upto recUnlikeSpec)

/-- 'souterrainlaw04.RecBare', WHERE WHAT IT READS IS OF BULK AT MOST 1048576: true; the input reads as it did. -/
def recBareUptoRow : OpenClaim := { program := "ytemnhgmgffdncaa", sum := "233db6f47769ee3f1f0a9451ef1fca440ee39803bef712d6121a212c22dda1a8", func := "souterrain/souterrainlaw04.RecBare", spec := "recBare", unfollowed := true, recurses := true, apart := false, narrowed := true }
def RecBareUptoSaid : Prop := recBareUptoRow.holds Try.pinned (OpenSpec.upto recBareSpec)

/-- 'souterrainlaw04.RecSizes', WHERE WHAT IT READS IS OF BULK AT MOST 1048576: true; the input reads as it did. -/
def recSizesUptoRow : OpenClaim := { program := "ytemnhgmgffdncaa", sum := "233db6f47769ee3f1f0a9451ef1fca440ee39803bef712d6121a212c22dda1a8", func := "souterrain/souterrainlaw04.RecSizes", spec := "recSizes", unfollowed := true, recurses := true, apart := false, narrowed := true }
def RecSizesUptoSaid : Prop := recSizesUptoRow.holds Try.pinned (OpenSpec.upto recSizesSpec)

end Rows
end Go.Proofs.Ytemnhgmgffdncaa
