/-
  No cell of these rows narrows 'for every input' (looked for: loops, veiled, ifaces, maps, wideKeys, modest, calm, conditions, laid).
  DERIVED. THE GIVEN ROWS OF THIS SEAT. 5 by the template 'for every input the law returns true; each argument reads behind the call as it read before'; 0 by the template 'total and deterministic' (their statements: YtgmbicjcfhmcdaaTotals.lean).
  GIVEN WITH THE SEED: the statements are not yours to turn. If you find one false, say at which input.
  Laid BY PROGRAM, IN A SANDBOX (cutbox-rows.mjs): the forced cells as the released guide's own fill.sh prints them over the translation 3accdae3d7fd7f42… (all of the seat's roots in one cut). By AI agents, Wed Nov 11 2026. No macro, syntax, notation, axiom, sorry.
-/
import Derived.Test.YtgmbicjcfhmcdaaChecked
import GoSem.Claim
import GoSem.ClaimJoined
import GoSem.ClaimMapViews
import Derived.JoinedTies
import Derived.KernelRfl
namespace Go.Proofs.Ytgmbicjcfhmcdaa
/- THE CELL 'sum', in the pinned program and in every row, IS THE sha256 OF THE DUMP (.gsa) THAT YtgmbicjcfhmcdaaProg.lean LOADS. Nothing in Lean hashes anything: it is a label: what it is worth is what the hold of that sum in a sandbox is worth. -/
noncomputable def Try.pinned : Pinned := { name := "ytgmbicjcfhmcdaa", sum := "3accdae3d7fd7f42fb9840f7aabe7b733b3dd74adf40b7c23795f5257f4fda0e", checked := Try.checked }
namespace Rows
def none {H : Type} : Left H := { results := [], args := [] }

/-- 'watchglasslaw32.MergeTells': WHATEVER THE INPUT: true; the input reads as it did. -/
def mergeTellsSpec : ChangeSpec := { name := "mergeTells", fn := fun _ => fun
  | [d] => { results := [.lit (.bool true)], args := [d] }
  | _ => none }
def mergeTellsRow : OpenClaim := { program := "ytgmbicjcfhmcdaa", sum := "3accdae3d7fd7f42fb9840f7aabe7b733b3dd74adf40b7c23795f5257f4fda0e", func := "watchglass/watchglasslaw32.MergeTells", spec := "mergeTells", unfollowed := true, recurses := true, apart := false }
def MergeTellsSaid : Prop := mergeTellsRow.holds Try.pinned (OpenSpec.ofChange mergeTellsSpec)

/-- ITS FALSE NEIGHBOUR: 'it returns false'. Refute it at one input. -/
def mergeTellsWrong : ChangeSpec := { name := "mergeTells", fn := fun _ => fun
  | [d] => { results := [.lit (.bool false)], args := [d] }
  | _ => none }
def MergeTellsWrongFalsely : Prop := mergeTellsRow.holds Try.pinned (OpenSpec.ofChange mergeTellsWrong)

/-- 'watchglasslaw32.MergeMade': WHATEVER THE INPUT: true; the input reads as it did. -/
def mergeMadeSpec : ChangeSpec := { name := "mergeMade", fn := fun _ => fun
  | [d] => { results := [.lit (.bool true)], args := [d] }
  | _ => none }
def mergeMadeRow : OpenClaim := { program := "ytgmbicjcfhmcdaa", sum := "3accdae3d7fd7f42fb9840f7aabe7b733b3dd74adf40b7c23795f5257f4fda0e", func := "watchglass/watchglasslaw32.MergeMade", spec := "mergeMade", unfollowed := true, recurses := true, apart := false }
def MergeMadeSaid : Prop := mergeMadeRow.holds Try.pinned (OpenSpec.ofChange mergeMadeSpec)

/-- ITS FALSE NEIGHBOUR: 'it returns false'. Refute it at one input. -/
def mergeMadeWrong : ChangeSpec := { name := "mergeMade", fn := fun _ => fun
  | [d] => { results := [.lit (.bool false)], args := [d] }
  | _ => none }
def MergeMadeWrongFalsely : Prop := mergeMadeRow.holds Try.pinned (OpenSpec.ofChange mergeMadeWrong)

/-- 'watchglasslaw32.MergeOrder': WHATEVER THE INPUT: true; the input reads as it did. -/
def mergeOrderSpec : ChangeSpec := { name := "mergeOrder", fn := fun _ => fun
  | [d] => { results := [.lit (.bool true)], args := [d] }
  | _ => none }
def mergeOrderRow : OpenClaim := { program := "ytgmbicjcfhmcdaa", sum := "3accdae3d7fd7f42fb9840f7aabe7b733b3dd74adf40b7c23795f5257f4fda0e", func := "watchglass/watchglasslaw32.MergeOrder", spec := "mergeOrder", unfollowed := true, recurses := true, apart := false }
def MergeOrderSaid : Prop := mergeOrderRow.holds Try.pinned (OpenSpec.ofChange mergeOrderSpec)

/-- ITS FALSE NEIGHBOUR: 'it returns false'. Refute it at one input. -/
def mergeOrderWrong : ChangeSpec := { name := "mergeOrder", fn := fun _ => fun
  | [d] => { results := [.lit (.bool false)], args := [d] }
  | _ => none }
def MergeOrderWrongFalsely : Prop := mergeOrderRow.holds Try.pinned (OpenSpec.ofChange mergeOrderWrong)

/-- 'watchglasslaw32.MergeParts': WHATEVER THE INPUT: true; the input reads as it did. -/
def mergePartsSpec : ChangeSpec := { name := "mergeParts", fn := fun _ => fun
  | [d1, d2] => { results := [.lit (.bool true)], args := [d1, d2] }
  | _ => none }
def mergePartsRow : OpenClaim := { program := "ytgmbicjcfhmcdaa", sum := "3accdae3d7fd7f42fb9840f7aabe7b733b3dd74adf40b7c23795f5257f4fda0e", func := "watchglass/watchglasslaw32.MergeParts", spec := "mergeParts", unfollowed := true, recurses := true, apart := false }
def MergePartsSaid : Prop := mergePartsRow.holds Try.pinned (OpenSpec.ofChange mergePartsSpec)

/-- ITS FALSE NEIGHBOUR: 'it returns false'. Refute it at one input. -/
def mergePartsWrong : ChangeSpec := { name := "mergeParts", fn := fun _ => fun
  | [d1, d2] => { results := [.lit (.bool false)], args := [d1, d2] }
  | _ => none }
def MergePartsWrongFalsely : Prop := mergePartsRow.holds Try.pinned (OpenSpec.ofChange mergePartsWrong)

/-- 'watchglasslaw32.MergeFull': WHATEVER THE INPUT: true; the input reads as it did. -/
def mergeFullSpec : ChangeSpec := { name := "mergeFull", fn := fun _ => fun
  | [d1, d2] => { results := [.lit (.bool true)], args := [d1, d2] }
  | _ => none }
def mergeFullRow : OpenClaim := { program := "ytgmbicjcfhmcdaa", sum := "3accdae3d7fd7f42fb9840f7aabe7b733b3dd74adf40b7c23795f5257f4fda0e", func := "watchglass/watchglasslaw32.MergeFull", spec := "mergeFull", unfollowed := true, recurses := true, apart := false }
def MergeFullSaid : Prop := mergeFullRow.holds Try.pinned (OpenSpec.ofChange mergeFullSpec)

/-- ITS FALSE NEIGHBOUR: 'it returns false'. Refute it at one input. -/
def mergeFullWrong : ChangeSpec := { name := "mergeFull", fn := fun _ => fun
  | [d1, d2] => { results := [.lit (.bool false)], args := [d1, d2] }
  | _ => none }
def MergeFullWrongFalsely : Prop := mergeFullRow.holds Try.pinned (OpenSpec.ofChange mergeFullWrong)

/- THE SECOND FORM. 'bulk': how many values and letters a reading holds, each counted each time it is reached (what is shared counts as often as it is met; a slice's spare places count too). A statement '..UptoSaid' is the law's where the arguments, and the package variables that the reading takes, are together of bulk at most 1048576: NARROWER than '..Said'. Prove '..Said' where nothing that the law and all that it calls make is longer than what came in: it says more and counts as full. Else prove '..UptoSaid'. A law counts once. -/
mutual
def uptoBulk {H : Type} : DataW H → Nat
  | .lit (.string bytes) => bytes.length + 1
  | .lit _ => 1
  | .nil => 1
  | .ptr d => uptoBulk d + 1
  | .slice elems spare => uptoBulkAll elems + uptoBulkAll spare + 1
  | .agg parts => uptoBulkAll parts + 1
  | .iface _ d => uptoBulk d + 1
  | .map entries => uptoBulkEntries entries + 1
  | .held _ => 1
def uptoBulkAll {H : Type} : List (DataW H) → Nat
  | [] => 0
  | d :: r => uptoBulk d + uptoBulkAll r
def uptoBulkEntries {H : Type} : List (Lit × DataW H) → Nat
  | [] => 0
  | x :: r => uptoBulkEntry x + uptoBulkEntries r
def uptoBulkEntry {H : Type} : Lit × DataW H → Nat
  | (.string bytes, d) => bytes.length + uptoBulk d + 1
  | (_, d) => uptoBulk d + 1
 end
def uptoSmall : (H : Type) → List (DataW H) → Bool := fun _ ds => decide (uptoBulkAll ds ≤ 1048576)
def OpenSpec.upto (s : _root_.Go.ChangeSpec) : _root_.Go.OpenSpec := { _root_.Go.OpenSpec.ofChange s with cond := some uptoSmall }

/-- 'watchglasslaw32.MergeTells', WHERE WHAT IT READS IS OF BULK AT MOST 1048576: true; the input reads as it did. -/
def mergeTellsUptoRow : OpenClaim := { program := "ytgmbicjcfhmcdaa", sum := "3accdae3d7fd7f42fb9840f7aabe7b733b3dd74adf40b7c23795f5257f4fda0e", func := "watchglass/watchglasslaw32.MergeTells", spec := "mergeTells", unfollowed := true, recurses := true, apart := false, narrowed := true }
def MergeTellsUptoSaid : Prop := mergeTellsUptoRow.holds Try.pinned (OpenSpec.upto mergeTellsSpec)

/-- 'watchglasslaw32.MergeMade', WHERE WHAT IT READS IS OF BULK AT MOST 1048576: true; the input reads as it did. -/
def mergeMadeUptoRow : OpenClaim := { program := "ytgmbicjcfhmcdaa", sum := "3accdae3d7fd7f42fb9840f7aabe7b733b3dd74adf40b7c23795f5257f4fda0e", func := "watchglass/watchglasslaw32.MergeMade", spec := "mergeMade", unfollowed := true, recurses := true, apart := false, narrowed := true }
def MergeMadeUptoSaid : Prop := mergeMadeUptoRow.holds Try.pinned (OpenSpec.upto mergeMadeSpec)

/-- 'watchglasslaw32.MergeOrder', WHERE WHAT IT READS IS OF BULK AT MOST 1048576: true; the input reads as it did. -/
def mergeOrderUptoRow : OpenClaim := { program := "ytgmbicjcfhmcdaa", sum := "3accdae3d7fd7f42fb9840f7aabe7b733b3dd74adf40b7c23795f5257f4fda0e", func := "watchglass/watchglasslaw32.MergeOrder", spec := "mergeOrder", unfollowed := true, recurses := true, apart := false, narrowed := true }
def MergeOrderUptoSaid : Prop := mergeOrderUptoRow.holds Try.pinned (OpenSpec.upto mergeOrderSpec)

/-- 'watchglasslaw32.MergeParts', WHERE WHAT IT READS IS OF BULK AT MOST 1048576: true; the input reads as it did. -/
def mergePartsUptoRow : OpenClaim := { program := "ytgmbicjcfhmcdaa", sum := "3accdae3d7fd7f42fb9840f7aabe7b733b3dd74adf40b7c23795f5257f4fda0e", func := "watchglass/watchglasslaw32.MergeParts", spec := "mergeParts", unfollowed := true, recurses := true, apart := false, narrowed := true }
def MergePartsUptoSaid : Prop := mergePartsUptoRow.holds Try.pinned (OpenSpec.upto mergePartsSpec)

/-- 'watchglasslaw32.MergeFull', WHERE WHAT IT READS IS OF BULK AT MOST 1048576: true; the input reads as it did. -/
def mergeFullUptoRow : OpenClaim := { program := "ytgmbicjcfhmcdaa", sum := "3accdae3d7fd7f42fb9840f7aabe7b733b3dd74adf40b7c23795f5257f4fda0e", func := "watchglass/watchglasslaw32.MergeFull", spec := "mergeFull", unfollowed := true, recurses := true, apart := false, narrowed := true }
def MergeFullUptoSaid : Prop := mergeFullUptoRow.holds Try.pinned (OpenSpec.upto mergeFullSpec)

end Rows
end Go.Proofs.Ytgmbicjcfhmcdaa
