/-
  No cell of these rows narrows 'for every input' (looked for: loops, veiled, ifaces, maps, wideKeys, modest, calm, conditions, laid).
  DERIVED. THE GIVEN ROWS OF THIS SEAT. 12 by the template 'for every input the law returns true; each argument reads behind the call as it read before'; 0 by the template 'total and deterministic' (their statements: YtkffofolhckjeaaTotals.lean).
  GIVEN WITH THE SEED: the statements are not yours to turn. If you find one false, say at which input.
  Laid BY PROGRAM, IN A SANDBOX (cutbox-rows.mjs): the forced cells as the released guide's own fill.sh prints them over the translation 68fce5381c3b21d2… (all of the seat's roots in one cut). By AI agents, Wed Nov 11 2026. No macro, syntax, notation, axiom, sorry.
-/
import Derived.Test.YtkffofolhckjeaaChecked
import GoSem.Claim
import GoSem.ClaimJoined
import GoSem.ClaimMapViews
import Derived.JoinedTies
import Derived.KernelRfl
namespace Go.Proofs.Ytkffofolhckjeaa
/- THE CELL 'sum', in the pinned program and in every row, IS THE sha256 OF THE DUMP (.gsa) THAT YtkffofolhckjeaaProg.lean LOADS. Nothing in Lean hashes anything: it is a label: what it is worth is what the hold of that sum in a sandbox is worth. -/
noncomputable def Try.pinned : Pinned := { name := "ytkffofolhckjeaa", sum := "68fce5381c3b21d2ce465c2c4f546ae4ba38b5ff4b944715396b5c7dcca06f14", checked := Try.checked }
namespace Rows
def none {H : Type} : Left H := { results := [], args := [] }

/-- 'watchglasslaw28.TableBoth': WHATEVER THE INPUT: true; the input reads as it did. -/
def tableBothSpec : ChangeSpec := { name := "tableBoth", fn := fun _ => fun
  | [d1, d2, d3] => { results := [.lit (.bool true)], args := [d1, d2, d3] }
  | _ => none }
def tableBothRow : OpenClaim := { program := "ytkffofolhckjeaa", sum := "68fce5381c3b21d2ce465c2c4f546ae4ba38b5ff4b944715396b5c7dcca06f14", func := "watchglass/watchglasslaw28.TableBoth", spec := "tableBoth", apart := false }
def TableBothSaid : Prop := tableBothRow.holds Try.pinned (OpenSpec.ofChange tableBothSpec)

/-- ITS FALSE NEIGHBOUR: 'it returns false'. Refute it at one input. -/
def tableBothWrong : ChangeSpec := { name := "tableBoth", fn := fun _ => fun
  | [d1, d2, d3] => { results := [.lit (.bool false)], args := [d1, d2, d3] }
  | _ => none }
def TableBothWrongFalsely : Prop := tableBothRow.holds Try.pinned (OpenSpec.ofChange tableBothWrong)

/-- 'watchglasslaw28.TableLaws': WHATEVER THE INPUT: true; the input reads as it did. -/
def tableLawsSpec : ChangeSpec := { name := "tableLaws", fn := fun _ => fun
  | [d1, d2, d3, d4] => { results := [.lit (.bool true)], args := [d1, d2, d3, d4] }
  | _ => none }
def tableLawsRow : OpenClaim := { program := "ytkffofolhckjeaa", sum := "68fce5381c3b21d2ce465c2c4f546ae4ba38b5ff4b944715396b5c7dcca06f14", func := "watchglass/watchglasslaw28.TableLaws", spec := "tableLaws", apart := false }
def TableLawsSaid : Prop := tableLawsRow.holds Try.pinned (OpenSpec.ofChange tableLawsSpec)

/-- ITS FALSE NEIGHBOUR: 'it returns false'. Refute it at one input. -/
def tableLawsWrong : ChangeSpec := { name := "tableLaws", fn := fun _ => fun
  | [d1, d2, d3, d4] => { results := [.lit (.bool false)], args := [d1, d2, d3, d4] }
  | _ => none }
def TableLawsWrongFalsely : Prop := tableLawsRow.holds Try.pinned (OpenSpec.ofChange tableLawsWrong)

/-- 'watchglasslaw28.TablePut': WHATEVER THE INPUT: true; the input reads as it did. -/
def tablePutSpec : ChangeSpec := { name := "tablePut", fn := fun _ => fun
  | [d1, d2, d3] => { results := [.lit (.bool true)], args := [d1, d2, d3] }
  | _ => none }
def tablePutRow : OpenClaim := { program := "ytkffofolhckjeaa", sum := "68fce5381c3b21d2ce465c2c4f546ae4ba38b5ff4b944715396b5c7dcca06f14", func := "watchglass/watchglasslaw28.TablePut", spec := "tablePut", apart := false }
def TablePutSaid : Prop := tablePutRow.holds Try.pinned (OpenSpec.ofChange tablePutSpec)

/-- ITS FALSE NEIGHBOUR: 'it returns false'. Refute it at one input. -/
def tablePutWrong : ChangeSpec := { name := "tablePut", fn := fun _ => fun
  | [d1, d2, d3] => { results := [.lit (.bool false)], args := [d1, d2, d3] }
  | _ => none }
def TablePutWrongFalsely : Prop := tablePutRow.holds Try.pinned (OpenSpec.ofChange tablePutWrong)

/-- 'watchglasslaw28.TableMakes': WHATEVER THE INPUT: true; the input reads as it did. -/
def tableMakesSpec : ChangeSpec := { name := "tableMakes", fn := fun _ => fun
  | [d1, d2, d3, d4] => { results := [.lit (.bool true)], args := [d1, d2, d3, d4] }
  | _ => none }
def tableMakesRow : OpenClaim := { program := "ytkffofolhckjeaa", sum := "68fce5381c3b21d2ce465c2c4f546ae4ba38b5ff4b944715396b5c7dcca06f14", func := "watchglass/watchglasslaw28.TableMakes", spec := "tableMakes", apart := false }
def TableMakesSaid : Prop := tableMakesRow.holds Try.pinned (OpenSpec.ofChange tableMakesSpec)

/-- ITS FALSE NEIGHBOUR: 'it returns false'. Refute it at one input. -/
def tableMakesWrong : ChangeSpec := { name := "tableMakes", fn := fun _ => fun
  | [d1, d2, d3, d4] => { results := [.lit (.bool false)], args := [d1, d2, d3, d4] }
  | _ => none }
def TableMakesWrongFalsely : Prop := tableMakesRow.holds Try.pinned (OpenSpec.ofChange tableMakesWrong)

/-- 'watchglasslaw28.TableOver': WHATEVER THE INPUT: true; the input reads as it did. -/
def tableOverSpec : ChangeSpec := { name := "tableOver", fn := fun _ => fun
  | [d1, d2, d3, d4] => { results := [.lit (.bool true)], args := [d1, d2, d3, d4] }
  | _ => none }
def tableOverRow : OpenClaim := { program := "ytkffofolhckjeaa", sum := "68fce5381c3b21d2ce465c2c4f546ae4ba38b5ff4b944715396b5c7dcca06f14", func := "watchglass/watchglasslaw28.TableOver", spec := "tableOver", apart := false }
def TableOverSaid : Prop := tableOverRow.holds Try.pinned (OpenSpec.ofChange tableOverSpec)

/-- ITS FALSE NEIGHBOUR: 'it returns false'. Refute it at one input. -/
def tableOverWrong : ChangeSpec := { name := "tableOver", fn := fun _ => fun
  | [d1, d2, d3, d4] => { results := [.lit (.bool false)], args := [d1, d2, d3, d4] }
  | _ => none }
def TableOverWrongFalsely : Prop := tableOverRow.holds Try.pinned (OpenSpec.ofChange tableOverWrong)

/-- 'watchglasslaw28.TableOne': WHATEVER THE INPUT: true; the input reads as it did. -/
def tableOneSpec : ChangeSpec := { name := "tableOne", fn := fun _ => fun
  | [d1, d2, d3] => { results := [.lit (.bool true)], args := [d1, d2, d3] }
  | _ => none }
def tableOneRow : OpenClaim := { program := "ytkffofolhckjeaa", sum := "68fce5381c3b21d2ce465c2c4f546ae4ba38b5ff4b944715396b5c7dcca06f14", func := "watchglass/watchglasslaw28.TableOne", spec := "tableOne", apart := false }
def TableOneSaid : Prop := tableOneRow.holds Try.pinned (OpenSpec.ofChange tableOneSpec)

/-- ITS FALSE NEIGHBOUR: 'it returns false'. Refute it at one input. -/
def tableOneWrong : ChangeSpec := { name := "tableOne", fn := fun _ => fun
  | [d1, d2, d3] => { results := [.lit (.bool false)], args := [d1, d2, d3] }
  | _ => none }
def TableOneWrongFalsely : Prop := tableOneRow.holds Try.pinned (OpenSpec.ofChange tableOneWrong)

/-- 'watchglasslaw5.TreeMays': WHATEVER THE INPUT: true; the input reads as it did. -/
def treeMaysSpec : ChangeSpec := { name := "treeMays", fn := fun _ => fun
  | [d1, d2] => { results := [.lit (.bool true)], args := [d1, d2] }
  | _ => none }
def treeMaysRow : OpenClaim := { program := "ytkffofolhckjeaa", sum := "68fce5381c3b21d2ce465c2c4f546ae4ba38b5ff4b944715396b5c7dcca06f14", func := "watchglass/watchglasslaw5.TreeMays", spec := "treeMays", unfollowed := true, recurses := true, apart := false }
def TreeMaysSaid : Prop := treeMaysRow.holds Try.pinned (OpenSpec.ofChange treeMaysSpec)

/-- ITS FALSE NEIGHBOUR: 'it returns false'. Refute it at one input. -/
def treeMaysWrong : ChangeSpec := { name := "treeMays", fn := fun _ => fun
  | [d1, d2] => { results := [.lit (.bool false)], args := [d1, d2] }
  | _ => none }
def TreeMaysWrongFalsely : Prop := treeMaysRow.holds Try.pinned (OpenSpec.ofChange treeMaysWrong)

/-- 'watchglasslaw5.TreeMade': WHATEVER THE INPUT: true; the input reads as it did. -/
def treeMadeSpec : ChangeSpec := { name := "treeMade", fn := fun _ => fun
  | [d1, d2] => { results := [.lit (.bool true)], args := [d1, d2] }
  | _ => none }
def treeMadeRow : OpenClaim := { program := "ytkffofolhckjeaa", sum := "68fce5381c3b21d2ce465c2c4f546ae4ba38b5ff4b944715396b5c7dcca06f14", func := "watchglass/watchglasslaw5.TreeMade", spec := "treeMade", unfollowed := true, recurses := true, apart := false }
def TreeMadeSaid : Prop := treeMadeRow.holds Try.pinned (OpenSpec.ofChange treeMadeSpec)

/-- ITS FALSE NEIGHBOUR: 'it returns false'. Refute it at one input. -/
def treeMadeWrong : ChangeSpec := { name := "treeMade", fn := fun _ => fun
  | [d1, d2] => { results := [.lit (.bool false)], args := [d1, d2] }
  | _ => none }
def TreeMadeWrongFalsely : Prop := treeMadeRow.holds Try.pinned (OpenSpec.ofChange treeMadeWrong)

/-- 'watchglasslaw5.TreeTurned': WHATEVER THE INPUT: true; the input reads as it did. -/
def treeTurnedSpec : ChangeSpec := { name := "treeTurned", fn := fun _ => fun
  | [d1, d2, d3, d4] => { results := [.lit (.bool true)], args := [d1, d2, d3, d4] }
  | _ => none }
def treeTurnedRow : OpenClaim := { program := "ytkffofolhckjeaa", sum := "68fce5381c3b21d2ce465c2c4f546ae4ba38b5ff4b944715396b5c7dcca06f14", func := "watchglass/watchglasslaw5.TreeTurned", spec := "treeTurned", unfollowed := true, recurses := true, apart := false }
def TreeTurnedSaid : Prop := treeTurnedRow.holds Try.pinned (OpenSpec.ofChange treeTurnedSpec)

/-- ITS FALSE NEIGHBOUR: 'it returns false'. Refute it at one input. -/
def treeTurnedWrong : ChangeSpec := { name := "treeTurned", fn := fun _ => fun
  | [d1, d2, d3, d4] => { results := [.lit (.bool false)], args := [d1, d2, d3, d4] }
  | _ => none }
def TreeTurnedWrongFalsely : Prop := treeTurnedRow.holds Try.pinned (OpenSpec.ofChange treeTurnedWrong)

/-- 'watchglasslaw5.TreeJoins': WHATEVER THE INPUT: true; the input reads as it did. -/
def treeJoinsSpec : ChangeSpec := { name := "treeJoins", fn := fun _ => fun
  | [d1, d2, d3, d4, d5] => { results := [.lit (.bool true)], args := [d1, d2, d3, d4, d5] }
  | _ => none }
def treeJoinsRow : OpenClaim := { program := "ytkffofolhckjeaa", sum := "68fce5381c3b21d2ce465c2c4f546ae4ba38b5ff4b944715396b5c7dcca06f14", func := "watchglass/watchglasslaw5.TreeJoins", spec := "treeJoins", unfollowed := true, recurses := true, apart := false }
def TreeJoinsSaid : Prop := treeJoinsRow.holds Try.pinned (OpenSpec.ofChange treeJoinsSpec)

/-- ITS FALSE NEIGHBOUR: 'it returns false'. Refute it at one input. -/
def treeJoinsWrong : ChangeSpec := { name := "treeJoins", fn := fun _ => fun
  | [d1, d2, d3, d4, d5] => { results := [.lit (.bool false)], args := [d1, d2, d3, d4, d5] }
  | _ => none }
def TreeJoinsWrongFalsely : Prop := treeJoinsRow.holds Try.pinned (OpenSpec.ofChange treeJoinsWrong)

/-- 'watchglasslaw5.TreeSame': WHATEVER THE INPUT: true; the input reads as it did. -/
def treeSameSpec : ChangeSpec := { name := "treeSame", fn := fun _ => fun
  | [d1, d2, d3, d4, d5] => { results := [.lit (.bool true)], args := [d1, d2, d3, d4, d5] }
  | _ => none }
def treeSameRow : OpenClaim := { program := "ytkffofolhckjeaa", sum := "68fce5381c3b21d2ce465c2c4f546ae4ba38b5ff4b944715396b5c7dcca06f14", func := "watchglass/watchglasslaw5.TreeSame", spec := "treeSame", unfollowed := true, recurses := true, apart := false }
def TreeSameSaid : Prop := treeSameRow.holds Try.pinned (OpenSpec.ofChange treeSameSpec)

/-- ITS FALSE NEIGHBOUR: 'it returns false'. Refute it at one input. -/
def treeSameWrong : ChangeSpec := { name := "treeSame", fn := fun _ => fun
  | [d1, d2, d3, d4, d5] => { results := [.lit (.bool false)], args := [d1, d2, d3, d4, d5] }
  | _ => none }
def TreeSameWrongFalsely : Prop := treeSameRow.holds Try.pinned (OpenSpec.ofChange treeSameWrong)

/-- 'watchglasslaw5.TreeApart': WHATEVER THE INPUT: true; the input reads as it did. -/
def treeApartSpec : ChangeSpec := { name := "treeApart", fn := fun _ => fun
  | [d1, d2, d3] => { results := [.lit (.bool true)], args := [d1, d2, d3] }
  | _ => none }
def treeApartRow : OpenClaim := { program := "ytkffofolhckjeaa", sum := "68fce5381c3b21d2ce465c2c4f546ae4ba38b5ff4b944715396b5c7dcca06f14", func := "watchglass/watchglasslaw5.TreeApart", spec := "treeApart", unfollowed := true, recurses := true, apart := false }
def TreeApartSaid : Prop := treeApartRow.holds Try.pinned (OpenSpec.ofChange treeApartSpec)

/-- ITS FALSE NEIGHBOUR: 'it returns false'. Refute it at one input. -/
def treeApartWrong : ChangeSpec := { name := "treeApart", fn := fun _ => fun
  | [d1, d2, d3] => { results := [.lit (.bool false)], args := [d1, d2, d3] }
  | _ => none }
def TreeApartWrongFalsely : Prop := treeApartRow.holds Try.pinned (OpenSpec.ofChange treeApartWrong)

/- THE SECOND FORM. 'bulk': how many values and letters a reading holds, each counted each time it is reached (what is shared counts as often as it is met; a slice's spare places count too). A statement '..UptoSaid' is the law's where the arguments, and the package variables that the reading takes, are together of bulk at most 1048576: NARROWER than '..Said'. Prove '..Said' where nothing that the law and all that it calls make is longer than what came in: it says more and counts as full. Else prove '..UptoSaid'. A law counts once. -/
mutual
def uptoBulk {H : Type} : DataW H → Nat
  | .lit (.string bytes) => bytes.length + 1
  | .lit _ => 1
  | .nil => 1
  | .ptr d => uptoBulk d + 1
  | .slice elems spare => uptoBulkAll elems + uptoBulkAll spare + 1
  | .agg parts => uptoBulkAll parts + 1
  | .iface _ d => uptoBulk d + 1
  | .map entries => uptoBulkEntries entries + 1
  | .held _ => 1
def uptoBulkAll {H : Type} : List (DataW H) → Nat
  | [] => 0
  | d :: r => uptoBulk d + uptoBulkAll r
def uptoBulkEntries {H : Type} : List (Lit × DataW H) → Nat
  | [] => 0
  | x :: r => uptoBulkEntry x + uptoBulkEntries r
def uptoBulkEntry {H : Type} : Lit × DataW H → Nat
  | (.string bytes, d) => bytes.length + uptoBulk d + 1
  | (_, d) => uptoBulk d + 1
 end
def uptoSmall : (H : Type) → List (DataW H) → Bool := fun _ ds => decide (uptoBulkAll ds ≤ 1048576)
def OpenSpec.upto (s : _root_.Go.ChangeSpec) : _root_.Go.OpenSpec := { _root_.Go.OpenSpec.ofChange s with cond := some uptoSmall }

/-- 'watchglasslaw28.TableBoth', WHERE WHAT IT READS IS OF BULK AT MOST 1048576: true; the input reads as it did. -/
def tableBothUptoRow : OpenClaim := { program := "ytkffofolhckjeaa", sum := "68fce5381c3b21d2ce465c2c4f546ae4ba38b5ff4b944715396b5c7dcca06f14", func := "watchglass/watchglasslaw28.TableBoth", spec := "tableBoth", apart := false, narrowed := true }
def TableBothUptoSaid : Prop := tableBothUptoRow.holds Try.pinned (OpenSpec.upto tableBothSpec)

/-- 'watchglasslaw28.TableLaws', WHERE WHAT IT READS IS OF BULK AT MOST 1048576: true; the input reads as it did. -/
def tableLawsUptoRow : OpenClaim := { program := "ytkffofolhckjeaa", sum := "68fce5381c3b21d2ce465c2c4f546ae4ba38b5ff4b944715396b5c7dcca06f14", func := "watchglass/watchglasslaw28.TableLaws", spec := "tableLaws", apart := false, narrowed := true }
def TableLawsUptoSaid : Prop := tableLawsUptoRow.holds Try.pinned (OpenSpec.upto tableLawsSpec)

/-- 'watchglasslaw28.TablePut', WHERE WHAT IT READS IS OF BULK AT MOST 1048576: true; the input reads as it did. -/
def tablePutUptoRow : OpenClaim := { program := "ytkffofolhckjeaa", sum := "68fce5381c3b21d2ce465c2c4f546ae4ba38b5ff4b944715396b5c7dcca06f14", func := "watchglass/watchglasslaw28.TablePut", spec := "tablePut", apart := false, narrowed := true }
def TablePutUptoSaid : Prop := tablePutUptoRow.holds Try.pinned (OpenSpec.upto tablePutSpec)

/-- 'watchglasslaw28.TableMakes', WHERE WHAT IT READS IS OF BULK AT MOST 1048576: true; the input reads as it did. -/
def tableMakesUptoRow : OpenClaim := { program := "ytkffofolhckjeaa", sum := "68fce5381c3b21d2ce465c2c4f546ae4ba38b5ff4b944715396b5c7dcca06f14", func := "watchglass/watchglasslaw28.TableMakes", spec := "tableMakes", apart := false, narrowed := true }
def TableMakesUptoSaid : Prop := tableMakesUptoRow.holds Try.pinned (OpenSpec.upto tableMakesSpec)

/-- 'watchglasslaw28.TableOver', WHERE WHAT IT READS IS OF BULK AT MOST 1048576: true; the input reads as it did. -/
def tableOverUptoRow : OpenClaim := { program := "ytkffofolhckjeaa", sum := "68fce5381c3b21d2ce465c2c4f546ae4ba38b5ff4b944715396b5c7dcca06f14", func := "watchglass/watchglasslaw28.TableOver", spec := "tableOver", apart := false, narrowed := true }
def TableOverUptoSaid : Prop := tableOverUptoRow.holds Try.pinned (OpenSpec.upto tableOverSpec)

/-- 'watchglasslaw28.TableOne', WHERE WHAT IT READS IS OF BULK AT MOST 1048576: true; the input reads as it did. -/
def tableOneUptoRow : OpenClaim := { program := "ytkffofolhckjeaa", sum := "68fce5381c3b21d2ce465c2c4f546ae4ba38b5ff4b944715396b5c7dcca06f14", func := "watchglass/watchglasslaw28.TableOne", spec := "tableOne", apart := false, narrowed := true }
def TableOneUptoSaid : Prop := tableOneUptoRow.holds Try.pinned (OpenSpec.upto tableOneSpec)

/-- 'watchglasslaw5.TreeMays', WHERE WHAT IT READS IS OF BULK AT MOST 1048576: true; the input reads as it did. -/
def treeMaysUptoRow : OpenClaim := { program := "ytkffofolhckjeaa", sum := "68fce5381c3b21d2ce465c2c4f546ae4ba38b5ff4b944715396b5c7dcca06f14", func := "watchglass/watchglasslaw5.TreeMays", spec := "treeMays", unfollowed := true, recurses := true, apart := false, narrowed := true }
def TreeMaysUptoSaid : Prop := treeMaysUptoRow.holds Try.pinned (OpenSpec.upto treeMaysSpec)

/-- 'watchglasslaw5.TreeMade', WHERE WHAT IT READS IS OF BULK AT MOST 1048576: true; the input reads as it did. -/
def treeMadeUptoRow : OpenClaim := { program := "ytkffofolhckjeaa", sum := "68fce5381c3b21d2ce465c2c4f546ae4ba38b5ff4b944715396b5c7dcca06f14", func := "watchglass/watchglasslaw5.TreeMade", spec := "treeMade", unfollowed := true, recurses := true, apart := false, narrowed := true }
def TreeMadeUptoSaid : Prop := treeMadeUptoRow.holds Try.pinned (OpenSpec.upto treeMadeSpec)

/-- 'watchglasslaw5.TreeTurned', WHERE WHAT IT READS IS OF BULK AT MOST 1048576: true; the input reads as it did. -/
def treeTurnedUptoRow : OpenClaim := { program := "ytkffofolhckjeaa", sum := "68fce5381c3b21d2ce465c2c4f546ae4ba38b5ff4b944715396b5c7dcca06f14", func := "watchglass/watchglasslaw5.TreeTurned", spec := "treeTurned", unfollowed := true, recurses := true, apart := false, narrowed := true }
def TreeTurnedUptoSaid : Prop := treeTurnedUptoRow.holds Try.pinned (OpenSpec.upto treeTurnedSpec)

/-- 'watchglasslaw5.TreeJoins', WHERE WHAT IT READS IS OF BULK AT MOST 1048576: true; the input reads as it did. -/
def treeJoinsUptoRow : OpenClaim := { program := "ytkffofolhckjeaa", sum := "68fce5381c3b21d2ce465c2c4f546ae4ba38b5ff4b944715396b5c7dcca06f14", func := "watchglass/watchglasslaw5.TreeJoins", spec := "treeJoins", unfollowed := true, recurses := true, apart := false, narrowed := true }
def TreeJoinsUptoSaid : Prop := treeJoinsUptoRow.holds Try.pinned (OpenSpec.upto treeJoinsSpec)

/-- 'watchglasslaw5.TreeSame', WHERE WHAT IT READS IS OF BULK AT MOST 1048576: true; the input reads as it did. -/
def treeSameUptoRow : OpenClaim := { program := "ytkffofolhckjeaa", sum := "68fce5381c3b21d2ce465c2c4f546ae4ba38b5ff4b944715396b5c7dcca06f14", func := "watchglass/watchglasslaw5.TreeSame", spec := "treeSame", unfollowed := true, recurses := true, apart := false, narrowed := true }
def TreeSameUptoSaid : Prop := treeSameUptoRow.holds Try.pinned (OpenSpec.upto treeSameSpec)

/-- 'watchglasslaw5.TreeApart', WHERE WHAT IT READS IS OF BULK AT MOST 1048576: true; the input reads as it did. -/
def treeApartUptoRow : OpenClaim := { program := "ytkffofolhckjeaa", sum := "68fce5381c3b21d2ce465c2c4f546ae4ba38b5ff4b944715396b5c7dcca06f14", func := "watchglass/watchglasslaw5.TreeApart", spec := "treeApart", unfollowed := true, recurses := true, apart := false, narrowed := true }
def TreeApartUptoSaid : Prop := treeApartUptoRow.holds Try.pinned (OpenSpec.upto treeApartSpec)

end Rows
end Go.Proofs.Ytkffofolhckjeaa
