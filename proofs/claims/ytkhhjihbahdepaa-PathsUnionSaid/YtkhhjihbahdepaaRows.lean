/-
  No cell of these rows narrows 'for every input' (looked for: loops, veiled, ifaces, maps, wideKeys, modest, calm, conditions, laid).
  DERIVED. THE GIVEN ROWS OF THIS SEAT. 8 by the template 'for every input the law returns true; each argument reads behind the call as it read before'; 0 by the template 'total and deterministic' (their statements: YtkhhjihbahdepaaTotals.lean).
  GIVEN WITH THE SEED: the statements are not yours to turn. If you find one false, say at which input.
  Laid BY PROGRAM, IN A SANDBOX (cutbox-rows.mjs): the forced cells as the released guide's own fill.sh prints them over the translation 284a285e62fb5491… (all of the seat's roots in one cut). By AI agents, Wed Nov 11 2026. No macro, syntax, notation, axiom, sorry.
-/
import Derived.Test.YtkhhjihbahdepaaChecked
import GoSem.Claim
import GoSem.ClaimJoined
import GoSem.ClaimMapViews
import Derived.JoinedTies
import Derived.KernelRfl
namespace Go.Proofs.Ytkhhjihbahdepaa
/- THE CELL 'sum', in the pinned program and in every row, IS THE sha256 OF THE DUMP (.gsa) THAT YtkhhjihbahdepaaProg.lean LOADS. Nothing in Lean hashes anything: it is a label: what it is worth is what the hold of that sum in a sandbox is worth. -/
noncomputable def Try.pinned : Pinned := { name := "ytkhhjihbahdepaa", sum := "284a285e62fb5491930ca22a6c1565a3273d00d419bf0dcad70eb0d287bd55e3", checked := Try.checked }
namespace Rows
def none {H : Type} : Left H := { results := [], args := [] }

/-- 'watchglasslaw14.PathsUnion': WHATEVER THE INPUT: true; the input reads as it did. -/
def pathsUnionSpec : ChangeSpec := { name := "pathsUnion", fn := fun _ => fun
  | [d1, d2, d3, d4] => { results := [.lit (.bool true)], args := [d1, d2, d3, d4] }
  | _ => none }
def pathsUnionRow : OpenClaim := { program := "ytkhhjihbahdepaa", sum := "284a285e62fb5491930ca22a6c1565a3273d00d419bf0dcad70eb0d287bd55e3", func := "watchglass/watchglasslaw14.PathsUnion", spec := "pathsUnion", unfollowed := true, recurses := true, apart := false }
def PathsUnionSaid : Prop := pathsUnionRow.holds Try.pinned (OpenSpec.ofChange pathsUnionSpec)

/-- ITS FALSE NEIGHBOUR: 'it returns false'. Refute it at one input. -/
def pathsUnionWrong : ChangeSpec := { name := "pathsUnion", fn := fun _ => fun
  | [d1, d2, d3, d4] => { results := [.lit (.bool false)], args := [d1, d2, d3, d4] }
  | _ => none }
def PathsUnionWrongFalsely : Prop := pathsUnionRow.holds Try.pinned (OpenSpec.ofChange pathsUnionWrong)

/-- 'watchglasslaw14.PathsLocal': WHATEVER THE INPUT: true; the input reads as it did. -/
def pathsLocalSpec : ChangeSpec := { name := "pathsLocal", fn := fun _ => fun
  | [d1, d2, d3, d4] => { results := [.lit (.bool true)], args := [d1, d2, d3, d4] }
  | _ => none }
def pathsLocalRow : OpenClaim := { program := "ytkhhjihbahdepaa", sum := "284a285e62fb5491930ca22a6c1565a3273d00d419bf0dcad70eb0d287bd55e3", func := "watchglass/watchglasslaw14.PathsLocal", spec := "pathsLocal", unfollowed := true, recurses := true, apart := false }
def PathsLocalSaid : Prop := pathsLocalRow.holds Try.pinned (OpenSpec.ofChange pathsLocalSpec)

/-- ITS FALSE NEIGHBOUR: 'it returns false'. Refute it at one input. -/
def pathsLocalWrong : ChangeSpec := { name := "pathsLocal", fn := fun _ => fun
  | [d1, d2, d3, d4] => { results := [.lit (.bool false)], args := [d1, d2, d3, d4] }
  | _ => none }
def PathsLocalWrongFalsely : Prop := pathsLocalRow.holds Try.pinned (OpenSpec.ofChange pathsLocalWrong)

/-- 'watchglasslaw14.PathsSteps': WHATEVER THE INPUT: true; the input reads as it did. -/
def pathsStepsSpec : ChangeSpec := { name := "pathsSteps", fn := fun _ => fun
  | [d1, d2] => { results := [.lit (.bool true)], args := [d1, d2] }
  | _ => none }
def pathsStepsRow : OpenClaim := { program := "ytkhhjihbahdepaa", sum := "284a285e62fb5491930ca22a6c1565a3273d00d419bf0dcad70eb0d287bd55e3", func := "watchglass/watchglasslaw14.PathsSteps", spec := "pathsSteps", unfollowed := true, recurses := true, apart := false }
def PathsStepsSaid : Prop := pathsStepsRow.holds Try.pinned (OpenSpec.ofChange pathsStepsSpec)

/-- ITS FALSE NEIGHBOUR: 'it returns false'. Refute it at one input. -/
def pathsStepsWrong : ChangeSpec := { name := "pathsSteps", fn := fun _ => fun
  | [d1, d2] => { results := [.lit (.bool false)], args := [d1, d2] }
  | _ => none }
def PathsStepsWrongFalsely : Prop := pathsStepsRow.holds Try.pinned (OpenSpec.ofChange pathsStepsWrong)

/-- 'watchglasslaw14.PathsAll': WHATEVER THE INPUT: true; the input reads as it did. -/
def pathsAllSpec : ChangeSpec := { name := "pathsAll", fn := fun _ => fun
  | [d1, d2, d3] => { results := [.lit (.bool true)], args := [d1, d2, d3] }
  | _ => none }
def pathsAllRow : OpenClaim := { program := "ytkhhjihbahdepaa", sum := "284a285e62fb5491930ca22a6c1565a3273d00d419bf0dcad70eb0d287bd55e3", func := "watchglass/watchglasslaw14.PathsAll", spec := "pathsAll", unfollowed := true, recurses := true, apart := false }
def PathsAllSaid : Prop := pathsAllRow.holds Try.pinned (OpenSpec.ofChange pathsAllSpec)

/-- ITS FALSE NEIGHBOUR: 'it returns false'. Refute it at one input. -/
def pathsAllWrong : ChangeSpec := { name := "pathsAll", fn := fun _ => fun
  | [d1, d2, d3] => { results := [.lit (.bool false)], args := [d1, d2, d3] }
  | _ => none }
def PathsAllWrongFalsely : Prop := pathsAllRow.holds Try.pinned (OpenSpec.ofChange pathsAllWrong)

/-- 'watchglasslaw14.PathsParts': WHATEVER THE INPUT: true; the input reads as it did. -/
def pathsPartsSpec : ChangeSpec := { name := "pathsParts", fn := fun _ => fun
  | [d1, d2] => { results := [.lit (.bool true)], args := [d1, d2] }
  | _ => none }
def pathsPartsRow : OpenClaim := { program := "ytkhhjihbahdepaa", sum := "284a285e62fb5491930ca22a6c1565a3273d00d419bf0dcad70eb0d287bd55e3", func := "watchglass/watchglasslaw14.PathsParts", spec := "pathsParts", unfollowed := true, recurses := true, apart := false }
def PathsPartsSaid : Prop := pathsPartsRow.holds Try.pinned (OpenSpec.ofChange pathsPartsSpec)

/-- ITS FALSE NEIGHBOUR: 'it returns false'. Refute it at one input. -/
def pathsPartsWrong : ChangeSpec := { name := "pathsParts", fn := fun _ => fun
  | [d1, d2] => { results := [.lit (.bool false)], args := [d1, d2] }
  | _ => none }
def PathsPartsWrongFalsely : Prop := pathsPartsRow.holds Try.pinned (OpenSpec.ofChange pathsPartsWrong)

/-- 'watchglasslaw20.TurnMakes': WHATEVER THE INPUT: true; the input reads as it did. -/
def turnMakesSpec : ChangeSpec := { name := "turnMakes", fn := fun _ => fun
  | [d1, d2] => { results := [.lit (.bool true)], args := [d1, d2] }
  | _ => none }
def turnMakesRow : OpenClaim := { program := "ytkhhjihbahdepaa", sum := "284a285e62fb5491930ca22a6c1565a3273d00d419bf0dcad70eb0d287bd55e3", func := "watchglass/watchglasslaw20.TurnMakes", spec := "turnMakes", unfollowed := true, recurses := true, apart := false }
def TurnMakesSaid : Prop := turnMakesRow.holds Try.pinned (OpenSpec.ofChange turnMakesSpec)

/-- ITS FALSE NEIGHBOUR: 'it returns false'. Refute it at one input. -/
def turnMakesWrong : ChangeSpec := { name := "turnMakes", fn := fun _ => fun
  | [d1, d2] => { results := [.lit (.bool false)], args := [d1, d2] }
  | _ => none }
def TurnMakesWrongFalsely : Prop := turnMakesRow.holds Try.pinned (OpenSpec.ofChange turnMakesWrong)

/-- 'watchglasslaw20.TurnBack': WHATEVER THE INPUT: true; the input reads as it did. -/
def turnBackSpec : ChangeSpec := { name := "turnBack", fn := fun _ => fun
  | [d] => { results := [.lit (.bool true)], args := [d] }
  | _ => none }
def turnBackRow : OpenClaim := { program := "ytkhhjihbahdepaa", sum := "284a285e62fb5491930ca22a6c1565a3273d00d419bf0dcad70eb0d287bd55e3", func := "watchglass/watchglasslaw20.TurnBack", spec := "turnBack", unfollowed := true, recurses := true, apart := false }
def TurnBackSaid : Prop := turnBackRow.holds Try.pinned (OpenSpec.ofChange turnBackSpec)

/-- ITS FALSE NEIGHBOUR: 'it returns false'. Refute it at one input. -/
def turnBackWrong : ChangeSpec := { name := "turnBack", fn := fun _ => fun
  | [d] => { results := [.lit (.bool false)], args := [d] }
  | _ => none }
def TurnBackWrongFalsely : Prop := turnBackRow.holds Try.pinned (OpenSpec.ofChange turnBackWrong)

/-- 'watchglasslaw20.TurnReach': WHATEVER THE INPUT: true; the input reads as it did. -/
def turnReachSpec : ChangeSpec := { name := "turnReach", fn := fun _ => fun
  | [d1, d2] => { results := [.lit (.bool true)], args := [d1, d2] }
  | _ => none }
def turnReachRow : OpenClaim := { program := "ytkhhjihbahdepaa", sum := "284a285e62fb5491930ca22a6c1565a3273d00d419bf0dcad70eb0d287bd55e3", func := "watchglass/watchglasslaw20.TurnReach", spec := "turnReach", unfollowed := true, recurses := true, apart := false }
def TurnReachSaid : Prop := turnReachRow.holds Try.pinned (OpenSpec.ofChange turnReachSpec)

/-- ITS FALSE NEIGHBOUR: 'it returns false'. Refute it at one input. -/
def turnReachWrong : ChangeSpec := { name := "turnReach", fn := fun _ => fun
  | [d1, d2] => { results := [.lit (.bool false)], args := [d1, d2] }
  | _ => none }
def TurnReachWrongFalsely : Prop := turnReachRow.holds Try.pinned (OpenSpec.ofChange turnReachWrong)

/- THE SECOND FORM. 'bulk': how many values and letters a reading holds, each counted each time it is reached (what is shared counts as often as it is met; a slice's spare places count too). A statement '..UptoSaid' is the law's where the arguments, and the package variables that the reading takes, are together of bulk at most 1048576: NARROWER than '..Said'. Prove '..Said' where nothing that the law and all that it calls make is longer than what came in: it says more and counts as full. Else prove '..UptoSaid'. A law counts once. -/
mutual
def uptoBulk {H : Type} : DataW H → Nat
  | .lit (.string bytes) => bytes.length + 1
  | .lit _ => 1
  | .nil => 1
  | .ptr d => uptoBulk d + 1
  | .slice elems spare => uptoBulkAll elems + uptoBulkAll spare + 1
  | .agg parts => uptoBulkAll parts + 1
  | .iface _ d => uptoBulk d + 1
  | .map entries => uptoBulkEntries entries + 1
  | .held _ => 1
def uptoBulkAll {H : Type} : List (DataW H) → Nat
  | [] => 0
  | d :: r => uptoBulk d + uptoBulkAll r
def uptoBulkEntries {H : Type} : List (Lit × DataW H) → Nat
  | [] => 0
  | x :: r => uptoBulkEntry x + uptoBulkEntries r
def uptoBulkEntry {H : Type} : Lit × DataW H → Nat
  | (.string bytes, d) => bytes.length + uptoBulk d + 1
  | (_, d) => uptoBulk d + 1
 end
def uptoSmall : (H : Type) → List (DataW H) → Bool := fun _ ds => decide (uptoBulkAll ds ≤ 1048576)
def OpenSpec.upto (s : _root_.Go.ChangeSpec) : _root_.Go.OpenSpec := { _root_.Go.OpenSpec.ofChange s with cond := some uptoSmall }

/-- 'watchglasslaw14.PathsUnion', WHERE WHAT IT READS IS OF BULK AT MOST 1048576: true; the input reads as it did. -/
def pathsUnionUptoRow : OpenClaim := { program := "ytkhhjihbahdepaa", sum := "284a285e62fb5491930ca22a6c1565a3273d00d419bf0dcad70eb0d287bd55e3", func := "watchglass/watchglasslaw14.PathsUnion", spec := "pathsUnion", unfollowed := true, recurses := true, apart := false, narrowed := true }
def PathsUnionUptoSaid : Prop := pathsUnionUptoRow.holds Try.pinned (OpenSpec.upto pathsUnionSpec)

/-- 'watchglasslaw14.PathsLocal', WHERE WHAT IT READS IS OF BULK AT MOST 1048576: true; the input reads as it did. -/
def pathsLocalUptoRow : OpenClaim := { program := "ytkhhjihbahdepaa", sum := "284a285e62fb5491930ca22a6c1565a3273d00d419bf0dcad70eb0d287bd55e3", func := "watchglass/watchglasslaw14.PathsLocal", spec := "pathsLocal", unfollowed := true, recurses := true, apart := false, narrowed := true }
def PathsLocalUptoSaid : Prop := pathsLocalUptoRow.holds Try.pinned (OpenSpec.upto pathsLocalSpec)

/-- 'watchglasslaw14.PathsSteps', WHERE WHAT IT READS IS OF BULK AT MOST 1048576: true; the input reads as it did. -/
def pathsStepsUptoRow : OpenClaim := { program := "ytkhhjihbahdepaa", sum := "284a285e62fb5491930ca22a6c1565a3273d00d419bf0dcad70eb0d287bd55e3", func := "watchglass/watchglasslaw14.PathsSteps", spec := "pathsSteps", unfollowed := true, recurses := true, apart := false, narrowed := true }
def PathsStepsUptoSaid : Prop := pathsStepsUptoRow.holds Try.pinned (OpenSpec.upto pathsStepsSpec)

/-- 'watchglasslaw14.PathsAll', WHERE WHAT IT READS IS OF BULK AT MOST 1048576: true; the input reads as it did. -/
def pathsAllUptoRow : OpenClaim := { program := "ytkhhjihbahdepaa", sum := "284a285e62fb5491930ca22a6c1565a3273d00d419bf0dcad70eb0d287bd55e3", func := "watchglass/watchglasslaw14.PathsAll", spec := "pathsAll", unfollowed := true, recurses := true, apart := false, narrowed := true }
def PathsAllUptoSaid : Prop := pathsAllUptoRow.holds Try.pinned (OpenSpec.upto pathsAllSpec)

/-- 'watchglasslaw14.PathsParts', WHERE WHAT IT READS IS OF BULK AT MOST 1048576: true; the input reads as it did. -/
def pathsPartsUptoRow : OpenClaim := { program := "ytkhhjihbahdepaa", sum := "284a285e62fb5491930ca22a6c1565a3273d00d419bf0dcad70eb0d287bd55e3", func := "watchglass/watchglasslaw14.PathsParts", spec := "pathsParts", unfollowed := true, recurses := true, apart := false, narrowed := true }
def PathsPartsUptoSaid : Prop := pathsPartsUptoRow.holds Try.pinned (OpenSpec.upto pathsPartsSpec)

/-- 'watchglasslaw20.TurnMakes', WHERE WHAT IT READS IS OF BULK AT MOST 1048576: true; the input reads as it did. -/
def turnMakesUptoRow : OpenClaim := { program := "ytkhhjihbahdepaa", sum := "284a285e62fb5491930ca22a6c1565a3273d00d419bf0dcad70eb0d287bd55e3", func := "watchglass/watchglasslaw20.TurnMakes", spec := "turnMakes", unfollowed := true, recurses := true, apart := false, narrowed := true }
def TurnMakesUptoSaid : Prop := turnMakesUptoRow.holds Try.pinned (OpenSpec.upto turnMakesSpec)

/-- 'watchglasslaw20.TurnBack', WHERE WHAT IT READS IS OF BULK AT MOST 1048576: true; the input reads as it did. -/
def turnBackUptoRow : OpenClaim := { program := "ytkhhjihbahdepaa", sum := "284a285e62fb5491930ca22a6c1565a3273d00d419bf0dcad70eb0d287bd55e3", func := "watchglass/watchglasslaw20.TurnBack", spec := "turnBack", unfollowed := true, recurses := true, apart := false, narrowed := true }
def TurnBackUptoSaid : Prop := turnBackUptoRow.holds Try.pinned (OpenSpec.upto turnBackSpec)

/-- 'watchglasslaw20.TurnReach', WHERE WHAT IT READS IS OF BULK AT MOST 1048576: true; the input reads as it did. -/
def turnReachUptoRow : OpenClaim := { program := "ytkhhjihbahdepaa", sum := "284a285e62fb5491930ca22a6c1565a3273d00d419bf0dcad70eb0d287bd55e3", func := "watchglass/watchglasslaw20.TurnReach", spec := "turnReach", unfollowed := true, recurses := true, apart := false, narrowed := true }
def TurnReachUptoSaid : Prop := turnReachUptoRow.holds Try.pinned (OpenSpec.upto turnReachSpec)

end Rows
end Go.Proofs.Ytkhhjihbahdepaa
