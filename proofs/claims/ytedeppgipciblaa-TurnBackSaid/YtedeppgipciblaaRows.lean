/-
  No cell of these rows narrows 'for every input' (looked for: loops, veiled, ifaces, maps, wideKeys, modest, calm, conditions, laid).
  DERIVED. THE GIVEN ROWS OF THIS SEAT. 6 by the template 'for every input the law returns true; each argument reads behind the call as it read before'; 0 by the template 'total and deterministic' (their statements: YtedeppgipciblaaTotals.lean).
  GIVEN WITH THE SEED: the statements are not yours to turn. If you find one false, say at which input.
  Laid BY PROGRAM, IN A SANDBOX (cutbox-rows.mjs): the forced cells as the released guide's own fill.sh prints them over the translation 31835ca16be58320… (all of the seat's roots in one cut). By AI agents, Wed Nov 11 2026. No macro, syntax, notation, axiom, sorry.
-/
import Derived.Test.YtedeppgipciblaaChecked
import GoSem.Claim
import GoSem.ClaimJoined
import GoSem.ClaimMapViews
import Derived.JoinedTies
import Derived.KernelRfl
namespace Go.Proofs.Ytedeppgipciblaa
/- THE CELL 'sum', in the pinned program and in every row, IS THE sha256 OF THE DUMP (.gsa) THAT YtedeppgipciblaaProg.lean LOADS. Nothing in Lean hashes anything: it is a label: what it is worth is what the hold of that sum in a sandbox is worth. -/
noncomputable def Try.pinned : Pinned := { name := "ytedeppgipciblaa", sum := "31835ca16be58320c1bd486e21b6960d97ae11e3190c5ffe9737b179ac73928f", checked := Try.checked }
namespace Rows
def none {H : Type} : Left H := { results := [], args := [] }

/-- 'watchglasslaw20.TurnMakes': WHATEVER THE INPUT: true; the input reads as it did. -/
def turnMakesSpec : ChangeSpec := { name := "turnMakes", fn := fun _ => fun
  | [d1, d2] => { results := [.lit (.bool true)], args := [d1, d2] }
  | _ => none }
def turnMakesRow : OpenClaim := { program := "ytedeppgipciblaa", sum := "31835ca16be58320c1bd486e21b6960d97ae11e3190c5ffe9737b179ac73928f", func := "watchglass/watchglasslaw20.TurnMakes", spec := "turnMakes", unfollowed := true, recurses := true, apart := false }
def TurnMakesSaid : Prop := turnMakesRow.holds Try.pinned (OpenSpec.ofChange turnMakesSpec)

/-- ITS FALSE NEIGHBOUR: 'it returns false'. Refute it at one input. -/
def turnMakesWrong : ChangeSpec := { name := "turnMakes", fn := fun _ => fun
  | [d1, d2] => { results := [.lit (.bool false)], args := [d1, d2] }
  | _ => none }
def TurnMakesWrongFalsely : Prop := turnMakesRow.holds Try.pinned (OpenSpec.ofChange turnMakesWrong)

/-- 'watchglasslaw20.TurnBack': WHATEVER THE INPUT: true; the input reads as it did. -/
def turnBackSpec : ChangeSpec := { name := "turnBack", fn := fun _ => fun
  | [d] => { results := [.lit (.bool true)], args := [d] }
  | _ => none }
def turnBackRow : OpenClaim := { program := "ytedeppgipciblaa", sum := "31835ca16be58320c1bd486e21b6960d97ae11e3190c5ffe9737b179ac73928f", func := "watchglass/watchglasslaw20.TurnBack", spec := "turnBack", unfollowed := true, recurses := true, apart := false }
def TurnBackSaid : Prop := turnBackRow.holds Try.pinned (OpenSpec.ofChange turnBackSpec)

/-- ITS FALSE NEIGHBOUR: 'it returns false'. Refute it at one input. -/
def turnBackWrong : ChangeSpec := { name := "turnBack", fn := fun _ => fun
  | [d] => { results := [.lit (.bool false)], args := [d] }
  | _ => none }
def TurnBackWrongFalsely : Prop := turnBackRow.holds Try.pinned (OpenSpec.ofChange turnBackWrong)

/-- 'watchglasslaw20.TurnReach': WHATEVER THE INPUT: true; the input reads as it did. -/
def turnReachSpec : ChangeSpec := { name := "turnReach", fn := fun _ => fun
  | [d1, d2] => { results := [.lit (.bool true)], args := [d1, d2] }
  | _ => none }
def turnReachRow : OpenClaim := { program := "ytedeppgipciblaa", sum := "31835ca16be58320c1bd486e21b6960d97ae11e3190c5ffe9737b179ac73928f", func := "watchglass/watchglasslaw20.TurnReach", spec := "turnReach", unfollowed := true, recurses := true, apart := false }
def TurnReachSaid : Prop := turnReachRow.holds Try.pinned (OpenSpec.ofChange turnReachSpec)

/-- ITS FALSE NEIGHBOUR: 'it returns false'. Refute it at one input. -/
def turnReachWrong : ChangeSpec := { name := "turnReach", fn := fun _ => fun
  | [d1, d2] => { results := [.lit (.bool false)], args := [d1, d2] }
  | _ => none }
def TurnReachWrongFalsely : Prop := turnReachRow.holds Try.pinned (OpenSpec.ofChange turnReachWrong)

/-- 'watchglasslaw15.SatShift': WHATEVER THE INPUT: true; the input reads as it did. -/
def satShiftSpec : ChangeSpec := { name := "satShift", fn := fun _ => fun
  | [d1, d2, d3, d4] => { results := [.lit (.bool true)], args := [d1, d2, d3, d4] }
  | _ => none }
def satShiftRow : OpenClaim := { program := "ytedeppgipciblaa", sum := "31835ca16be58320c1bd486e21b6960d97ae11e3190c5ffe9737b179ac73928f", func := "watchglass/watchglasslaw15.SatShift", spec := "satShift", unfollowed := true, recurses := true, apart := false }
def SatShiftSaid : Prop := satShiftRow.holds Try.pinned (OpenSpec.ofChange satShiftSpec)

/-- ITS FALSE NEIGHBOUR: 'it returns false'. Refute it at one input. -/
def satShiftWrong : ChangeSpec := { name := "satShift", fn := fun _ => fun
  | [d1, d2, d3, d4] => { results := [.lit (.bool false)], args := [d1, d2, d3, d4] }
  | _ => none }
def SatShiftWrongFalsely : Prop := satShiftRow.holds Try.pinned (OpenSpec.ofChange satShiftWrong)

/-- 'watchglasslaw15.SatTurned': WHATEVER THE INPUT: true; the input reads as it did. -/
def satTurnedSpec : ChangeSpec := { name := "satTurned", fn := fun _ => fun
  | [d1, d2, d3] => { results := [.lit (.bool true)], args := [d1, d2, d3] }
  | _ => none }
def satTurnedRow : OpenClaim := { program := "ytedeppgipciblaa", sum := "31835ca16be58320c1bd486e21b6960d97ae11e3190c5ffe9737b179ac73928f", func := "watchglass/watchglasslaw15.SatTurned", spec := "satTurned", unfollowed := true, recurses := true, apart := false }
def SatTurnedSaid : Prop := satTurnedRow.holds Try.pinned (OpenSpec.ofChange satTurnedSpec)

/-- ITS FALSE NEIGHBOUR: 'it returns false'. Refute it at one input. -/
def satTurnedWrong : ChangeSpec := { name := "satTurned", fn := fun _ => fun
  | [d1, d2, d3] => { results := [.lit (.bool false)], args := [d1, d2, d3] }
  | _ => none }
def SatTurnedWrongFalsely : Prop := satTurnedRow.holds Try.pinned (OpenSpec.ofChange satTurnedWrong)

/-- 'watchglasslaw15.SatPast': WHATEVER THE INPUT: true; the input reads as it did. -/
def satPastSpec : ChangeSpec := { name := "satPast", fn := fun _ => fun
  | [d1, d2, d3, d4] => { results := [.lit (.bool true)], args := [d1, d2, d3, d4] }
  | _ => none }
def satPastRow : OpenClaim := { program := "ytedeppgipciblaa", sum := "31835ca16be58320c1bd486e21b6960d97ae11e3190c5ffe9737b179ac73928f", func := "watchglass/watchglasslaw15.SatPast", spec := "satPast", unfollowed := true, recurses := true, apart := false }
def SatPastSaid : Prop := satPastRow.holds Try.pinned (OpenSpec.ofChange satPastSpec)

/-- ITS FALSE NEIGHBOUR: 'it returns false'. Refute it at one input. -/
def satPastWrong : ChangeSpec := { name := "satPast", fn := fun _ => fun
  | [d1, d2, d3, d4] => { results := [.lit (.bool false)], args := [d1, d2, d3, d4] }
  | _ => none }
def SatPastWrongFalsely : Prop := satPastRow.holds Try.pinned (OpenSpec.ofChange satPastWrong)

/- THE SECOND FORM. 'bulk': how many values and letters a reading holds, each counted each time it is reached (what is shared counts as often as it is met; a slice's spare places count too). A statement '..UptoSaid' is the law's where the arguments, and the package variables that the reading takes, are together of bulk at most 1048576: NARROWER than '..Said'. Prove '..Said' where nothing that the law and all that it calls make is longer than what came in: it says more and counts as full. Else prove '..UptoSaid'. A law counts once. -/
mutual
def uptoBulk {H : Type} : DataW H → Nat
  | .lit (.string bytes) => bytes.length + 1
  | .lit _ => 1
  | .nil => 1
  | .ptr d => uptoBulk d + 1
  | .slice elems spare => uptoBulkAll elems + uptoBulkAll spare + 1
  | .agg parts => uptoBulkAll parts + 1
  | .iface _ d => uptoBulk d + 1
  | .map entries => uptoBulkEntries entries + 1
  | .held _ => 1
def uptoBulkAll {H : Type} : List (DataW H) → Nat
  | [] => 0
  | d :: r => uptoBulk d + uptoBulkAll r
def uptoBulkEntries {H : Type} : List (Lit × DataW H) → Nat
  | [] => 0
  | x :: r => uptoBulkEntry x + uptoBulkEntries r
def uptoBulkEntry {H : Type} : Lit × DataW H → Nat
  | (.string bytes, d) => bytes.length + uptoBulk d + 1
  | (_, d) => uptoBulk d + 1
 end
def uptoSmall : (H : Type) → List (DataW H) → Bool := fun _ ds => decide (uptoBulkAll ds ≤ 1048576)
def OpenSpec.upto (s : _root_.Go.ChangeSpec) : _root_.Go.OpenSpec := { _root_.Go.OpenSpec.ofChange s with cond := some uptoSmall }

/-- 'watchglasslaw20.TurnMakes', WHERE WHAT IT READS IS OF BULK AT MOST 1048576: true; the input reads as it did. -/
def turnMakesUptoRow : OpenClaim := { program := "ytedeppgipciblaa", sum := "31835ca16be58320c1bd486e21b6960d97ae11e3190c5ffe9737b179ac73928f", func := "watchglass/watchglasslaw20.TurnMakes", spec := "turnMakes", unfollowed := true, recurses := true, apart := false, narrowed := true }
def TurnMakesUptoSaid : Prop := turnMakesUptoRow.holds Try.pinned (OpenSpec.upto turnMakesSpec)

/-- 'watchglasslaw20.TurnBack', WHERE WHAT IT READS IS OF BULK AT MOST 1048576: true; the input reads as it did. -/
def turnBackUptoRow : OpenClaim := { program := "ytedeppgipciblaa", sum := "31835ca16be58320c1bd486e21b6960d97ae11e3190c5ffe9737b179ac73928f", func := "watchglass/watchglasslaw20.TurnBack", spec := "turnBack", unfollowed := true, recurses := true, apart := false, narrowed := true }
def TurnBackUptoSaid : Prop := turnBackUptoRow.holds Try.pinned (OpenSpec.upto turnBackSpec)

/-- 'watchglasslaw20.TurnReach', WHERE WHAT IT READS IS OF BULK AT MOST 1048576: true; the input reads as it did. -/
def turnReachUptoRow : OpenClaim := { program := "ytedeppgipciblaa", sum := "31835ca16be58320c1bd486e21b6960d97ae11e3190c5ffe9737b179ac73928f", func := "watchglass/watchglasslaw20.TurnReach", spec := "turnReach", unfollowed := true, recurses := true, apart := false, narrowed := true }
def TurnReachUptoSaid : Prop := turnReachUptoRow.holds Try.pinned (OpenSpec.upto turnReachSpec)

/-- 'watchglasslaw15.SatShift', WHERE WHAT IT READS IS OF BULK AT MOST 1048576: true; the input reads as it did. -/
def satShiftUptoRow : OpenClaim := { program := "ytedeppgipciblaa", sum := "31835ca16be58320c1bd486e21b6960d97ae11e3190c5ffe9737b179ac73928f", func := "watchglass/watchglasslaw15.SatShift", spec := "satShift", unfollowed := true, recurses := true, apart := false, narrowed := true }
def SatShiftUptoSaid : Prop := satShiftUptoRow.holds Try.pinned (OpenSpec.upto satShiftSpec)

/-- 'watchglasslaw15.SatTurned', WHERE WHAT IT READS IS OF BULK AT MOST 1048576: true; the input reads as it did. -/
def satTurnedUptoRow : OpenClaim := { program := "ytedeppgipciblaa", sum := "31835ca16be58320c1bd486e21b6960d97ae11e3190c5ffe9737b179ac73928f", func := "watchglass/watchglasslaw15.SatTurned", spec := "satTurned", unfollowed := true, recurses := true, apart := false, narrowed := true }
def SatTurnedUptoSaid : Prop := satTurnedUptoRow.holds Try.pinned (OpenSpec.upto satTurnedSpec)

/-- 'watchglasslaw15.SatPast', WHERE WHAT IT READS IS OF BULK AT MOST 1048576: true; the input reads as it did. -/
def satPastUptoRow : OpenClaim := { program := "ytedeppgipciblaa", sum := "31835ca16be58320c1bd486e21b6960d97ae11e3190c5ffe9737b179ac73928f", func := "watchglass/watchglasslaw15.SatPast", spec := "satPast", unfollowed := true, recurses := true, apart := false, narrowed := true }
def SatPastUptoSaid : Prop := satPastUptoRow.holds Try.pinned (OpenSpec.upto satPastSpec)

end Rows
end Go.Proofs.Ytedeppgipciblaa
