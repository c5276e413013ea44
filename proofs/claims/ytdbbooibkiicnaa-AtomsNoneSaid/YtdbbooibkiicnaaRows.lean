/-
  No cell of these rows narrows 'for every input' (looked for: loops, veiled, ifaces, maps, wideKeys, modest, calm, conditions, laid).
  DERIVED. THE GIVEN ROWS OF THIS SEAT. 6 by the template 'for every input the law returns true; each argument reads behind the call as it read before'; 0 by the template 'total and deterministic' (their statements: YtdbbooibkiicnaaTotals.lean).
  GIVEN WITH THE SEED: the statements are not yours to turn. If you find one false, say at which input.
  Laid BY PROGRAM, IN A SANDBOX (cutbox-rows.mjs): the forced cells as the released guide's own fill.sh prints them over the translation a6d1fd934a3c9949… (all of the seat's roots in one cut). By AI agents, Wed Nov 11 2026. No macro, syntax, notation, axiom, sorry.
-/
import Derived.Test.YtdbbooibkiicnaaChecked
import GoSem.Claim
import GoSem.ClaimJoined
import GoSem.ClaimMapViews
import Derived.JoinedTies
import Derived.KernelRfl
namespace Go.Proofs.Ytdbbooibkiicnaa
/- THE CELL 'sum', in the pinned program and in every row, IS THE sha256 OF THE DUMP (.gsa) THAT YtdbbooibkiicnaaProg.lean LOADS. Nothing in Lean hashes anything: it is a label: what it is worth is what the hold of that sum in a sandbox is worth. -/
noncomputable def Try.pinned : Pinned := { name := "ytdbbooibkiicnaa", sum := "a6d1fd934a3c99498e495f713d2ee5c1b9ba553dfbeb13d7937e0d36f53be7de", checked := Try.checked }
namespace Rows
def none {H : Type} : Left H := { results := [], args := [] }

/-- 'watchglasslaw29.AtomsPlace': WHATEVER THE INPUT: true; the input reads as it did. -/
def atomsPlaceSpec : ChangeSpec := { name := "atomsPlace", fn := fun _ => fun
  | [d] => { results := [.lit (.bool true)], args := [d] }
  | _ => none }
def atomsPlaceRow : OpenClaim := { program := "ytdbbooibkiicnaa", sum := "a6d1fd934a3c99498e495f713d2ee5c1b9ba553dfbeb13d7937e0d36f53be7de", func := "watchglass/watchglasslaw29.AtomsPlace", spec := "atomsPlace", unfollowed := true, recurses := true, apart := false }
def AtomsPlaceSaid : Prop := atomsPlaceRow.holds Try.pinned (OpenSpec.ofChange atomsPlaceSpec)

/-- ITS FALSE NEIGHBOUR: 'it returns false'. Refute it at one input. -/
def atomsPlaceWrong : ChangeSpec := { name := "atomsPlace", fn := fun _ => fun
  | [d] => { results := [.lit (.bool false)], args := [d] }
  | _ => none }
def AtomsPlaceWrongFalsely : Prop := atomsPlaceRow.holds Try.pinned (OpenSpec.ofChange atomsPlaceWrong)

/-- 'watchglasslaw15.SatShift': WHATEVER THE INPUT: true; the input reads as it did. -/
def satShiftSpec : ChangeSpec := { name := "satShift", fn := fun _ => fun
  | [d1, d2, d3, d4] => { results := [.lit (.bool true)], args := [d1, d2, d3, d4] }
  | _ => none }
def satShiftRow : OpenClaim := { program := "ytdbbooibkiicnaa", sum := "a6d1fd934a3c99498e495f713d2ee5c1b9ba553dfbeb13d7937e0d36f53be7de", func := "watchglass/watchglasslaw15.SatShift", spec := "satShift", unfollowed := true, recurses := true, apart := false }
def SatShiftSaid : Prop := satShiftRow.holds Try.pinned (OpenSpec.ofChange satShiftSpec)

/-- ITS FALSE NEIGHBOUR: 'it returns false'. Refute it at one input. -/
def satShiftWrong : ChangeSpec := { name := "satShift", fn := fun _ => fun
  | [d1, d2, d3, d4] => { results := [.lit (.bool false)], args := [d1, d2, d3, d4] }
  | _ => none }
def SatShiftWrongFalsely : Prop := satShiftRow.holds Try.pinned (OpenSpec.ofChange satShiftWrong)

/-- 'watchglasslaw15.SatTurned': WHATEVER THE INPUT: true; the input reads as it did. -/
def satTurnedSpec : ChangeSpec := { name := "satTurned", fn := fun _ => fun
  | [d1, d2, d3] => { results := [.lit (.bool true)], args := [d1, d2, d3] }
  | _ => none }
def satTurnedRow : OpenClaim := { program := "ytdbbooibkiicnaa", sum := "a6d1fd934a3c99498e495f713d2ee5c1b9ba553dfbeb13d7937e0d36f53be7de", func := "watchglass/watchglasslaw15.SatTurned", spec := "satTurned", unfollowed := true, recurses := true, apart := false }
def SatTurnedSaid : Prop := satTurnedRow.holds Try.pinned (OpenSpec.ofChange satTurnedSpec)

/-- ITS FALSE NEIGHBOUR: 'it returns false'. Refute it at one input. -/
def satTurnedWrong : ChangeSpec := { name := "satTurned", fn := fun _ => fun
  | [d1, d2, d3] => { results := [.lit (.bool false)], args := [d1, d2, d3] }
  | _ => none }
def SatTurnedWrongFalsely : Prop := satTurnedRow.holds Try.pinned (OpenSpec.ofChange satTurnedWrong)

/-- 'watchglasslaw15.SatPast': WHATEVER THE INPUT: true; the input reads as it did. -/
def satPastSpec : ChangeSpec := { name := "satPast", fn := fun _ => fun
  | [d1, d2, d3, d4] => { results := [.lit (.bool true)], args := [d1, d2, d3, d4] }
  | _ => none }
def satPastRow : OpenClaim := { program := "ytdbbooibkiicnaa", sum := "a6d1fd934a3c99498e495f713d2ee5c1b9ba553dfbeb13d7937e0d36f53be7de", func := "watchglass/watchglasslaw15.SatPast", spec := "satPast", unfollowed := true, recurses := true, apart := false }
def SatPastSaid : Prop := satPastRow.holds Try.pinned (OpenSpec.ofChange satPastSpec)

/-- ITS FALSE NEIGHBOUR: 'it returns false'. Refute it at one input. -/
def satPastWrong : ChangeSpec := { name := "satPast", fn := fun _ => fun
  | [d1, d2, d3, d4] => { results := [.lit (.bool false)], args := [d1, d2, d3, d4] }
  | _ => none }
def SatPastWrongFalsely : Prop := satPastRow.holds Try.pinned (OpenSpec.ofChange satPastWrong)

/-- 'watchglasslaw29.AtomsNone': WHATEVER THE INPUT: true; the input reads as it did. -/
def atomsNoneSpec : ChangeSpec := { name := "atomsNone", fn := fun _ => fun
  | [d1, d2, d3, d4, d5] => { results := [.lit (.bool true)], args := [d1, d2, d3, d4, d5] }
  | _ => none }
def atomsNoneRow : OpenClaim := { program := "ytdbbooibkiicnaa", sum := "a6d1fd934a3c99498e495f713d2ee5c1b9ba553dfbeb13d7937e0d36f53be7de", func := "watchglass/watchglasslaw29.AtomsNone", spec := "atomsNone", unfollowed := true, recurses := true, apart := false }
def AtomsNoneSaid : Prop := atomsNoneRow.holds Try.pinned (OpenSpec.ofChange atomsNoneSpec)

/-- ITS FALSE NEIGHBOUR: 'it returns false'. Refute it at one input. -/
def atomsNoneWrong : ChangeSpec := { name := "atomsNone", fn := fun _ => fun
  | [d1, d2, d3, d4, d5] => { results := [.lit (.bool false)], args := [d1, d2, d3, d4, d5] }
  | _ => none }
def AtomsNoneWrongFalsely : Prop := atomsNoneRow.holds Try.pinned (OpenSpec.ofChange atomsNoneWrong)

/-- 'watchglasslaw29.AtomsSteps': WHATEVER THE INPUT: true; the input reads as it did. -/
def atomsStepsSpec : ChangeSpec := { name := "atomsSteps", fn := fun _ => fun
  | [d1, d2, d3, d4] => { results := [.lit (.bool true)], args := [d1, d2, d3, d4] }
  | _ => none }
def atomsStepsRow : OpenClaim := { program := "ytdbbooibkiicnaa", sum := "a6d1fd934a3c99498e495f713d2ee5c1b9ba553dfbeb13d7937e0d36f53be7de", func := "watchglass/watchglasslaw29.AtomsSteps", spec := "atomsSteps", unfollowed := true, recurses := true, apart := false }
def AtomsStepsSaid : Prop := atomsStepsRow.holds Try.pinned (OpenSpec.ofChange atomsStepsSpec)

/-- ITS FALSE NEIGHBOUR: 'it returns false'. Refute it at one input. -/
def atomsStepsWrong : ChangeSpec := { name := "atomsSteps", fn := fun _ => fun
  | [d1, d2, d3, d4] => { results := [.lit (.bool false)], args := [d1, d2, d3, d4] }
  | _ => none }
def AtomsStepsWrongFalsely : Prop := atomsStepsRow.holds Try.pinned (OpenSpec.ofChange atomsStepsWrong)

/- THE SECOND FORM. 'bulk': how many values and letters a reading holds, each counted each time it is reached (what is shared counts as often as it is met; a slice's spare places count too). A statement '..UptoSaid' is the law's where the arguments, and the package variables that the reading takes, are together of bulk at most 1048576: NARROWER than '..Said'. Prove '..Said' where nothing that the law and all that it calls make is longer than what came in: it says more and counts as full. Else prove '..UptoSaid'. A law counts once. -/
mutual
def uptoBulk {H : Type} : DataW H → Nat
  | .lit (.string bytes) => bytes.length + 1
  | .lit _ => 1
  | .nil => 1
  | .ptr d => uptoBulk d + 1
  | .slice elems spare => uptoBulkAll elems + uptoBulkAll spare + 1
  | .agg parts => uptoBulkAll parts + 1
  | .iface _ d => uptoBulk d + 1
  | .map entries => uptoBulkEntries entries + 1
  | .held _ => 1
def uptoBulkAll {H : Type} : List (DataW H) → Nat
  | [] => 0
  | d :: r => uptoBulk d + uptoBulkAll r
def uptoBulkEntries {H : Type} : List (Lit × DataW H) → Nat
  | [] => 0
  | x :: r => uptoBulkEntry x + uptoBulkEntries r
def uptoBulkEntry {H : Type} : Lit × DataW H → Nat
  | (.string bytes, d) => bytes.length + uptoBulk d + 1
  | (_, d) => uptoBulk d + 1
 end
def uptoSmall : (H : Type) → List (DataW H) → Bool := fun _ ds => decide (uptoBulkAll ds ≤ 1048576)
def OpenSpec.upto (s : _root_.Go.ChangeSpec) : _root_.Go.OpenSpec := { _root_.Go.OpenSpec.ofChange s with cond := some uptoSmall }

/-- 'watchglasslaw29.AtomsPlace', WHERE WHAT IT READS IS OF BULK AT MOST 1048576: true; the input reads as it did. -/
def atomsPlaceUptoRow : OpenClaim := { program := "ytdbbooibkiicnaa", sum := "a6d1fd934a3c99498e495f713d2ee5c1b9ba553dfbeb13d7937e0d36f53be7de", func := "watchglass/watchglasslaw29.AtomsPlace", spec := "atomsPlace", unfollowed := true, recurses := true, apart := false, narrowed := true }
def AtomsPlaceUptoSaid : Prop := atomsPlaceUptoRow.holds Try.pinned (OpenSpec.upto atomsPlaceSpec)

/-- 'watchglasslaw15.SatShift', WHERE WHAT IT READS IS OF BULK AT MOST 1048576: true; the input reads as it did. -/
def satShiftUptoRow : OpenClaim := { program := "ytdbbooibkiicnaa", sum := "a6d1fd934a3c99498e495f713d2ee5c1b9ba553dfbeb13d7937e0d36f53be7de", func := "watchglass/watchglasslaw15.SatShift", spec := "satShift", unfollowed := true, recurses := true, apart := false, narrowed := true }
def SatShiftUptoSaid : Prop := satShiftUptoRow.holds Try.pinned (OpenSpec.upto satShiftSpec)

/-- 'watchglasslaw15.SatTurned', WHERE WHAT IT READS IS OF BULK AT MOST 1048576: true; the input reads as it did. -/
def satTurnedUptoRow : OpenClaim := { program := "ytdbbooibkiicnaa", sum := "a6d1fd934a3c99498e495f713d2ee5c1b9ba553dfbeb13d7937e0d36f53be7de", func := "watchglass/watchglasslaw15.SatTurned", spec := "satTurned", unfollowed := true, recurses := true, apart := false, narrowed := true }
def SatTurnedUptoSaid : Prop := satTurnedUptoRow.holds Try.pinned (OpenSpec.upto satTurnedSpec)

/-- 'watchglasslaw15.SatPast', WHERE WHAT IT READS IS OF BULK AT MOST 1048576: true; the input reads as it did. -/
def satPastUptoRow : OpenClaim := { program := "ytdbbooibkiicnaa", sum := "a6d1fd934a3c99498e495f713d2ee5c1b9ba553dfbeb13d7937e0d36f53be7de", func := "watchglass/watchglasslaw15.SatPast", spec := "satPast", unfollowed := true, recurses := true, apart := false, narrowed := true }
def SatPastUptoSaid : Prop := satPastUptoRow.holds Try.pinned (OpenSpec.upto satPastSpec)

/-- 'watchglasslaw29.AtomsNone', WHERE WHAT IT READS IS OF BULK AT MOST 1048576: true; the input reads as it did. -/
def atomsNoneUptoRow : OpenClaim := { program := "ytdbbooibkiicnaa", sum := "a6d1fd934a3c99498e495f713d2ee5c1b9ba553dfbeb13d7937e0d36f53be7de", func := "watchglass/watchglasslaw29.AtomsNone", spec := "atomsNone", unfollowed := true, recurses := true, apart := false, narrowed := true }
def AtomsNoneUptoSaid : Prop := atomsNoneUptoRow.holds Try.pinned (OpenSpec.upto atomsNoneSpec)

/-- 'watchglasslaw29.AtomsSteps', WHERE WHAT IT READS IS OF BULK AT MOST 1048576: true; the input reads as it did. -/
def atomsStepsUptoRow : OpenClaim := { program := "ytdbbooibkiicnaa", sum := "a6d1fd934a3c99498e495f713d2ee5c1b9ba553dfbeb13d7937e0d36f53be7de", func := "watchglass/watchglasslaw29.AtomsSteps", spec := "atomsSteps", unfollowed := true, recurses := true, apart := false, narrowed := true }
def AtomsStepsUptoSaid : Prop := atomsStepsUptoRow.holds Try.pinned (OpenSpec.upto atomsStepsSpec)

end Rows
end Go.Proofs.Ytdbbooibkiicnaa
