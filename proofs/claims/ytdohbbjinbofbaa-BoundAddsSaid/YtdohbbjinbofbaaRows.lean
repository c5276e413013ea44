/-
  No cell of these rows narrows 'for every input' (looked for: loops, veiled, ifaces, maps, wideKeys, modest, calm, conditions, laid).
  DERIVED. THE GIVEN ROWS OF THIS SEAT. 8 by the template 'for every input the law returns true; each argument reads behind the call as it read before'; 0 by the template 'total and deterministic' (their statements: YtdohbbjinbofbaaTotals.lean).
  GIVEN WITH THE SEED: the statements are not yours to turn. If you find one false, say at which input.
  Laid BY PROGRAM, IN A SANDBOX (cutbox-rows.mjs): the forced cells as the released guide's own fill.sh prints them over the translation f3e15be122a8e5bc… (all of the seat's roots in one cut). By AI agents, Wed Nov 11 2026. No macro, syntax, notation, axiom, sorry.
-/
import Derived.Test.YtdohbbjinbofbaaChecked
import GoSem.Claim
import GoSem.ClaimJoined
import GoSem.ClaimMapViews
import Derived.JoinedTies
import Derived.KernelRfl
namespace Go.Proofs.Ytdohbbjinbofbaa
/- THE CELL 'sum', in the pinned program and in every row, IS THE sha256 OF THE DUMP (.gsa) THAT YtdohbbjinbofbaaProg.lean LOADS. Nothing in Lean hashes anything: it is a label: what it is worth is what the hold of that sum in a sandbox is worth. -/
noncomputable def Try.pinned : Pinned := { name := "ytdohbbjinbofbaa", sum := "f3e15be122a8e5bc82ffdae827c3c974f6def36f7ac371571587eeafde7cdc4d", checked := Try.checked }
namespace Rows
def none {H : Type} : Left H := { results := [], args := [] }

/-- 'watchglasslaw26.BoundOnce': WHATEVER THE INPUT: true; the input reads as it did. -/
def boundOnceSpec : ChangeSpec := { name := "boundOnce", fn := fun _ => fun
  | [d] => { results := [.lit (.bool true)], args := [d] }
  | _ => none }
def boundOnceRow : OpenClaim := { program := "ytdohbbjinbofbaa", sum := "f3e15be122a8e5bc82ffdae827c3c974f6def36f7ac371571587eeafde7cdc4d", func := "watchglass/watchglasslaw26.BoundOnce", spec := "boundOnce", unfollowed := true, recurses := true, apart := false }
def BoundOnceSaid : Prop := boundOnceRow.holds Try.pinned (OpenSpec.ofChange boundOnceSpec)

/-- ITS FALSE NEIGHBOUR: 'it returns false'. Refute it at one input. -/
def boundOnceWrong : ChangeSpec := { name := "boundOnce", fn := fun _ => fun
  | [d] => { results := [.lit (.bool false)], args := [d] }
  | _ => none }
def BoundOnceWrongFalsely : Prop := boundOnceRow.holds Try.pinned (OpenSpec.ofChange boundOnceWrong)

/-- 'watchglasslaw26.BoundPast': WHATEVER THE INPUT: true; the input reads as it did. -/
def boundPastSpec : ChangeSpec := { name := "boundPast", fn := fun _ => fun
  | [d1, d2, d3] => { results := [.lit (.bool true)], args := [d1, d2, d3] }
  | _ => none }
def boundPastRow : OpenClaim := { program := "ytdohbbjinbofbaa", sum := "f3e15be122a8e5bc82ffdae827c3c974f6def36f7ac371571587eeafde7cdc4d", func := "watchglass/watchglasslaw26.BoundPast", spec := "boundPast", unfollowed := true, recurses := true, apart := false }
def BoundPastSaid : Prop := boundPastRow.holds Try.pinned (OpenSpec.ofChange boundPastSpec)

/-- ITS FALSE NEIGHBOUR: 'it returns false'. Refute it at one input. -/
def boundPastWrong : ChangeSpec := { name := "boundPast", fn := fun _ => fun
  | [d1, d2, d3] => { results := [.lit (.bool false)], args := [d1, d2, d3] }
  | _ => none }
def BoundPastWrongFalsely : Prop := boundPastRow.holds Try.pinned (OpenSpec.ofChange boundPastWrong)

/-- 'watchglasslaw26.BoundParts': WHATEVER THE INPUT: true; the input reads as it did. -/
def boundPartsSpec : ChangeSpec := { name := "boundParts", fn := fun _ => fun
  | [d1, d2, d3] => { results := [.lit (.bool true)], args := [d1, d2, d3] }
  | _ => none }
def boundPartsRow : OpenClaim := { program := "ytdohbbjinbofbaa", sum := "f3e15be122a8e5bc82ffdae827c3c974f6def36f7ac371571587eeafde7cdc4d", func := "watchglass/watchglasslaw26.BoundParts", spec := "boundParts", unfollowed := true, recurses := true, apart := false }
def BoundPartsSaid : Prop := boundPartsRow.holds Try.pinned (OpenSpec.ofChange boundPartsSpec)

/-- ITS FALSE NEIGHBOUR: 'it returns false'. Refute it at one input. -/
def boundPartsWrong : ChangeSpec := { name := "boundParts", fn := fun _ => fun
  | [d1, d2, d3] => { results := [.lit (.bool false)], args := [d1, d2, d3] }
  | _ => none }
def BoundPartsWrongFalsely : Prop := boundPartsRow.holds Try.pinned (OpenSpec.ofChange boundPartsWrong)

/-- 'watchglasslaw26.BoundGrows': WHATEVER THE INPUT: true; the input reads as it did. -/
def boundGrowsSpec : ChangeSpec := { name := "boundGrows", fn := fun _ => fun
  | [d1, d2, d3, d4, d5] => { results := [.lit (.bool true)], args := [d1, d2, d3, d4, d5] }
  | _ => none }
def boundGrowsRow : OpenClaim := { program := "ytdohbbjinbofbaa", sum := "f3e15be122a8e5bc82ffdae827c3c974f6def36f7ac371571587eeafde7cdc4d", func := "watchglass/watchglasslaw26.BoundGrows", spec := "boundGrows", unfollowed := true, recurses := true, apart := false }
def BoundGrowsSaid : Prop := boundGrowsRow.holds Try.pinned (OpenSpec.ofChange boundGrowsSpec)

/-- ITS FALSE NEIGHBOUR: 'it returns false'. Refute it at one input. -/
def boundGrowsWrong : ChangeSpec := { name := "boundGrows", fn := fun _ => fun
  | [d1, d2, d3, d4, d5] => { results := [.lit (.bool false)], args := [d1, d2, d3, d4, d5] }
  | _ => none }
def BoundGrowsWrongFalsely : Prop := boundGrowsRow.holds Try.pinned (OpenSpec.ofChange boundGrowsWrong)

/-- 'watchglasslaw26.BoundAdds': WHATEVER THE INPUT: true; the input reads as it did. -/
def boundAddsSpec : ChangeSpec := { name := "boundAdds", fn := fun _ => fun
  | [d1, d2, d3, d4, d5] => { results := [.lit (.bool true)], args := [d1, d2, d3, d4, d5] }
  | _ => none }
def boundAddsRow : OpenClaim := { program := "ytdohbbjinbofbaa", sum := "f3e15be122a8e5bc82ffdae827c3c974f6def36f7ac371571587eeafde7cdc4d", func := "watchglass/watchglasslaw26.BoundAdds", spec := "boundAdds", unfollowed := true, recurses := true, apart := false }
def BoundAddsSaid : Prop := boundAddsRow.holds Try.pinned (OpenSpec.ofChange boundAddsSpec)

/-- ITS FALSE NEIGHBOUR: 'it returns false'. Refute it at one input. -/
def boundAddsWrong : ChangeSpec := { name := "boundAdds", fn := fun _ => fun
  | [d1, d2, d3, d4, d5] => { results := [.lit (.bool false)], args := [d1, d2, d3, d4, d5] }
  | _ => none }
def BoundAddsWrongFalsely : Prop := boundAddsRow.holds Try.pinned (OpenSpec.ofChange boundAddsWrong)

/-- 'watchglasslaw29.AtomsPlace': WHATEVER THE INPUT: true; the input reads as it did. -/
def atomsPlaceSpec : ChangeSpec := { name := "atomsPlace", fn := fun _ => fun
  | [d] => { results := [.lit (.bool true)], args := [d] }
  | _ => none }
def atomsPlaceRow : OpenClaim := { program := "ytdohbbjinbofbaa", sum := "f3e15be122a8e5bc82ffdae827c3c974f6def36f7ac371571587eeafde7cdc4d", func := "watchglass/watchglasslaw29.AtomsPlace", spec := "atomsPlace", unfollowed := true, recurses := true, apart := false }
def AtomsPlaceSaid : Prop := atomsPlaceRow.holds Try.pinned (OpenSpec.ofChange atomsPlaceSpec)

/-- ITS FALSE NEIGHBOUR: 'it returns false'. Refute it at one input. -/
def atomsPlaceWrong : ChangeSpec := { name := "atomsPlace", fn := fun _ => fun
  | [d] => { results := [.lit (.bool false)], args := [d] }
  | _ => none }
def AtomsPlaceWrongFalsely : Prop := atomsPlaceRow.holds Try.pinned (OpenSpec.ofChange atomsPlaceWrong)

/-- 'watchglasslaw29.AtomsNone': WHATEVER THE INPUT: true; the input reads as it did. -/
def atomsNoneSpec : ChangeSpec := { name := "atomsNone", fn := fun _ => fun
  | [d1, d2, d3, d4, d5] => { results := [.lit (.bool true)], args := [d1, d2, d3, d4, d5] }
  | _ => none }
def atomsNoneRow : OpenClaim := { program := "ytdohbbjinbofbaa", sum := "f3e15be122a8e5bc82ffdae827c3c974f6def36f7ac371571587eeafde7cdc4d", func := "watchglass/watchglasslaw29.AtomsNone", spec := "atomsNone", unfollowed := true, recurses := true, apart := false }
def AtomsNoneSaid : Prop := atomsNoneRow.holds Try.pinned (OpenSpec.ofChange atomsNoneSpec)

/-- ITS FALSE NEIGHBOUR: 'it returns false'. Refute it at one input. -/
def atomsNoneWrong : ChangeSpec := { name := "atomsNone", fn := fun _ => fun
  | [d1, d2, d3, d4, d5] => { results := [.lit (.bool false)], args := [d1, d2, d3, d4, d5] }
  | _ => none }
def AtomsNoneWrongFalsely : Prop := atomsNoneRow.holds Try.pinned (OpenSpec.ofChange atomsNoneWrong)

/-- 'watchglasslaw29.AtomsSteps': WHATEVER THE INPUT: true; the input reads as it did. -/
def atomsStepsSpec : ChangeSpec := { name := "atomsSteps", fn := fun _ => fun
  | [d1, d2, d3, d4] => { results := [.lit (.bool true)], args := [d1, d2, d3, d4] }
  | _ => none }
def atomsStepsRow : OpenClaim := { program := "ytdohbbjinbofbaa", sum := "f3e15be122a8e5bc82ffdae827c3c974f6def36f7ac371571587eeafde7cdc4d", func := "watchglass/watchglasslaw29.AtomsSteps", spec := "atomsSteps", unfollowed := true, recurses := true, apart := false }
def AtomsStepsSaid : Prop := atomsStepsRow.holds Try.pinned (OpenSpec.ofChange atomsStepsSpec)

/-- ITS FALSE NEIGHBOUR: 'it returns false'. Refute it at one input. -/
def atomsStepsWrong : ChangeSpec := { name := "atomsSteps", fn := fun _ => fun
  | [d1, d2, d3, d4] => { results := [.lit (.bool false)], args := [d1, d2, d3, d4] }
  | _ => none }
def AtomsStepsWrongFalsely : Prop := atomsStepsRow.holds Try.pinned (OpenSpec.ofChange atomsStepsWrong)

/- THE SECOND FORM. 'bulk': how many values and letters a reading holds, each counted each time it is reached (what is shared counts as often as it is met; a slice's spare places count too). A statement '..UptoSaid' is the law's where the arguments, and the package variables that the reading takes, are together of bulk at most 1048576: NARROWER than '..Said'. Prove '..Said' where nothing that the law and all that it calls make is longer than what came in: it says more and counts as full. Else prove '..UptoSaid'. A law counts once. -/
mutual
def uptoBulk {H : Type} : DataW H → Nat
  | .lit (.string bytes) => bytes.length + 1
  | .lit _ => 1
  | .nil => 1
  | .ptr d => uptoBulk d + 1
  | .slice elems spare => uptoBulkAll elems + uptoBulkAll spare + 1
  | .agg parts => uptoBulkAll parts + 1
  | .iface _ d => uptoBulk d + 1
  | .map entries => uptoBulkEntries entries + 1
  | .held _ => 1
def uptoBulkAll {H : Type} : List (DataW H) → Nat
  | [] => 0
  | d :: r => uptoBulk d + uptoBulkAll r
def uptoBulkEntries {H : Type} : List (Lit × DataW H) → Nat
  | [] => 0
  | x :: r => uptoBulkEntry x + uptoBulkEntries r
def uptoBulkEntry {H : Type} : Lit × DataW H → Nat
  | (.string bytes, d) => bytes.length + uptoBulk d + 1
  | (_, d) => uptoBulk d + 1
 end
def uptoSmall : (H : Type) → List (DataW H) → Bool := fun _ ds => decide (uptoBulkAll ds ≤ 1048576)
def OpenSpec.upto (s : _root_.Go.ChangeSpec) : _root_.Go.OpenSpec := { _root_.Go.OpenSpec.ofChange s with cond := some uptoSmall }

/-- 'watchglasslaw26.BoundOnce', WHERE WHAT IT READS IS OF BULK AT MOST 1048576: true; the input reads as it did. -/
def boundOnceUptoRow : OpenClaim := { program := "ytdohbbjinbofbaa", sum := "f3e15be122a8e5bc82ffdae827c3c974f6def36f7ac371571587eeafde7cdc4d", func := "watchglass/watchglasslaw26.BoundOnce", spec := "boundOnce", unfollowed := true, recurses := true, apart := false, narrowed := true }
def BoundOnceUptoSaid : Prop := boundOnceUptoRow.holds Try.pinned (OpenSpec.upto boundOnceSpec)

/-- 'watchglasslaw26.BoundPast', WHERE WHAT IT READS IS OF BULK AT MOST 1048576: true; the input reads as it did. -/
def boundPastUptoRow : OpenClaim := { program := "ytdohbbjinbofbaa", sum := "f3e15be122a8e5bc82ffdae827c3c974f6def36f7ac371571587eeafde7cdc4d", func := "watchglass/watchglasslaw26.BoundPast", spec := "boundPast", unfollowed := true, recurses := true, apart := false, narrowed := true }
def BoundPastUptoSaid : Prop := boundPastUptoRow.holds Try.pinned (OpenSpec.upto boundPastSpec)

/-- 'watchglasslaw26.BoundParts', WHERE WHAT IT READS IS OF BULK AT MOST 1048576: true; the input reads as it did. -/
def boundPartsUptoRow : OpenClaim := { program := "ytdohbbjinbofbaa", sum := "f3e15be122a8e5bc82ffdae827c3c974f6def36f7ac371571587eeafde7cdc4d", func := "watchglass/watchglasslaw26.BoundParts", spec := "boundParts", unfollowed := true, recurses := true, apart := false, narrowed := true }
def BoundPartsUptoSaid : Prop := boundPartsUptoRow.holds Try.pinned (OpenSpec.upto boundPartsSpec)

/-- 'watchglasslaw26.BoundGrows', WHERE WHAT IT READS IS OF BULK AT MOST 1048576: true; the input reads as it did. -/
def boundGrowsUptoRow : OpenClaim := { program := "ytdohbbjinbofbaa", sum := "f3e15be122a8e5bc82ffdae827c3c974f6def36f7ac371571587eeafde7cdc4d", func := "watchglass/watchglasslaw26.BoundGrows", spec := "boundGrows", unfollowed := true, recurses := true, apart := false, narrowed := true }
def BoundGrowsUptoSaid : Prop := boundGrowsUptoRow.holds Try.pinned (OpenSpec.upto boundGrowsSpec)

/-- 'watchglasslaw26.BoundAdds', WHERE WHAT IT READS IS OF BULK AT MOST 1048576: true; the input reads as it did. -/
def boundAddsUptoRow : OpenClaim := { program := "ytdohbbjinbofbaa", sum := "f3e15be122a8e5bc82ffdae827c3c974f6def36f7ac371571587eeafde7cdc4d", func := "watchglass/watchglasslaw26.BoundAdds", spec := "boundAdds", unfollowed := true, recurses := true, apart := false, narrowed := true }
def BoundAddsUptoSaid : Prop := boundAddsUptoRow.holds Try.pinned (OpenSpec.upto boundAddsSpec)

/-- 'watchglasslaw29.AtomsPlace', WHERE WHAT IT READS IS OF BULK AT MOST 1048576: true; the input reads as it did. -/
def atomsPlaceUptoRow : OpenClaim := { program := "ytdohbbjinbofbaa", sum := "f3e15be122a8e5bc82ffdae827c3c974f6def36f7ac371571587eeafde7cdc4d", func := "watchglass/watchglasslaw29.AtomsPlace", spec := "atomsPlace", unfollowed := true, recurses := true, apart := false, narrowed := true }
def AtomsPlaceUptoSaid : Prop := atomsPlaceUptoRow.holds Try.pinned (OpenSpec.upto atomsPlaceSpec)

/-- 'watchglasslaw29.AtomsNone', WHERE WHAT IT READS IS OF BULK AT MOST 1048576: true; the input reads as it did. -/
def atomsNoneUptoRow : OpenClaim := { program := "ytdohbbjinbofbaa", sum := "f3e15be122a8e5bc82ffdae827c3c974f6def36f7ac371571587eeafde7cdc4d", func := "watchglass/watchglasslaw29.AtomsNone", spec := "atomsNone", unfollowed := true, recurses := true, apart := false, narrowed := true }
def AtomsNoneUptoSaid : Prop := atomsNoneUptoRow.holds Try.pinned (OpenSpec.upto atomsNoneSpec)

/-- 'watchglasslaw29.AtomsSteps', WHERE WHAT IT READS IS OF BULK AT MOST 1048576: true; the input reads as it did. -/
def atomsStepsUptoRow : OpenClaim := { program := "ytdohbbjinbofbaa", sum := "f3e15be122a8e5bc82ffdae827c3c974f6def36f7ac371571587eeafde7cdc4d", func := "watchglass/watchglasslaw29.AtomsSteps", spec := "atomsSteps", unfollowed := true, recurses := true, apart := false, narrowed := true }
def AtomsStepsUptoSaid : Prop := atomsStepsUptoRow.holds Try.pinned (OpenSpec.upto atomsStepsSpec)

end Rows
end Go.Proofs.Ytdohbbjinbofbaa
