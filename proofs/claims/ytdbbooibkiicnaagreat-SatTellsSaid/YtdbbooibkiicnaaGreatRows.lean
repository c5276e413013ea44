/-
  No cell of these rows narrows 'for every input' (looked for: loops, veiled, ifaces, maps, wideKeys, modest, calm, conditions, laid).
  DERIVED. THE GIVEN ROWS OF THIS SEAT. 4 by the template 'for every input the law returns true; each argument reads behind the call as it read before'; 0 by the template 'total and deterministic' (their statements: YtdbbooibkiicnaaGreatTotals.lean).
  GIVEN WITH THE SEED: the statements are not yours to turn. If you find one false, say at which input.
  Laid BY PROGRAM, IN A SANDBOX (cutbox-rows.mjs): the forced cells as the released guide's own fill.sh prints them over the translation 29266b3bc616cdc2… (all of the seat's roots in one cut). By AI agents, Wed Nov 11 2026. No macro, syntax, notation, axiom, sorry.
-/
import Derived.Test.YtdbbooibkiicnaaGreatChecked
import GoSem.Claim
import GoSem.ClaimJoined
import GoSem.ClaimMapViews
import Derived.JoinedTies
import Derived.KernelRfl
namespace Go.Proofs.YtdbbooibkiicnaaGreat
/- THE CELL 'sum', in the pinned program and in every row, IS THE sha256 OF THE DUMP (.gsa) THAT YtdbbooibkiicnaaGreatProg.lean LOADS. Nothing in Lean hashes anything: it is a label: what it is worth is what the hold of that sum in a sandbox is worth. -/
noncomputable def Tryz.pinned : Pinned := { name := "ytdbbooibkiicnaagreat", sum := "29266b3bc616cdc20db5306215e25a2442bf7a063a895706a7cff90a1e8e3b7d", checked := Tryz.checked }
namespace Rows
def none {H : Type} : Left H := { results := [], args := [] }

/-- 'watchglasslaw29.AtomsCount': WHATEVER THE INPUT: true; the input reads as it did. -/
def atomsCountSpec : ChangeSpec := { name := "atomsCount", fn := fun _ => fun
  | [d1, d2, d3, d4, d5, d6] => { results := [.lit (.bool true)], args := [d1, d2, d3, d4, d5, d6] }
  | _ => none }
def atomsCountRow : OpenClaim := { program := "ytdbbooibkiicnaagreat", sum := "29266b3bc616cdc20db5306215e25a2442bf7a063a895706a7cff90a1e8e3b7d", func := "watchglass/watchglasslaw29.AtomsCount", spec := "atomsCount", unfollowed := true, recurses := true, apart := false }
def AtomsCountSaid : Prop := atomsCountRow.holds Tryz.pinned (OpenSpec.ofChange atomsCountSpec)

/-- ITS FALSE NEIGHBOUR: 'it returns false'. Refute it at one input. -/
def atomsCountWrong : ChangeSpec := { name := "atomsCount", fn := fun _ => fun
  | [d1, d2, d3, d4, d5, d6] => { results := [.lit (.bool false)], args := [d1, d2, d3, d4, d5, d6] }
  | _ => none }
def AtomsCountWrongFalsely : Prop := atomsCountRow.holds Tryz.pinned (OpenSpec.ofChange atomsCountWrong)

/-- 'watchglasslaw29.AtomsPut': WHATEVER THE INPUT: true; the input reads as it did. -/
def atomsPutSpec : ChangeSpec := { name := "atomsPut", fn := fun _ => fun
  | [d1, d2, d3, d4, d5] => { results := [.lit (.bool true)], args := [d1, d2, d3, d4, d5] }
  | _ => none }
def atomsPutRow : OpenClaim := { program := "ytdbbooibkiicnaagreat", sum := "29266b3bc616cdc20db5306215e25a2442bf7a063a895706a7cff90a1e8e3b7d", func := "watchglass/watchglasslaw29.AtomsPut", spec := "atomsPut", unfollowed := true, recurses := true, apart := false }
def AtomsPutSaid : Prop := atomsPutRow.holds Tryz.pinned (OpenSpec.ofChange atomsPutSpec)

/-- ITS FALSE NEIGHBOUR: 'it returns false'. Refute it at one input. -/
def atomsPutWrong : ChangeSpec := { name := "atomsPut", fn := fun _ => fun
  | [d1, d2, d3, d4, d5] => { results := [.lit (.bool false)], args := [d1, d2, d3, d4, d5] }
  | _ => none }
def AtomsPutWrongFalsely : Prop := atomsPutRow.holds Tryz.pinned (OpenSpec.ofChange atomsPutWrong)

/-- 'watchglasslaw15.SatTells': WHATEVER THE INPUT: true; the input reads as it did. -/
def satTellsSpec : ChangeSpec := { name := "satTells", fn := fun _ => fun
  | [d1, d2, d3] => { results := [.lit (.bool true)], args := [d1, d2, d3] }
  | _ => none }
def satTellsRow : OpenClaim := { program := "ytdbbooibkiicnaagreat", sum := "29266b3bc616cdc20db5306215e25a2442bf7a063a895706a7cff90a1e8e3b7d", func := "watchglass/watchglasslaw15.SatTells", spec := "satTells", unfollowed := true, recurses := true, apart := false }
def SatTellsSaid : Prop := satTellsRow.holds Tryz.pinned (OpenSpec.ofChange satTellsSpec)

/-- ITS FALSE NEIGHBOUR: 'it returns false'. Refute it at one input. -/
def satTellsWrong : ChangeSpec := { name := "satTells", fn := fun _ => fun
  | [d1, d2, d3] => { results := [.lit (.bool false)], args := [d1, d2, d3] }
  | _ => none }
def SatTellsWrongFalsely : Prop := satTellsRow.holds Tryz.pinned (OpenSpec.ofChange satTellsWrong)

/-- 'watchglasslaw15.SatMade': WHATEVER THE INPUT: true; the input reads as it did. -/
def satMadeSpec : ChangeSpec := { name := "satMade", fn := fun _ => fun
  | [d1, d2, d3, d4] => { results := [.lit (.bool true)], args := [d1, d2, d3, d4] }
  | _ => none }
def satMadeRow : OpenClaim := { program := "ytdbbooibkiicnaagreat", sum := "29266b3bc616cdc20db5306215e25a2442bf7a063a895706a7cff90a1e8e3b7d", func := "watchglass/watchglasslaw15.SatMade", spec := "satMade", unfollowed := true, recurses := true, apart := false }
def SatMadeSaid : Prop := satMadeRow.holds Tryz.pinned (OpenSpec.ofChange satMadeSpec)

/-- ITS FALSE NEIGHBOUR: 'it returns false'. Refute it at one input. -/
def satMadeWrong : ChangeSpec := { name := "satMade", fn := fun _ => fun
  | [d1, d2, d3, d4] => { results := [.lit (.bool false)], args := [d1, d2, d3, d4] }
  | _ => none }
def SatMadeWrongFalsely : Prop := satMadeRow.holds Tryz.pinned (OpenSpec.ofChange satMadeWrong)

/- THE SECOND FORM. 'bulk': how many values and letters a reading holds, each counted each time it is reached (what is shared counts as often as it is met; a slice's spare places count too). A statement '..UptoSaid' is the law's where the arguments, and the package variables that the reading takes, are together of bulk at most 1048576: NARROWER than '..Said'. Prove '..Said' where nothing that the law and all that it calls make is longer than what came in: it says more and counts as full. Else prove '..UptoSaid'. A law counts once. -/
mutual
def uptoBulk {H : Type} : DataW H → Nat
  | .lit (.string bytes) => bytes.length + 1
  | .lit _ => 1
  | .nil => 1
  | .ptr d => uptoBulk d + 1
  | .slice elems spare => uptoBulkAll elems + uptoBulkAll spare + 1
  | .agg parts => uptoBulkAll parts + 1
  | .iface _ d => uptoBulk d + 1
  | .map entries => uptoBulkEntries entries + 1
  | .held _ => 1
def uptoBulkAll {H : Type} : List (DataW H) → Nat
  | [] => 0
  | d :: r => uptoBulk d + uptoBulkAll r
def uptoBulkEntries {H : Type} : List (Lit × DataW H) → Nat
  | [] => 0
  | x :: r => uptoBulkEntry x + uptoBulkEntries r
def uptoBulkEntry {H : Type} : Lit × DataW H → Nat
  | (.string bytes, d) => bytes.length + uptoBulk d + 1
  | (_, d) => uptoBulk d + 1
 end
def uptoSmall : (H : Type) → List (DataW H) → Bool := fun _ ds => decide (uptoBulkAll ds ≤ 1048576)
def OpenSpec.upto (s : _root_.Go.ChangeSpec) : _root_.Go.OpenSpec := { _root_.Go.OpenSpec.ofChange s with cond := some uptoSmall }

/-- 'watchglasslaw29.AtomsCount', WHERE WHAT IT READS IS OF BULK AT MOST 1048576: true; the input reads as it did. -/
def atomsCountUptoRow : OpenClaim := { program := "ytdbbooibkiicnaagreat", sum := "29266b3bc616cdc20db5306215e25a2442bf7a063a895706a7cff90a1e8e3b7d", func := "watchglass/watchglasslaw29.AtomsCount", spec := "atomsCount", unfollowed := true, recurses := true, apart := false, narrowed := true }
def AtomsCountUptoSaid : Prop := atomsCountUptoRow.holds Tryz.pinned (OpenSpec.upto atomsCountSpec)

/-- 'watchglasslaw29.AtomsPut', WHERE WHAT IT READS IS OF BULK AT MOST 1048576: true; the input reads as it did. -/
def atomsPutUptoRow : OpenClaim := { program := "ytdbbooibkiicnaagreat", sum := "29266b3bc616cdc20db5306215e25a2442bf7a063a895706a7cff90a1e8e3b7d", func := "watchglass/watchglasslaw29.AtomsPut", spec := "atomsPut", unfollowed := true, recurses := true, apart := false, narrowed := true }
def AtomsPutUptoSaid : Prop := atomsPutUptoRow.holds Tryz.pinned (OpenSpec.upto atomsPutSpec)

/-- 'watchglasslaw15.SatTells', WHERE WHAT IT READS IS OF BULK AT MOST 1048576: true; the input reads as it did. -/
def satTellsUptoRow : OpenClaim := { program := "ytdbbooibkiicnaagreat", sum := "29266b3bc616cdc20db5306215e25a2442bf7a063a895706a7cff90a1e8e3b7d", func := "watchglass/watchglasslaw15.SatTells", spec := "satTells", unfollowed := true, recurses := true, apart := false, narrowed := true }
def SatTellsUptoSaid : Prop := satTellsUptoRow.holds Tryz.pinned (OpenSpec.upto satTellsSpec)

/-- 'watchglasslaw15.SatMade', WHERE WHAT IT READS IS OF BULK AT MOST 1048576: true; the input reads as it did. -/
def satMadeUptoRow : OpenClaim := { program := "ytdbbooibkiicnaagreat", sum := "29266b3bc616cdc20db5306215e25a2442bf7a063a895706a7cff90a1e8e3b7d", func := "watchglass/watchglasslaw15.SatMade", spec := "satMade", unfollowed := true, recurses := true, apart := false, narrowed := true }
def SatMadeUptoSaid : Prop := satMadeUptoRow.holds Tryz.pinned (OpenSpec.upto satMadeSpec)

end Rows
end Go.Proofs.YtdbbooibkiicnaaGreat
