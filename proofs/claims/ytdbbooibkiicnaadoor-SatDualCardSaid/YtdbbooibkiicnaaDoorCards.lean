/-
  DERIVED. GIVEN WITH THE SEED: THE CARDS: each row of YtdbbooibkiicnaaDoorRows.lean that lists a variable, with what it lists TIED to the program's text (the seventh form; the later family's looks); each row that meets fmt, with fmt's text TOLD by the authors' own Lean function (tested against real Go, not proved from fmt's source: count such statements apart). THE CARD IS WHAT COUNTS. Prove the row's statement (the work); the ties are given (YtdbbooibkiicnaaDoorTie.lean); close each card by the builder's one call (the guide's Derived/Test/ToyasCard.lean, 'card_holds'). Laid BY PROGRAM, IN A SANDBOX (cutbox-door.mjs). By AI agents, Wed Nov 11 2026. No macro, syntax, notation, axiom, sorry.
-/
import Derived.Test.YtdbbooibkiicnaaDoorRows
import GoSem.ClaimSeven
namespace Go.Proofs.YtdbbooibkiicnaaDoor
namespace Rows

/-- THE TIED CARD OF 'watchglasslaw15.SatDual'. -/
def satDualCard : Claim7 := { stood := { row := satDualRow, standIns := [], harness := (true, "117f391d03f7f2cc3254b11c869e29162bb46b5dd7696c1829b14ab3854d4efa"), looks := false }, kinds := [], alts := [], laidByText := true, laidKinds := [.data], laidTests := true, laidLooks := .later }
def SatDualCardSaid : Prop := Claim7.holds Tryd.pinned (.plain (OpenSpec.ofChange satDualSpec)) satDualCard

/-- THE TIED CARD OF 'watchglasslaw15.SatUnwinds'. -/
def satUnwindsCard : Claim7 := { stood := { row := satUnwindsRow, standIns := [], harness := (true, "117f391d03f7f2cc3254b11c869e29162bb46b5dd7696c1829b14ab3854d4efa"), looks := false }, kinds := [], alts := [], laidByText := true, laidKinds := [.data], laidTests := true, laidLooks := .later }
def SatUnwindsCardSaid : Prop := Claim7.holds Tryd.pinned (.plain (OpenSpec.ofChange satUnwindsSpec)) satUnwindsCard

/-- THE SECOND FORM's CARD OF 'watchglasslaw15.SatDual'. -/
def satDualUptoCard : Claim7 := { stood := { row := satDualUptoRow, standIns := [], harness := (true, "117f391d03f7f2cc3254b11c869e29162bb46b5dd7696c1829b14ab3854d4efa"), looks := false }, kinds := [], alts := [], laidByText := true, laidKinds := [.data], laidTests := true, laidLooks := .later }
def SatDualUptoCardSaid : Prop := Claim7.holds Tryd.pinned (.plain (OpenSpec.upto satDualSpec)) satDualUptoCard

/-- THE SECOND FORM's CARD OF 'watchglasslaw15.SatUnwinds'. -/
def satUnwindsUptoCard : Claim7 := { stood := { row := satUnwindsUptoRow, standIns := [], harness := (true, "117f391d03f7f2cc3254b11c869e29162bb46b5dd7696c1829b14ab3854d4efa"), looks := false }, kinds := [], alts := [], laidByText := true, laidKinds := [.data], laidTests := true, laidLooks := .later }
def SatUnwindsUptoCardSaid : Prop := Claim7.holds Tryd.pinned (.plain (OpenSpec.upto satUnwindsSpec)) satUnwindsUptoCard
end Rows
end Go.Proofs.YtdbbooibkiicnaaDoor
