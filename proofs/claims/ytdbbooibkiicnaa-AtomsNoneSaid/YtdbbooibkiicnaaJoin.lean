/- What a node over some lists is. Plain lemmas. -/
import Derived.Test.YtdbbooibkiicnaaTreeP
import Derived.Test.YtdbbooibkiicnaaMay
import Derived.Test.YtdbbooibkiicnaaOver
set_option linter.unusedVariables false
set_option linter.unusedSimpArgs false
/-! What a node over some lists is. Plain lemmas. -/
namespace Go.Proofs.Ytdbbooibkiicnaa
end Go.Proofs.Ytdbbooibkiicnaa
/-! The walk of tree.Join. -/
namespace Go.Proofs.Ytdbbooibkiicnaa
open Go.RowKit
/-- A list of lists of nodes, all frozen. -/
def RowsN (F : Fz) (A : Option Addr) (k : Nat) (ls : List (List Nd)) : Prop :=
  ls.length = k ∧ (0 < k → ∃ ad, A = some ad ∧ ∀ i (h : i < ls.length), ∃ Ai ci, F.cell (ad.add i) = some (.slice Ai ls[i].length ci) ∧ ls[i].length ≤ ci ∧ NodesF F Ai ls[i].length ls[i])
theorem RowsN.cle {F F' : Fz} {A : Option Addr} {k : Nat} {ls : List (List Nd)} (h : RowsN F A k ls) (hle : CLe F F') : RowsN F' A k ls :=
  ⟨h.1, fun hk => let ⟨ad, e, hc⟩ := h.2 hk; ⟨ad, e, fun i hi => let ⟨Ai, ci, h1, h2, h3⟩ := hc i hi; ⟨Ai, ci, hle _ _ h1, h2, h3.cle hle⟩⟩⟩
end Go.Proofs.Ytdbbooibkiicnaa
