/- The walk of the reference's Part. -/
import Derived.Test.YtdbbooibkiicnaaPart
import Derived.Test.YtdbbooibkiicnaaNodes2
import Derived.Test.YtdbbooibkiicnaaRMay
set_option linter.unusedVariables false
set_option linter.unusedSimpArgs false
namespace Go.Proofs.Ytdbbooibkiicnaa
open Go.RowKit
theorem shift_sub (d : Int) (ks : List Int) : ks.map (· - d) = ks.map (· + -d) := by
  apply List.map_congr_left
  intro k _
  omega
theorem newNd (n n' : Nd) (A : Option Addr) (c : Nat) (e : n' = { n with kids := n'.kids }) (hl : n'.kids.length = n.kids.length) (W : World) :
    Blk (W.alloc (.cells #[.int .i64 n.kind, .string n.name, .int .i64 n.lo, .int .i64 n.hi, .slice A n.kids.length c] 29)) W.heap.size 29 #[.int .i64 n'.kind, .string n'.name, .int .i64 n'.lo, .int .i64 n'.hi, .slice A n'.kids.length c] := by
  rw [hl, show n'.kind = n.kind by rw [e], show n'.name = n.name by rw [e], show n'.lo = n.lo by rw [e], show n'.hi = n.hi by rw [e]]
  exact Blk.new _ _ _
end Go.Proofs.Ytdbbooibkiicnaa
