/- The walks of the reference's Form, Reg, Plain, Same. -/
import Derived.Test.YtgmbicjcfhmcdaaJoin
import Derived.Test.YtgmbicjcfhmcdaaEq
import Derived.Test.YtgmbicjcfhmcdaaOwn
import Derived.Test.YtgmbicjcfhmcdaaSatM
import Derived.Test.YtgmbicjcfhmcdaaTab1
import Derived.Deep.RegionHeld3
import Derived.Deep.DeepCutAuto
import Derived.Test.YtgmbicjcfhmcdaaPileM
import Derived.Test.YtgmbicjcfhmcdaaSatB
import Derived.BigQuiet
import Derived.Deep.QuietTactic
import Derived.Test.YtgmbicjcfhmcdaaPlanB
set_option linter.unusedVariables false
set_option linter.unusedSimpArgs false
/-! The walks of the reference's Form, Reg, Plain, Same. -/
/-! The walks of the reference's Form, Reg, Plain, Same. -/
namespace Go.Proofs.Ytgmbicjcfhmcdaa
open Go.RowKit

end Go.Proofs.Ytgmbicjcfhmcdaa
/-! The walks of the reference's inside, places, Tests, Steps, number. -/
namespace Go.Proofs.Ytgmbicjcfhmcdaa
open Go.RowKit
end Go.Proofs.Ytgmbicjcfhmcdaa
/-! The walk of the reference's reach, kind by kind. -/
/-! The walk of the reference's reach, kind by kind. -/
namespace Go.Proofs.Ytgmbicjcfhmcdaa
open Go.RowKit
end Go.Proofs.Ytgmbicjcfhmcdaa
/-! The walk of the reference's reach at a test. -/
namespace Go.Proofs.Ytgmbicjcfhmcdaa
open Go.RowKit
end Go.Proofs.Ytgmbicjcfhmcdaa
/-! The walk of the reference's reach at a union. -/
namespace Go.Proofs.Ytgmbicjcfhmcdaa
open Go.RowKit
end Go.Proofs.Ytgmbicjcfhmcdaa
/-! The walk of the reference's reach at a sequence. -/
namespace Go.Proofs.Ytgmbicjcfhmcdaa
open Go.RowKit
end Go.Proofs.Ytgmbicjcfhmcdaa
/-! The walk of the reference's reach at a closure. -/
namespace Go.Proofs.Ytgmbicjcfhmcdaa
open Go.RowKit
end Go.Proofs.Ytgmbicjcfhmcdaa
/-! The reference's reach over a whole tree, and its Reach. -/
namespace Go.Proofs.Ytgmbicjcfhmcdaa
open Go.RowKit
theorem RdR.cle {F F' : Fz} {A : Option Addr} {n : Nat} {gs : List (List (BitVec 64))} (h : RdR F A n gs) (hle : CLe F F') : RdR F' A n gs :=
  ⟨h.1, fun i hi => let ⟨ad, Ai, ni, ci, e, h1, h2⟩ := h.2 i hi; ⟨ad, Ai, ni, ci, e, hle _ _ h1, h2.1, fun h0 => let ⟨a, e2, h3⟩ := h2.2 h0; ⟨a, e2, fun j u hu => hle _ _ (h3 j u hu)⟩⟩⟩
end Go.Proofs.Ytgmbicjcfhmcdaa
namespace Go.Proofs.Ytgmbicjcfhmcdaa
open Go.RowKit
attribute [local go_sem ↓] bits_and bits_or not_bits arith_add arith_sub shift_l shift_r shift_lu shift_ru shift_int conv_uu shift_l1 shift_l1u bits_and1 arith_sub1
attribute [local go_sem] uz_toNat uz_nonneg
theorem Wr.drewN {Gs : List Nat} {w w' : World} (h : Wr Gs w w') (n : Nat) : Wr Gs w (w'.drewN n) := ⟨h.os, h.tape, h.output, h.size, h.block⟩
end Go.Proofs.Ytgmbicjcfhmcdaa
/-! What sat says of one node, by its kind. -/
namespace Go.Proofs.Ytgmbicjcfhmcdaa
open Go.RowKit
theorem RetRow.congr {w w' : World} {ne : Nat} {r r' : Nat → Bool} {e : Ending} (h : RetRow w ne r e w') (hr : ∀ i, i < ne → r i = r' i) : RetRow w ne r' e w' :=
  let ⟨g, h1, h2, h3, h4⟩ := h; ⟨g, h1, h2, h3, by rw [← rowV_congr hr]; exact h4⟩
/-- What sat's walk over the nodes leans on. -/
structure SatC (F : Fz) (gx ga : Nat) (ss : List ByteArray) (es : List Evt) (An : Option Addr) (nn cn : Nat) (Ae : Option Addr) (ne ce : Nat) (l : List Nd) (t : Tr) (Al : Option Addr) (N cl : Nat) : Prop where
  tr : TruF F gx An nn cn Ae ne ce es
  nm : Rd F 1 An nn (ss.map Value.string)
  hcn : nn ≤ cn
  hnn : nn ≤ 1000000
  may : mayT ss es = true
  ids : ∀ e ∈ es, e.ids.length ≤ 1000000000
  ne1 : ne ≤ 1000
  ne0 : 0 < ne
  nodes : NodesF F Al N l
  hcl : N ≤ cl
  lN : l.length ≤ 1000
  tree : treeS l = some t
  x2 : F.cell ⟨gx, 2, none⟩ = some (.slice Al N cl)
  x3 : F.cell ⟨gx, 3, none⟩ = some (.slice (some ⟨ga, 0, none⟩) N N)
section
variable {F : Fz} {gx ga : Nat} {ss : List ByteArray} {es : List Evt} {An : Option Addr} {nn cn : Nat} {Ae : Option Addr} {ne ce : Nat} {l : List Nd} {t : Tr} {Al : Option Addr} {N cl : Nat}
end
end Go.Proofs.Ytgmbicjcfhmcdaa
/-! The walk of sat.All and sat.At. -/
namespace Go.Proofs.Ytgmbicjcfhmcdaa
open Go.RowKit
attribute [local go_sem ↓] Go.wp_at_zero Go.wp_at_succ
namespace AtR
variable {w w' : World} {ga N ne i : Nat} {isF : Nat → Bool} {S : Nat → Nat → Bool}
end AtR
theorem SatC.cle {F F' : Fz} {gx ga : Nat} {ss : List ByteArray} {es : List Evt} {An : Option Addr} {nn cn : Nat} {Ae : Option Addr} {ne ce : Nat} {l : List Nd} {t : Tr} {Al : Option Addr} {N cl : Nat} (h : SatC F gx ga ss es An nn cn Ae ne ce l t Al N cl) (hle : CLe F F') : SatC F' gx ga ss es An nn cn Ae ne ce l t Al N cl :=
  ⟨h.tr.cle hle, h.nm.cle hle, h.hcn, h.hnn, h.may, h.ids, h.ne1, h.ne0, h.nodes.cle hle, h.hcl, h.lN, h.tree, hle _ _ h.x2, hle _ _ h.x3⟩
end Go.Proofs.Ytgmbicjcfhmcdaa
/-! What sat.All and sat.At give of any trace, any list. -/
namespace Go.Proofs.Ytgmbicjcfhmcdaa
open Go.RowKit
end Go.Proofs.Ytgmbicjcfhmcdaa
