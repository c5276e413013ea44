/- The walks of the reference's Form, Reg, Plain, Same. -/
import Derived.Test.YtgmbicjcfhmcdaaJoin
import Derived.Test.YtgmbicjcfhmcdaaEq
import Derived.Test.YtgmbicjcfhmcdaaOwn
import Derived.Test.YtgmbicjcfhmcdaaSq
import Derived.Test.YtgmbicjcfhmcdaaTab1
import Derived.Deep.RegionHeld3
import Derived.Deep.DeepCutAuto
import Derived.Test.YtgmbicjcfhmcdaaPileM
import Derived.Test.YtgmbicjcfhmcdaaSatB
import Derived.BigQuiet
import Derived.Deep.QuietTactic
import Derived.Test.YtgmbicjcfhmcdaaPlanB
set_option linter.unusedVariables false
set_option linter.unusedSimpArgs false
/-! The walks of the reference's Form, Reg, Plain, Same. -/
/-! The walks of the reference's Form, Reg, Plain, Same. -/
namespace Go.Proofs.Ytgmbicjcfhmcdaa
open Go.RowKit

end Go.Proofs.Ytgmbicjcfhmcdaa
/-! The walks of the reference's inside, places, Tests, Steps, number. -/
namespace Go.Proofs.Ytgmbicjcfhmcdaa
open Go.RowKit
end Go.Proofs.Ytgmbicjcfhmcdaa
/-! The walk of the reference's reach, kind by kind. -/
/-! The walk of the reference's reach, kind by kind. -/
namespace Go.Proofs.Ytgmbicjcfhmcdaa
open Go.RowKit
end Go.Proofs.Ytgmbicjcfhmcdaa
/-! The walk of the reference's reach at a test. -/
namespace Go.Proofs.Ytgmbicjcfhmcdaa
open Go.RowKit
end Go.Proofs.Ytgmbicjcfhmcdaa
/-! The walk of the reference's reach at a union. -/
namespace Go.Proofs.Ytgmbicjcfhmcdaa
open Go.RowKit
end Go.Proofs.Ytgmbicjcfhmcdaa
/-! The walk of the reference's reach at a sequence. -/
namespace Go.Proofs.Ytgmbicjcfhmcdaa
open Go.RowKit
end Go.Proofs.Ytgmbicjcfhmcdaa
/-! The walk of the reference's reach at a closure. -/
namespace Go.Proofs.Ytgmbicjcfhmcdaa
open Go.RowKit
end Go.Proofs.Ytgmbicjcfhmcdaa
/-! The reference's reach over a whole tree, and its Reach. -/
namespace Go.Proofs.Ytgmbicjcfhmcdaa
open Go.RowKit
theorem RdR.cle {F F' : Fz} {A : Option Addr} {n : Nat} {gs : List (List (BitVec 64))} (h : RdR F A n gs) (hle : CLe F F') : RdR F' A n gs :=
  ⟨h.1, fun i hi => let ⟨ad, Ai, ni, ci, e, h1, h2⟩ := h.2 i hi; ⟨ad, Ai, ni, ci, e, hle _ _ h1, h2.1, fun h0 => let ⟨a, e2, h3⟩ := h2.2 h0; ⟨a, e2, fun j u hu => hle _ _ (h3 j u hu)⟩⟩⟩
end Go.Proofs.Ytgmbicjcfhmcdaa
namespace Go.Proofs.Ytgmbicjcfhmcdaa
open Go.RowKit
attribute [local go_sem ↓] bits_and bits_or not_bits arith_add arith_sub shift_l shift_r shift_lu shift_ru shift_int conv_uu shift_l1 shift_l1u bits_and1 arith_sub1
attribute [local go_sem] uz_toNat uz_nonneg
theorem Wr.drewN {Gs : List Nat} {w w' : World} (h : Wr Gs w w') (n : Nat) : Wr Gs w (w'.drewN n) := ⟨h.os, h.tape, h.output, h.size, h.block⟩
end Go.Proofs.Ytgmbicjcfhmcdaa
