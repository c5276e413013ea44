/- Nodes in memory; the walk of tree.fields. -/
import Derived.Test.YtgmbicjcfhmcdaaLex2
set_option linter.unusedVariables false
set_option linter.unusedSimpArgs false
/-! Nodes in memory; the walk of tree.fields. -/
namespace Go.Proofs.Ytgmbicjcfhmcdaa
open Go.RowKit

theorem quiet_eq {P : Program} {f : FuncId} {args : Array Value} {w : World} {n : Nat} {v : Value}
    (h : Calls P f args (w.drewN n) fun e w' => e = .returned v ∧ w.drewN n = w') : Calls P f args (w.drewN n) fun e w'' => e = .returned v ∧ ∃ m, w'' = w.drewN m :=
  h.mono fun _ _ ⟨he, hm⟩ => ⟨he, n, hm.symm⟩
end Go.Proofs.Ytgmbicjcfhmcdaa
/-! Lists of nodes in memory; the walk of tree.sizes. -/
namespace Go.Proofs.Ytgmbicjcfhmcdaa
open Go.RowKit

/-- The cells of a node at p. -/
def ndCells (f : Addr → Option Value) (p : Addr) (n : Nd) (A : Option Addr) (c : Nat) : Prop :=
  f p = some (.int .i64 n.kind) ∧ f ⟨p.block, p.off + 1, none⟩ = some (.string n.name) ∧ f ⟨p.block, p.off + 2, none⟩ = some (.int .i64 n.lo) ∧
    f ⟨p.block, p.off + 3, none⟩ = some (.int .i64 n.hi) ∧ f ⟨p.block, p.off + 4, none⟩ = some (.slice A n.kids.length c)
/-- The list of nodes at A, frozen with its kids. -/
def NodesF (F : Fz) (A : Option Addr) (k : Nat) (l : List Nd) : Prop :=
  l.length = k ∧ (0 < k → ∃ ad, A = some ad ∧ ∀ i (h : i < l.length), ∃ Ak ck, l[i].kids.length ≤ ck ∧ Rd F 1 Ak l[i].kids.length (l[i].kids.map (Value.int .i64)) ∧ ndCells F.cell (ad.add (i * 5)) l[i] Ak ck)
theorem ndCells.mono {f g : Addr → Option Value} {p : Addr} {n : Nd} {A : Option Addr} {c : Nat} (h : ndCells f p n A c) (hfg : ∀ a v, f a = some v → g a = some v) : ndCells g p n A c :=
  ⟨hfg _ _ h.1, hfg _ _ h.2.1, hfg _ _ h.2.2.1, hfg _ _ h.2.2.2.1, hfg _ _ h.2.2.2.2⟩
theorem ndCells.sat {F : Fz} {w : World} {p : Addr} {n : Nd} {A : Option Addr} {c : Nat} (h : ndCells F.cell p n A c) (hF : Sat F w) : ndCells w.cell? p n A c := h.mono fun _ _ h => hF.cell h
theorem makeI {w : World} (n : Nat) (hn : n ≤ 100000) : (Instr.makeSlice 29 (.int .i64 (n : Int)) (.int .i64 (n : Int))).run Try.prog w = .ok (.slice (some ⟨w.heap.size, 0, none⟩) n n) (w.alloc (.cells (zeros (.int .i64 0) n) 3)) :=
  run_make1 _ _ _ 8 Try.underlying29 (by kernel_rfl) rfl n (by omega) (by omega) w
end Go.Proofs.Ytgmbicjcfhmcdaa
