/- One pass: a node that looks back: its walk. -/
import Derived.Test.YtaomehlhopiblaaOnlN
import Derived.Test.YtaomehlhopiblaaOnlNd
import Derived.Test.YtaomehlhopiblaaOnlT
import Derived.Laws.EntriesVeiled
import Derived.Test.YtaomehlhopiblaaTab1
import Derived.Test.YtaomehlhopiblaaSizes
import Derived.Test.YtaomehlhopiblaaLex2
import Derived.Test.YtaomehlhopiblaaPlanG
import Derived.Test.YtaomehlhopiblaaNeedC
import Derived.Test.YtaomehlhopiblaaOwn
import Derived.Test.YtaomehlhopiblaaPileP
import Derived.Deep.RegionHeld3
import Derived.BigQuiet
import Derived.Deep.QuietTactic
import Derived.Test.YtaomehlhopiblaaJoin
set_option linter.unusedVariables false
set_option linter.unusedSimpArgs false
/-! One pass: a node that looks back: its walk. -/
namespace Go.Proofs.Ytaomehlhopiblaa
open Go.RowKit
attribute [local go_sem ↓] Go.wp_at_zero Go.wp_at_succ
set_option maxRecDepth 100000 in
set_option maxHeartbeats 2000000 in
theorem onode16_w {F : Fz} {w : World} (hF : Sat F w) (m M : Nat) (N gt go gx gw ga gr : Nat) (Al : Option Addr) (cl d : Nat) (hT : TuF F m N gt go gx gw ga gr Al cl d) (i : Nat) (name : ByteArray) (lo hi' : Int) (Ak : Option Addr) (nk ck : Nat)
    (Ys : List Nat) (p : Fn) (V : Win) (hBk : ∀ X, Below w.heap.size w X → Calls Try.prog 23 #[.pointer (some ⟨gt, 0, none⟩), .int .i64 (i : Nat), .agg #[.int .i64 lo, .int .i64 hi']] X (RetBk m M X gw i Ys p V)) :
    Calls Try.prog 10 #[.pointer (some ⟨gt, 0, none⟩), .int .i64 (i : Nat), .agg #[.int .i64 16, .string name, .int .i64 lo, .int .i64 hi', .slice Ak nk ck]] w (RetBk m M w gw i Ys p V) := by
  have hb0 := balloc w (.cells #[.int .i64 16, .string name, .int .i64 lo, .int .i64 hi', .slice Ak nk ck] 48)
  obtain ⟨c0, c1, c2, c3, c4⟩ := blk5 (Blk.new w 48 #[.int .i64 16, .string name, .int .i64 lo, .int .i64 hi', .slice Ak nk ck])
  have y0 := (hF.below hb0).cell hT.o
  have y1 := (hF.below hb0).cell hT.n
  have HBK := Lib.hid hBk
  clear hF hT hBk
  go_enter Try.func10, Try.ntmps10
  go_wp2_with (go_at_call 23; refine (HBK.out _ hb0).mono ?_; rintro e w1 ⟨v, w2, A, n, c, rfl, hb, rfl, hc, hv, hk⟩)
  go_ret
  exact ⟨v, w2, A, n, c, rfl, bthen hb0 hb, rfl, hc, hv, hk⟩
end Go.Proofs.Ytaomehlhopiblaa
/-! The walks of sat's closures: what a kid says, and what is not so. -/
namespace Go.Proofs.Ytaomehlhopiblaa
open Go.RowKit
/-- A row of Booleans, frozen. -/
def RowF (F : Fz) (g n : Nat) (r : Nat → Bool) : Prop := F g = some (.cells (rowV n r) 4 (0, 0))
theorem RowF.cell {F : Fz} {g n : Nat} {r : Nat → Bool} (h : RowF F g n r) {j : Nat} (hj : j < n) : F.cell ⟨g, j, none⟩ = some (.bool (r j)) := by
  unfold RowF at h
  unfold Fz.cell
  rw [h]
  show (rowV n r)[j]? = _
  exact get_rowV hj
/-- What of memory a node's kid says: x's box in gb, the node's in gn, the table at in ga; kid number k is node q, and its row r stands in block g. -/
structure KidF (F : Fz) (gx gb gn ga N : Nat) (ak : Addr) (nk ck : Nat) (k q g n : Nat) (r : Nat → Bool) : Prop where
  b0 : F.cell ⟨gb, 0, none⟩ = some (.pointer (some ⟨gx, 0, none⟩))
  x3 : F.cell ⟨gx, 3, none⟩ = some (.slice (some ⟨ga, 0, none⟩) N N)
  n4 : F.cell ⟨gn, 4, none⟩ = some (.slice (some ak) nk ck)
  kk : k < nk
  kd : F.cell (ak.add k) = some (.int .i64 (q : Nat))
  qN : q < N
  at_ : F.cell ⟨ga, q, none⟩ = some (.slice (some ⟨g, 0, none⟩) n n)
  row : RowF F g n r
end Go.Proofs.Ytaomehlhopiblaa
/-! The walk of sat's near. -/
namespace Go.Proofs.Ytaomehlhopiblaa
open Go.RowKit
end Go.Proofs.Ytaomehlhopiblaa
/-! The walks of sat's temporal logic. -/
namespace Go.Proofs.Ytaomehlhopiblaa
open Go.RowKit
theorem TruF.cle {F F' : Fz} {gx : Nat} {An : Option Addr} {nn cn : Nat} {Ae : Option Addr} {ne ce : Nat} {es : List Evt} (h : TruF F gx An nn cn Ae ne ce es) (hle : CLe F F') : TruF F' gx An nn cn Ae ne ce es := ⟨hle _ _ h.t0, hle _ _ h.t1, h.evs.cle hle⟩
theorem KidF.mono {F F' : Fz} {gx gb gn ga N : Nat} {ak : Addr} {nk ck k q g n : Nat} {r : Nat → Bool} (h : KidF F gx gb gn ga N ak nk ck k q g n r) (hle : CLe F F') (hb : ∀ b o, F b = some o → F' b = some o) : KidF F' gx gb gn ga N ak nk ck k q g n r :=
  ⟨hle _ _ h.b0, hle _ _ h.x3, hle _ _ h.n4, h.kk, hle _ _ h.kd, h.qN, hle _ _ h.at_, hb _ _ h.row⟩
theorem KidF.heap {F : Fz} {w : World} {gx gb gn ga N : Nat} {ak : Addr} {nk ck k q g n : Nat} {r : Nat → Bool} (h : KidF F gx gb gn ga N ak nk ck k q g n r) (hF : Sat F w) : KidF (heapF w) gx gb gn ga N ak nk ck k q g n r := h.mono hF.cle (fun b o e => hF b o e)
end Go.Proofs.Ytaomehlhopiblaa
/-! The walks of sat's logic. -/
namespace Go.Proofs.Ytaomehlhopiblaa
open Go.RowKit
end Go.Proofs.Ytaomehlhopiblaa
/-! The walks of sat's match: what a point says by the ways. -/
namespace Go.Proofs.Ytaomehlhopiblaa
open Go.RowKit
/-- The ways lie in memory: the variable in gw, the table in gs. -/
structure WayF (F : Fz) (gw gs ne : Nat) (m : Mx) : Prop where
  w0 : F.cell ⟨gw, 0, none⟩ = some (.slice (some ⟨gs, 0, none⟩) ne ne)
  rows : ∀ i, i < ne → F.cell ⟨gs, i, none⟩ = some (.slice (some ⟨gs + 1 + i, 0, none⟩) ne ne)
  vals : ∀ i j, i < ne → j < ne → F.cell ⟨gs + 1 + i, j, none⟩ = some (.bool (m i j))
theorem WayF.cle {F F' : Fz} {gw gs ne : Nat} {m : Mx} (h : WayF F gw gs ne m) (hle : CLe F F') : WayF F' gw gs ne m := ⟨hle _ _ h.w0, fun i hi => hle _ _ (h.rows i hi), fun i j hi hj => hle _ _ (h.vals i j hi hj)⟩
end Go.Proofs.Ytaomehlhopiblaa
/-! The walks of sat's time and logic: closures are made, and fill goes over the points. -/
namespace Go.Proofs.Ytaomehlhopiblaa
open Go.RowKit
/-- A row of Booleans of the call's own comes back. -/
def RetRow (w : World) (ne : Nat) (r : Nat → Bool) (e : Ending) (w' : World) : Prop := ∃ g, e = .returned (.slice (some ⟨g, 0, none⟩) ne ne) ∧ Below w.heap.size w w' ∧ w.heap.size ≤ g ∧ Blk w' g 4 (rowV ne r)
end Go.Proofs.Ytaomehlhopiblaa
/-! The walk of sat's match, over what ways gives. -/
namespace Go.Proofs.Ytaomehlhopiblaa
open Go.RowKit
end Go.Proofs.Ytaomehlhopiblaa
/-! Words that tell which tests hold: plain lemmas for sat's ways. -/
namespace Go.Proofs.Ytaomehlhopiblaa
end Go.Proofs.Ytaomehlhopiblaa
/-! The walks of package trace: names, ids, what may be, what holds. -/
namespace Go.Proofs.Ytaomehlhopiblaa
open Go.RowKit
/-- The first of m places from i on where p is so; none: -1. -/
def firstI (p : Nat → Bool) : Nat → Nat → Int
  | 0, _ => -1
  | m + 1, i => if p i = true then (i : Int) else firstI p m (i + 1)
/-- All of m places from i on are so. -/
def allI (p : Nat → Bool) : Nat → Nat → Bool
  | 0, _ => true
  | m + 1, i => p i && allI p m (i + 1)
def nameAt (ss : List ByteArray) (i : Nat) : Bool := match ss[i]? with | some s => nameS s.data.toList && !hasS (ss.take i) s | none => true
/-- May these be a log's names? -/
def namesOk (ss : List ByteArray) : Bool := decide (ss.length ≤ 64) && allI (nameAt ss) ss.length 0
def idAt (zs : List Int) (p : Int) (i : Nat) : Bool := match zs[i]? with | some z => decide (0 ≤ z) && (decide (z < p) && (decide (i = 0) || decide (zs.getD (i - 1) 0 < z))) | none => true
/-- Are these ids of p names, rising? -/
def idsOk (zs : List Int) (p : Int) : Bool := allI (idAt zs p) zs.length 0
def evtAt (p : Nat) (es : List Evt) (i : Nat) : Bool := match es[i]? with | some e => idsOk e.ids p && (decide (i = 0) || decide (timeE es (i - 1) ≤ e.time)) | none => true
/-- May the trace be? -/
def mayT (ss : List ByteArray) (es : List Evt) : Bool := namesOk ss && allI (evtAt ss.length es) es.length 0
end Go.Proofs.Ytaomehlhopiblaa
/-! Truth of one node by its kind, as the program tells it; a test's place: plain lemmas. -/
namespace Go.Proofs.Ytaomehlhopiblaa
end Go.Proofs.Ytaomehlhopiblaa
/-! The tables that paths.Reach keeps, in memory. -/
namespace Go.Proofs.Ytaomehlhopiblaa
open Go.RowKit
namespace AtB
variable {w w' : World} {g0 N n H : Nat} {es : List Ent}
end AtB
namespace AtP
variable {w w' : World} {g0 N n p g : Nat} {es : List Ent} {m m' : Mx}
end AtP
theorem cell_set_ne {w : World} {p a : Addr} {u v : Value} (h : p ≠ a) (hc : w.cell? a = some v) : (w.setCell p u).cell? a = some v := by rw [World.cell?_setCell_other (h := h), hc]
end Go.Proofs.Ytaomehlhopiblaa
/-! The walk of paths.Reach. -/
namespace Go.Proofs.Ytaomehlhopiblaa
open Go.RowKit
end Go.Proofs.Ytaomehlhopiblaa
/-! What both Reaches leave, and the walk of law 14's Same. -/
namespace Go.Proofs.Ytaomehlhopiblaa
open Go.RowKit
end Go.Proofs.Ytaomehlhopiblaa
namespace Go.Proofs.Ytaomehlhopiblaa
open Go.RowKit
attribute [local go_sem ↓] bits_and bits_or not_bits arith_add arith_sub shift_l shift_r shift_lu shift_ru shift_int conv_uu shift_l1 shift_l1u bits_and1 arith_sub1
attribute [local go_sem] uz_toNat uz_nonneg
theorem Wr.drewN {Gs : List Nat} {w w' : World} (h : Wr Gs w w') (n : Nat) : Wr Gs w (w'.drewN n) := ⟨h.os, h.tape, h.output, h.size, h.block⟩
/-- The rows made so far of what tests hold: the table in gv, of ne rows of L words, i of them made. -/
def VB (w : World) (gv ne L i : Nat) (W : Nat → List (BitVec 64)) : Prop :=
  ∃ cs : List Value, Blk w gv 49 cs.toArray ∧ cs.length = ne ∧ ∀ j, j < i → ∃ g, cs[j]? = some (.slice (some ⟨g, 0, none⟩) L L) ∧ gv < g ∧ Blk w g 22 ((W j).map u).toArray
theorem VB.new (w : World) (ne L : Nat) (W : Nat → List (BitVec 64)) : VB (w.alloc (.cells (zeros (.slice none 0 0) ne) 49)) w.heap.size ne L 0 W :=
  ⟨List.replicate ne (.slice none 0 0), Blk.new w _ _, by simp, fun j hj => by omega⟩
theorem VB.wr {w w' : World} {gv ne L i gi : Nat} {W : Nat → List (BitVec 64)} (h : VB w gv ne L i W) (hw : Wr [gi] w w') (hg : w.heap.size ≤ gi) : VB w' gv ne L i W := by
  obtain ⟨cs, h1, h2, h3⟩ := h
  have h4 := Blk.lt h1
  refine ⟨cs, hw.blk h1 (by simp; omega), h2, fun j hj => ?_⟩
  obtain ⟨g, h5, h6, h7⟩ := h3 j hj
  have h8 := Blk.lt h7
  exact ⟨g, h5, h6, hw.blk h7 (by simp; omega)⟩
theorem VB.soft {w : World} {gv ne L i : Nat} {W : Nat → List (BitVec 64)} (h : VB w gv ne L i W) (k : Nat) : w.frozen? ⟨gv, k, none⟩ = false := let ⟨_, h1, _⟩ := h; h1.frozen k
theorem VB.lt {w : World} {gv ne L i : Nat} {W : Nat → List (BitVec 64)} (h : VB w gv ne L i W) : gv < w.heap.size := let ⟨_, h1, _⟩ := h; h1.lt
/-- A row is laid: its place in the table, the rows so far. -/
theorem VB.put {w : World} {gv ne L i : Nat} {W : Nat → List (BitVec 64)} (h : VB w gv ne L i W) (hi : i < ne) (o : Obj) (g : Nat) (hg : g = w.heap.size) :
    ∃ w', w' = (w.alloc o).setCell ⟨gv, i, none⟩ (.slice (some ⟨g, 0, none⟩) L L) ∧ w'.cell? ⟨gv, i, none⟩ = some (.slice (some ⟨g, 0, none⟩) L L) ∧
      ∀ w'', Wr [g] w' w'' → Blk w'' g 22 ((W i).map u).toArray → VB w'' gv ne L (i + 1) W := by
  subst hg
  obtain ⟨cs, h1, h2, h3⟩ := h
  have h4 := Blk.lt h1
  have hk : Blk ((w.alloc o).setCell ⟨gv, i, none⟩ (.slice (some ⟨w.heap.size, 0, none⟩) L L)) gv 49 (cs.set i (.slice (some ⟨w.heap.size, 0, none⟩) L L)).toArray := by
    have := (h1.alloc o).set_ i (.slice (some ⟨w.heap.size, 0, none⟩) L L)
    simpa using this
  refine ⟨_, rfl, by rw [hk.cell]; simp [h2, hi], fun w'' hw hr => ⟨cs.set i (.slice (some ⟨w.heap.size, 0, none⟩) L L), hw.blk hk (by simp; omega), by simp [h2], fun j hj => ?_⟩⟩
  by_cases e : j = i
  · subst e
    exact ⟨w.heap.size, by simp [h2, hi], by omega, hr⟩
  · obtain ⟨g, h5, h6, h7⟩ := h3 j (by omega)
    have h8 := Blk.lt h7
    refine ⟨g, by rw [List.getElem?_set_ne (fun x => e x.symm)]; exact h5, h6, ?_⟩
    exact hw.blk ((h7.alloc o).far (p := ⟨gv, i, none⟩) (by show g ≠ gv; omega) _) (by simp; omega)
end Go.Proofs.Ytaomehlhopiblaa
/-! What sat says of one node, by its kind. -/
namespace Go.Proofs.Ytaomehlhopiblaa
open Go.RowKit
theorem RetRow.congr {w w' : World} {ne : Nat} {r r' : Nat → Bool} {e : Ending} (h : RetRow w ne r e w') (hr : ∀ i, i < ne → r i = r' i) : RetRow w ne r' e w' :=
  let ⟨g, h1, h2, h3, h4⟩ := h; ⟨g, h1, h2, h3, by rw [← rowV_congr hr]; exact h4⟩
/-- What sat's walk over the nodes leans on. -/
structure SatC (F : Fz) (gx ga : Nat) (ss : List ByteArray) (es : List Evt) (An : Option Addr) (nn cn : Nat) (Ae : Option Addr) (ne ce : Nat) (l : List Nd) (t : Tr) (Al : Option Addr) (N cl : Nat) : Prop where
  tr : TruF F gx An nn cn Ae ne ce es
  nm : Rd F 1 An nn (ss.map Value.string)
  hcn : nn ≤ cn
  hnn : nn ≤ 1000000
  may : mayT ss es = true
  ids : ∀ e ∈ es, e.ids.length ≤ 1000000000
  ne1 : ne ≤ 1000
  ne0 : 0 < ne
  nodes : NodesF F Al N l
  hcl : N ≤ cl
  lN : l.length ≤ 1000
  tree : treeS l = some t
  x2 : F.cell ⟨gx, 2, none⟩ = some (.slice Al N cl)
  x3 : F.cell ⟨gx, 3, none⟩ = some (.slice (some ⟨ga, 0, none⟩) N N)
section
variable {F : Fz} {gx ga : Nat} {ss : List ByteArray} {es : List Evt} {An : Option Addr} {nn cn : Nat} {Ae : Option Addr} {ne ce : Nat} {l : List Nd} {t : Tr} {Al : Option Addr} {N cl : Nat}
end
end Go.Proofs.Ytaomehlhopiblaa
/-! The walk of sat.All and sat.At. -/
namespace Go.Proofs.Ytaomehlhopiblaa
open Go.RowKit
attribute [local go_sem ↓] Go.wp_at_zero Go.wp_at_succ
namespace AtR
variable {w w' : World} {ga N ne i : Nat} {isF : Nat → Bool} {S : Nat → Nat → Bool}
end AtR
theorem SatC.cle {F F' : Fz} {gx ga : Nat} {ss : List ByteArray} {es : List Evt} {An : Option Addr} {nn cn : Nat} {Ae : Option Addr} {ne ce : Nat} {l : List Nd} {t : Tr} {Al : Option Addr} {N cl : Nat} (h : SatC F gx ga ss es An nn cn Ae ne ce l t Al N cl) (hle : CLe F F') : SatC F' gx ga ss es An nn cn Ae ne ce l t Al N cl :=
  ⟨h.tr.cle hle, h.nm.cle hle, h.hcn, h.hnn, h.may, h.ids, h.ne1, h.ne0, h.nodes.cle hle, h.hcl, h.lN, h.tree, hle _ _ h.x2, hle _ _ h.x3⟩
end Go.Proofs.Ytaomehlhopiblaa
/-! What sat.All and sat.At give of any trace, any list. -/
namespace Go.Proofs.Ytaomehlhopiblaa
open Go.RowKit
end Go.Proofs.Ytaomehlhopiblaa
/-! What has none of the future's signs hangs on the points so far alone, what has none of the past's on those from here on: plain. -/
namespace Go.Proofs.Ytaomehlhopiblaa
end Go.Proofs.Ytaomehlhopiblaa
/-! A trace's first events, its last ones: plain, and in memory. -/
namespace Go.Proofs.Ytaomehlhopiblaa
/-- The slice from event k on. -/
theorem EvsF.drop {F : Fz} {ad : Addr} {n : Nat} {es : List Evt} (h : EvsF F (some ad) n es) {k : Nat} (hk : k ≤ n) : EvsF F (some (ad.add (k * 2))) (n - k) (es.drop k) := by
  have hl := h.1
  refine ⟨by simp; omega, fun h0 => ⟨_, rfl, fun i hi => ?_⟩⟩
  have hi' : k + i < es.length := by simp at hi; omega
  obtain ⟨ad', e, hh⟩ := h.2 (by omega)
  injection e with e
  subst e
  obtain ⟨h1, Ai, ci, h2, h3, h4, h5⟩ := hh (k + i) hi'
  have e : (es.drop k)[i] = es[k + i]'hi' := by simp
  rw [e]
  refine ⟨h1, Ai, ci, h2, h3, ?_, ?_⟩
  · rw [add_of_add ad (k * 2) (i * 2), show k * 2 + i * 2 = (k + i) * 2 by omega]; exact h4
  · rw [add_of_add ad (k * 2) (i * 2), show k * 2 + i * 2 = (k + i) * 2 by omega]; exact h5
end Go.Proofs.Ytaomehlhopiblaa
/-! Plain formulas that are valid are such as a pass takes; times of a trace rise: plain. -/
namespace Go.Proofs.Ytaomehlhopiblaa
theorem field_arity {n : Nd} (h : fieldsS n = true) : (n.kids.length : Int) = arityS n.kind ∧ (timedS n.kind = true → spanS n.lo n.hi = true) := by
  unfold fieldsS at h
  simp only [Bool.and_eq_true, decide_eq_true_eq] at h
  refine ⟨h.2, fun e => ?_⟩
  have := h.1.2
  rwa [if_pos e] at this
/-- No node of a tree is sugar. -/
def NoSug : Tr → Prop
  | .leaf h => sugarS h.kind = false
  | .un h a => sugarS h.kind = false ∧ NoSug a
  | .bin h a b => sugarS h.kind = false ∧ NoSug a ∧ NoSug b
theorem sugar_not {k : Int} (h : sugarS k = false) : ¬ (7 ≤ k ∧ k ≤ 15) := by
  unfold sugarS at h
  simp only [Bool.or_eq_false_iff, decide_eq_false_iff_not] at h
  omega
theorem arity_zero {k : Int} (h : (0 : Int) = arityS k) : k = 1 ∨ k = 2 ∨ k = 3 ∨ k = 18 := by
  unfold arityS at h
  split at h
  · omega
  · split at h
    · omega
    · split at h <;> omega
theorem arity_one {k : Int} (h : (1 : Int) = arityS k) : k = 4 ∨ (7 ≤ k ∧ k ≤ 17) ∨ k = 19 ∨ k = 22 := by
  unfold arityS at h
  split at h
  · omega
  · split at h
    · omega
    · split at h <;> omega
theorem arity_two {k : Int} (h : (2 : Int) = arityS k) : k = 5 ∨ k = 6 ∨ (7 ≤ k ∧ k ≤ 15) ∨ k = 20 ∨ k = 21 := by
  unfold arityS at h
  split at h
  · omega
  · split at h
    · omega
    · split at h <;> omega
theorem reg_no {k : Int} (h : k < 18) : regS k = false := decide_eq_false (by omega)
theorem reg_yes {k : Int} (h : 18 ≤ k) : regS k = true := decide_eq_true h
theorem wants_is {k : Int} : wantsS k = true ↔ k = 16 ∨ k = 17 ∨ k = 20 ∨ k = 21 ∨ k = 22 := decide_eq_true_iff
theorem pl_valid : ∀ (t : Tr), validT t = true → NoSug t → Pl (!regS t.root.kind) t
  | .leaf h, hv, hs => by
    obtain ⟨e, _⟩ := field_arity (n := { h with kids := [] }) hv
    have hk := arity_zero (k := h.kind) e
    show Pl (!regS h.kind) (.leaf h)
    by_cases k18 : h.kind = 18
    · rw [reg_yes (by omega)]; exact k18
    · rw [reg_no (by omega)]
      show h.kind = 1 ∨ h.kind = 2 ∨ h.kind = 3
      omega
  | .un h a, hv, hs => by
    unfold validT at hv
    simp only [Bool.and_eq_true, beq_iff_eq] at hv
    obtain ⟨⟨h1, h2⟩, h3⟩ := hv
    obtain ⟨e, e2⟩ := field_arity h1
    have hk := arity_one (k := h.kind) e
    have hn := sugar_not hs.1
    have ih := pl_valid a h3 hs.2
    rw [h2] at ih
    have hwt := wants_is (k := h.kind)
    show Pl (!regS h.kind) (.un h a)
    have hkk : h.kind = 4 ∨ h.kind = 16 ∨ h.kind = 17 ∨ h.kind = 19 ∨ h.kind = 22 := by omega
    have hw : wantsS h.kind = true ∨ wantsS h.kind = false := by cases wantsS h.kind <;> simp
    rcases hkk with k | k | k | k | k
    · rw [show wantsS h.kind = false by rcases hw with w | w; exact absurd (hwt.1 w) (by omega); exact w] at ih
      rw [reg_no (by omega)]
      exact .inl ⟨k, ih⟩
    · rw [hwt.2 (.inl k)] at ih
      rw [reg_no (by omega)]
      exact .inr ⟨.inl k, e2 (decide_eq_true (by show 8 ≤ h.kind ∧ h.kind ≤ 17; omega)), ih⟩
    · rw [hwt.2 (.inr (.inl k))] at ih
      rw [reg_no (by omega)]
      exact .inr ⟨.inr k, e2 (decide_eq_true (by show 8 ≤ h.kind ∧ h.kind ≤ 17; omega)), ih⟩
    · rw [show wantsS h.kind = false by rcases hw with w | w; exact absurd (hwt.1 w) (by omega); exact w] at ih
      rw [reg_yes (by omega)]
      exact .inl ⟨k, ih⟩
    · rw [hwt.2 (.inr (.inr (.inr (.inr k))))] at ih
      rw [reg_yes (by omega)]
      exact .inr ⟨k, ih⟩
  | .bin h a b, hv, hs => by
    unfold validT at hv
    simp only [Bool.and_eq_true, beq_iff_eq] at hv
    obtain ⟨⟨⟨⟨h1, h2⟩, h3⟩, h4⟩, h5⟩ := hv
    obtain ⟨e, _⟩ := field_arity h1
    have hk := arity_two (k := h.kind) e
    have hn := sugar_not hs.1
    have iha := pl_valid a h4 hs.2.1
    have ihb := pl_valid b h5 hs.2.2
    rw [h2] at iha
    rw [h3] at ihb
    have hwt := wants_is (k := h.kind)
    have hw : wantsS h.kind = true ∨ wantsS h.kind = false := by cases wantsS h.kind <;> simp
    show Pl (!regS h.kind) (.bin h a b)
    have hkk : (h.kind = 5 ∨ h.kind = 6) ∨ (h.kind = 20 ∨ h.kind = 21) := by omega
    rcases hkk with k | k
    · rw [show wantsS h.kind = false by rcases hw with w | w; exact absurd (hwt.1 w) (by omega); exact w] at iha ihb
      rw [reg_no (by omega)]
      exact ⟨k, iha, ihb⟩
    · rw [hwt.2 (by omega)] at iha ihb
      rw [reg_yes (by omega)]
      exact ⟨k, iha, ihb⟩
end Go.Proofs.Ytaomehlhopiblaa
