/- Tables of Booleans in memory. -/
import Derived.Test.YtaomehlhopiblaaPathsP
import Derived.Test.YtaomehlhopiblaaMem
import Derived.Deep.RegionWith
import Derived.BigQuiet
import Derived.Deep.QuietTactic
import Derived.Test.YtaomehlhopiblaaHand
import Derived.Test.YtaomehlhopiblaaBoundA
import Derived.Test.YtaomehlhopiblaaOwn
import Derived.Deep.RegionHeld3
import Derived.Test.YtaomehlhopiblaaPlanP
set_option linter.unusedVariables false
set_option linter.unusedSimpArgs false
/-! Tables of Booleans in memory. -/
namespace Go.Proofs.Ytaomehlhopiblaa
open Go.RowKit
def rowV (n : Nat) (r : Nat → Bool) : Array Value := ((List.range n).map fun j => Value.bool (r j)).toArray
theorem get_rowV {n : Nat} {r : Nat → Bool} {j : Nat} (hj : j < n) : (rowV n r)[j]? = some (.bool (r j)) := by simp [rowV, hj]
theorem rowV_congr {n : Nat} {r r' : Nat → Bool} (h : ∀ j, j < n → r j = r' j) : rowV n r = rowV n r' := by
  unfold rowV
  congr 1
  exact List.map_congr_left fun j hj => by rw [h j (by simpa using hj)]
namespace SqF
variable {F F' : Fz} {g n : Nat} {m m' : Mx} {w w' : World}
end SqF
end Go.Proofs.Ytaomehlhopiblaa
/-! The walks of the functions on tables of Booleans. -/
namespace Go.Proofs.Ytaomehlhopiblaa
open Go.RowKit
end Go.Proofs.Ytaomehlhopiblaa
/-! The walk of paths.closure. -/
namespace Go.Proofs.Ytaomehlhopiblaa
open Go.RowKit
end Go.Proofs.Ytaomehlhopiblaa
/-! The walk of the reference's product. -/
namespace Go.Proofs.Ytaomehlhopiblaa
open Go.RowKit
end Go.Proofs.Ytaomehlhopiblaa
/-! Truth over a whole trace: plain definitions and lemmas, no program in sight. -/
namespace Go.Proofs.Ytaomehlhopiblaa
/-- A trace: how many points, their times, what holds there. -/
structure TrcS where
  n : Nat
  time : Nat → Nat
  holds : Nat → ByteArray → Bool
def hasD (lo hi : Int) (d : Nat) : Bool := decide (lo ≤ (d : Int) ∧ (hi = -1 ∨ (d : Int) ≤ hi))
def gapS (X : TrcS) (i j : Nat) : Nat := max (X.time i) (X.time j) - min (X.time i) (X.time j)
/-- Some point up to i is so, and all behind it go on. -/
def someP (is on : Nat → Bool) : Nat → Bool
  | 0 => is 0
  | i + 1 => is (i + 1) || (on (i + 1) && someP is on i)
/-- Some of m points from i on is so, and all ahead of it go on. -/
def someU (is on : Nat → Bool) : Nat → Nat → Bool
  | 0, _ => false
  | m + 1, i => is i || (on i && someU is on m (i + 1))
def allw : Nat → Bool := fun _ => true
def unS (X : TrcS) (h : Nd) (v : Nat → Bool) (ways : Mx) (i : Nat) : Bool :=
  if h.kind = 4 then !v i
  else if h.kind = 8 then decide (0 < i) && (hasD h.lo h.hi (gapS X i (i - 1)) && v (i - 1))
  else if h.kind = 9 then decide (i + 1 < X.n) && (hasD h.lo h.hi (gapS X i (i + 1)) && v (i + 1))
  else if h.kind = 10 then someP (fun j => hasD h.lo h.hi (gapS X i j) && v j) allw i
  else if h.kind = 11 then !someP (fun j => hasD h.lo h.hi (gapS X i j) && !v j) allw i
  else if h.kind = 12 then someU (fun j => hasD h.lo h.hi (gapS X i j) && v j) allw (X.n - i) i
  else if h.kind = 13 then !someU (fun j => hasD h.lo h.hi (gapS X i j) && !v j) allw (X.n - i) i
  else if h.kind = 16 then someP (fun j => hasD h.lo h.hi (gapS X i j) && ways j i) allw i
  else if h.kind = 17 then someU (fun j => hasD h.lo h.hi (gapS X i j) && ways i j) allw (X.n - i) i
  else false
def binS (X : TrcS) (h : Nd) (v w : Nat → Bool) (i : Nat) : Bool :=
  if h.kind = 5 then v i && w i
  else if h.kind = 6 then v i || w i
  else if h.kind = 7 then !v i || w i
  else if h.kind = 14 then someP (fun j => hasD h.lo h.hi (gapS X i j) && w j) v i
  else if h.kind = 15 then someU (fun j => hasD h.lo h.hi (gapS X i j) && w j) v (X.n - i) i
  else false
def leafS (X : TrcS) (h : Nd) (i : Nat) : Bool := if h.kind = 1 then true else if h.kind = 3 then X.holds i h.name else false
/-- What tests, told one by one, hold at a point. -/
def valL (vs : List (Nat → Bool)) (i q : Nat) : Bool := (vs.getD q fun _ => false) i
/-- Of a formula where it holds; of a regular expression where its tests hold. -/
def satB (X : TrcS) : Tr → (Nat → Bool) × List (Nat → Bool)
  | .leaf h => (leafS X h, [])
  | .un h a => (unS X h (satB X a).1 (reachT X.n (valL (satB X a).2) a 0), if h.kind = 19 then [(satB X a).1] else (satB X a).2)
  | .bin h a b => (binS X h (satB X a).1 (satB X b).1, (satB X a).2 ++ (satB X b).2)
def valsT (X : TrcS) (t : Tr) : List (Nat → Bool) := (satB X t).2
/-! ### Truth hangs on what is seen alone -/
end Go.Proofs.Ytaomehlhopiblaa
/-! Traces in memory, and the walks of sat's small functions. -/
namespace Go.Proofs.Ytaomehlhopiblaa
open Go.RowKit
/-- An event: its time, and the ids that hold. -/
structure Evt where
  time : Nat
  ids : List Int
/-- The slice at A of n events reads as es. -/
def EvsF (F : Fz) (A : Option Addr) (n : Nat) (es : List Evt) : Prop := es.length = n ∧ (0 < n → ∃ ad, A = some ad ∧ ∀ i (h : i < es.length), es[i].time < 18446744073709551616 ∧ ∃ Ai ci, es[i].ids.length ≤ ci ∧ Rd F 1 Ai es[i].ids.length (es[i].ids.map (Value.int .i64)) ∧ F.cell (ad.add (i * 2)) = some (.int .u64 (es[i].time : Nat)) ∧ F.cell ((ad.add (i * 2)).add 1) = some (.slice Ai es[i].ids.length ci))
theorem EvsF.cle {F F' : Fz} {A : Option Addr} {n : Nat} {es : List Evt} (h : EvsF F A n es) (hle : CLe F F') : EvsF F' A n es :=
  ⟨h.1, fun h0 => let ⟨ad, e, hh⟩ := h.2 h0; ⟨ad, e, fun i hi => let ⟨ht, Ai, ci, h1, h2, h3, h4⟩ := hh i hi; ⟨ht, Ai, ci, h1, h2.cle hle, hle _ _ h3, hle _ _ h4⟩⟩⟩
def timeE (es : List Evt) (i : Nat) : Nat := match es[i]? with | some e => e.time | none => 0
theorem EvsF.at_ {F : Fz} {A : Option Addr} {n : Nat} {es : List Evt} (h : EvsF F A n es) {i : Nat} (hi : i < n) : timeE es i < 18446744073709551616 ∧ ∃ ad, A = some ad ∧ F.cell (ad.add (i * 2)) = some (.int .u64 (timeE es i : Nat)) := by
  obtain ⟨ad, e, hh⟩ := h.2 (by omega)
  have hl : i < es.length := by have := h.1; omega
  obtain ⟨ht, Ai, ci, _, _, h3, _⟩ := hh i hl
  have e1 : timeE es i = es[i].time := by unfold timeE; rw [List.getElem?_eq_getElem hl]
  rw [e1]
  exact ⟨ht, ad, e, h3⟩
/-- A function value that tells b i of each point i. -/
def IsFn (F : Fz) (k : Nat) (cap : Array Value) (n : Nat) (b : Nat → Bool) : Prop := (∀ args w, (callFunc k args).run Try.prog w = .ok (.enter k args) w) ∧ ∀ X : World, Sat F X → ∀ i : Nat, i < n → Calls Try.prog k (#[.int .i64 (i : Nat)] ++ cap) X fun e X' => e = .returned (.bool (b i)) ∧ Below X.heap.size X X'
theorem IsFn.cle {F F' : Fz} {k : Nat} {cap : Array Value} {n : Nat} {b : Nat → Bool} (h : IsFn F k cap n b) (hs : ∀ X, Sat F' X → Sat F X) : IsFn F' k cap n b := ⟨h.1, fun X hX => h.2 X (hs X hX)⟩
/-- What stands in the block of a truth. -/
structure TruF (F : Fz) (gx : Nat) (An : Option Addr) (nn cn : Nat) (Ae : Option Addr) (ne ce : Nat) (es : List Evt) : Prop where
  t0 : F.cell ⟨gx, 0, none⟩ = some (.slice An nn cn)
  t1 : F.cell ⟨gx, 1, none⟩ = some (.slice Ae ne ce)
  evs : EvsF F Ae ne es
end Go.Proofs.Ytaomehlhopiblaa
/-! One pass: what the functions say: plain definitions and laws. -/
namespace Go.Proofs.Ytaomehlhopiblaa
abbrev Fn := Nat → Bool
/-- A window: classes, and of each the states. -/
abbrev Win := List (Nat × (Nat → Fn))
def noFn : Fn := fun _ => false
/-- The assignment that functions give. -/
def asg : List Fn → Nat → Nat
  | [], _ => 0
  | f :: l, x => 2 * asg l x + (if f x = true then 1 else 0)
theorem asg_bit : ∀ (l : List Fn) (x a : Nat), (asg l x).testBit a = (l.getD a noFn) x
  | [], x, a => by simp [asg, noFn]
  | f :: l, x, 0 => by
    rw [Nat.testBit_zero]
    show decide ((2 * asg l x + (if f x = true then 1 else 0)) % 2 = 1) = f x
    cases h : f x
    · rw [if_neg (by simp)]; simp
    · rw [if_pos rfl]; simp
  | f :: l, x, a + 1 => by
    rw [Nat.testBit_succ]
    have h : asg (f :: l) x / 2 = asg l x := by
      show (2 * asg l x + (if f x = true then 1 else 0)) / 2 = asg l x
      split <;> omega
    rw [h, asg_bit l x a]; rfl
/-! ### Classes of time -/
def lastC (h : Nd) : Nat := wideN h - 1
def laterC (h : Nd) (c d : Nat) : Option Nat := if lastC h < c then none else if d ≤ lastC h - c then some (c + d) else if h.hi = -1 then some (lastC h) else none
def inC (h : Nd) (c : Nat) : Bool := decide (h.lo ≤ (c : Int) ∧ c ≤ lastC h)
theorem later_le {h : Nd} {c d c' : Nat} (e : laterC h c d = some c') : c' ≤ lastC h := by
  unfold laterC at e
  split at e
  · cases e
  · split at e
    · injection e with e; omega
    · split at e
      · injection e with e; omega
      · cases e
/-! ### Windows -/
def addW (out : Win) (c : Nat) (f : Nat → Fn) : Win := match out.getLast? with
  | some b => if b.1 = c then out.dropLast ++ [(c, fun k x => b.2 k x || f k x)] else out ++ [(c, f)]
  | none => [(c, f)]
/-- The window a time later, laid behind out. -/
def goW (h : Nd) (d : Nat) (ah : List Fn) : Win → Win → Win
  | [], out => out
  | b :: W, out => goW h d ah W (match laterC h b.1 d with | none => out | some c => addW out c fun k x => b.2 k (asg ah x))
def startW (h : Nd) (d : Nat) : Win → Win
  | [] => [(0, fun _ => noFn)]
  | b :: _ => if laterC h b.1 d = some 0 then [] else [(0, fun _ => noFn)]
/-- The first one's state 0 is there. -/
def yesW : Win → Win
  | [] => []
  | b :: r => (b.1, fun k x => k == 0 || b.2 k x) :: r
def shiftW (h : Nd) (d : Nat) (ah : List Fn) (W : Win) : Win := yesW (goW h d ah W (startW h d W))
def headZ (W : Win) : Prop := ∃ f r, W = (0, f) :: r
theorem add_head {out : Win} (h : headZ out) (c : Nat) (f : Nat → Fn) : headZ (addW out c f) := by
  obtain ⟨g, r, rfl⟩ := h
  unfold addW
  cases h : ((0, g) :: r : Win).getLast? with
  | none => simp at h
  | some b =>
    show headZ (if b.1 = c then ((0, g) :: r : Win).dropLast ++ [(c, fun k x => b.2 k x || f k x)] else ((0, g) :: r : Win) ++ [(c, f)])
    split
    · rename_i e
      cases r with
      | nil =>
        simp at h
        subst h
        exact ⟨_, [], by rw [← e]; rfl⟩
      | cons b' r => exact ⟨g, _, rfl⟩
    · exact ⟨g, _, rfl⟩
theorem go_head (h : Nd) (d : Nat) (ah : List Fn) : ∀ (W out : Win), headZ out → headZ (goW h d ah W out)
  | [], out, e => e
  | b :: W, out, e => by
    unfold goW
    refine go_head h d ah W _ ?_
    cases laterC h b.1 d with
    | none => exact e
    | some c => exact add_head e c _
theorem shift_head (h : Nd) (d : Nat) (ah : List Fn) (W : Win) : headZ (goW h d ah W (startW h d W)) := by
  cases W with
  | nil => exact ⟨_, [], rfl⟩
  | cons b W =>
    show headZ (goW h d ah (b :: W) (if laterC h b.1 d = some 0 then [] else [(0, fun _ => noFn)]))
    by_cases e : laterC h b.1 d = some 0
    · rw [if_pos e]
      show headZ (goW h d ah W (match laterC h b.1 d with | none => [] | some c => addW [] c fun k x => b.2 k (asg ah x)))
      rw [e]
      exact go_head h d ah W _ ⟨_, [], rfl⟩
    · rw [if_neg e]
      exact go_head h d ah _ _ ⟨_, [], rfl⟩
end Go.Proofs.Ytaomehlhopiblaa
/-! One pass: what a step makes, and what is so of it: plain. -/
namespace Go.Proofs.Ytaomehlhopiblaa
/-! ### What is so of the trace -/
/-- The tests of a regular expression, at a point. -/
def vT (X : TrcS) (a : Tr) : Nat → Nat → Bool := valL (valsT X a)
end Go.Proofs.Ytaomehlhopiblaa
/-! One pass: a step over a tree, and that what it makes is so: plain. -/
namespace Go.Proofs.Ytaomehlhopiblaa
/-- What is there while a point is gone through: the atoms' functions made so far, the windows by places. -/
structure StO where
  ah : List Fn
  win : Nat → Win
def zOf (zs : List Fn) : Zf := fun q => zs.getD q noFn
def foreF (h : Nd) (a : Tr) (zs : List Fn) (P : Nat) : Fn := fun x => (inC h 0 && (stateO (zOf zs) a 0).2 x) || (List.range (stepsN a)).any fun q => (stateO (zOf zs) a 0).1 q x && x.testBit (P + q * wideN h)
def aheadF (h : Nd) (a : Tr) (zs : List Fn) (P d k c : Nat) : Fn := fun x => match laterC h c d with
  | none => false
  | some c' => (inC h c' && (stateO (zOf zs) a k).2 x) || (List.range (stepsN a)).any fun q => (stateO (zOf zs) a k).1 q x && x.testBit (P + q * wideN h + c')
def aheadL (h : Nd) (a : Tr) (zs : List Fn) (P d : Nat) : List Fn := (List.range (stepsN a * wideN h)).map fun i => aheadF h a zs P d (i / wideN h + 1) (i % wideN h)
def backF (h : Nd) (a : Tr) (zs : List Fn) (W : Win) : Fn := fun x => W.any fun b => inC h b.1 && (List.range (stepsN a + 1)).any fun k => b.2 k x && (stateO (zOf zs) a k).2 x
def movedF (a : Tr) (zs : List Fn) (f : Nat → Fn) : Nat → Fn
  | 0 => noFn
  | q + 1 => fun x => (List.range (stepsN a + 1)).any fun k => f k x && (stateO (zOf zs) a k).1 q x
def someZ (m : Nat) (a : Tr) (f : Nat → Fn) : Bool := (List.range (stepsN a + 1)).any fun k => (List.range (2 ^ m)).any fun x => f k x
def backV (m : Nat) (a : Tr) (zs : List Fn) (W : Win) : Win := (W.map fun b => (b.1, movedF a zs b.2)).filter fun b => someZ m a b.2
def updW (w : Nat → Win) (i : Nat) (v : Win) : Nat → Win := fun j => if j = i then v else w j
/-- A point: of each formula its truth, of a regular expression its tests' truth. -/
def stF (m d : Nat) (prop : ByteArray → Bool) : Tr → Nat → StO → (Fn × List Fn) × StO
  | .leaf h, _, s => ((fun _ => if h.kind = 1 then true else if h.kind = 3 then prop h.name else false, []), s)
  | .un h a, o, s =>
    if h.kind = 4 then ((fun x => !(stF m d prop a o s).1.1 x, []), (stF m d prop a o s).2)
    else if h.kind = 19 then ((noFn, [(stF m d prop a o s).1.1]), (stF m d prop a o s).2)
    else if h.kind = 16 then ((backF h a (stF m d prop a o s).1.2 (shiftW h d (stF m d prop a o s).2.ah ((stF m d prop a o s).2.win (o + a.size))), []), ⟨(stF m d prop a o s).2.ah, updW (stF m d prop a o s).2.win (o + a.size) (backV m a (stF m d prop a o s).1.2 (shiftW h d (stF m d prop a o s).2.ah ((stF m d prop a o s).2.win (o + a.size))))⟩)
    else if h.kind = 17 then ((foreF h a (stF m d prop a o s).1.2 (stF m d prop a o s).2.ah.length, []), ⟨(stF m d prop a o s).2.ah ++ aheadL h a (stF m d prop a o s).1.2 (stF m d prop a o s).2.ah.length d, (stF m d prop a o s).2.win⟩)
    else ((noFn, (stF m d prop a o s).1.2), (stF m d prop a o s).2)
  | .bin h a b, o, s => ((fun x => if h.kind = 5 then (stF m d prop a o s).1.1 x && (stF m d prop b (o + a.size) (stF m d prop a o s).2).1.1 x else if h.kind = 6 then (stF m d prop a o s).1.1 x || (stF m d prop b (o + a.size) (stF m d prop a o s).2).1.1 x else false, (stF m d prop a o s).1.2 ++ (stF m d prop b (o + a.size) (stF m d prop a o s).2).1.2), (stF m d prop b (o + a.size) (stF m d prop a o s).2).2)
theorem stF_un (m d : Nat) (prop : ByteArray → Bool) (h : Nd) (a : Tr) (o : Nat) (s : StO) (r : (Fn × List Fn) × StO) (hr : stF m d prop a o s = r) : stF m d prop (.un h a) o s = if h.kind = 4 then ((fun x => !r.1.1 x, []), r.2) else if h.kind = 19 then ((noFn, [r.1.1]), r.2) else if h.kind = 16 then ((backF h a r.1.2 (shiftW h d r.2.ah (r.2.win (o + a.size))), []), ⟨r.2.ah, updW r.2.win (o + a.size) (backV m a r.1.2 (shiftW h d r.2.ah (r.2.win (o + a.size))))⟩) else if h.kind = 17 then ((foreF h a r.1.2 r.2.ah.length, []), ⟨r.2.ah ++ aheadL h a r.1.2 r.2.ah.length d, r.2.win⟩) else ((noFn, r.1.2), r.2) := by
  subst hr; rfl
theorem stF_bin (m d : Nat) (prop : ByteArray → Bool) (h : Nd) (a b : Tr) (o : Nat) (s : StO) (r r' : (Fn × List Fn) × StO) (hr : stF m d prop a o s = r) (hr' : stF m d prop b (o + a.size) r.2 = r') : stF m d prop (.bin h a b) o s = ((fun x => if h.kind = 5 then r.1.1 x && r'.1.1 x else if h.kind = 6 then r.1.1 x || r'.1.1 x else false, r.1.2 ++ r'.1.2), r'.2) := by
  subst hr; subst hr'; rfl
theorem length_aheadL (h : Nd) (a : Tr) (zs : List Fn) (P d : Nat) : (aheadL h a zs P d).length = stepsN a * wideN h := by simp [aheadL]
theorem stF_win (m d : Nat) (prop : ByteArray → Bool) : ∀ (t : Tr) (o : Nat) (s : StO) (j : Nat), j < o ∨ o + t.size ≤ j → (stF m d prop t o s).2.win j = s.win j
  | .leaf h, o, s, j, _ => rfl
  | .un h a, o, s, j, hj => by
    have hsz : (Tr.un h a).size = a.size + 1 := rfl
    rw [hsz] at hj
    have h1 := stF_win m d prop a o s j (by omega)
    obtain ⟨r, hr⟩ : ∃ r, stF m d prop a o s = r := ⟨_, rfl⟩
    rw [stF_un m d prop h a o s r hr]
    rw [hr] at h1
    split
    · exact h1
    · split
      · exact h1
      · split
        · show updW r.2.win (o + a.size) _ j = _
          unfold updW
          rw [if_neg (by omega)]
          exact h1
        · split <;> exact h1
  | .bin h a b, o, s, j, hj => by
    have hsz : (Tr.bin h a b).size = a.size + b.size + 1 := rfl
    rw [hsz] at hj
    show (stF m d prop b (o + a.size) (stF m d prop a o s).2).2.win j = _
    rw [stF_win m d prop b (o + a.size) _ j (by omega), stF_win m d prop a o s j (by omega)]
/-- A formula without sugar (true); a regular expression of such (false). -/
def Pl : Bool → Tr → Prop
  | true, .leaf h => h.kind = 1 ∨ h.kind = 2 ∨ h.kind = 3
  | true, .un h a => (h.kind = 4 ∧ Pl true a) ∨ ((h.kind = 16 ∨ h.kind = 17) ∧ spanS h.lo h.hi = true ∧ Pl false a)
  | true, .bin h a b => (h.kind = 5 ∨ h.kind = 6) ∧ Pl true a ∧ Pl true b
  | false, .leaf h => h.kind = 18
  | false, .un h a => (h.kind = 19 ∧ Pl true a) ∨ (h.kind = 22 ∧ Pl false a)
  | false, .bin h a b => (h.kind = 20 ∨ h.kind = 21) ∧ Pl false a ∧ Pl false b
end Go.Proofs.Ytaomehlhopiblaa
/-! One pass: points that are pending, items: plain. -/
namespace Go.Proofs.Ytaomehlhopiblaa
structure Itm where
  eq : Bool
  idx : Nat
  dst : Nat
  val : Bool
abbrev Pnd := List (Nat × Fn)
/-- Are two functions one? -/
def sameF (m : Nat) (f g : Fn) : Bool := (List.range (2 ^ m)).all fun x => f x == g x
theorem sameF_iff {m : Nat} {f g : Fn} : sameF m f g = true ↔ ∀ x, x < 2 ^ m → f x = g x := by
  unfold sameF
  simp [List.all_eq_true]
def constF (m : Nat) (f : Fn) : Bool := sameF m f fun _ => f 0
/-- What is told of pending points, and what is left. -/
def tellS (m : Nat) : Pnd → List Itm × Pnd
  | [] => ([], [])
  | p :: rest => if constF m p.2 = true then (⟨false, p.1, 0, p.2 0⟩ :: (tellS m rest).1, (tellS m rest).2)
    else match rest.find? fun q => sameF m p.2 q.2 with
      | some q => (⟨true, p.1, q.1, false⟩ :: (tellS m rest).1, (tellS m rest).2)
      | none => ((tellS m rest).1, p :: (tellS m rest).2)
/-! ### The whole pass -/
def putPd (ah : List Fn) (l : Pnd) : Pnd := l.map fun p => (p.1, fun x => p.2 (asg ah x))
def endS (l : Pnd) : List Itm := l.map fun p => ⟨false, p.1, 0, p.2 0⟩
end Go.Proofs.Ytaomehlhopiblaa
