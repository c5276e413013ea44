
set_option linter.unusedVariables false
set_option linter.unusedSimpArgs false
/- Formulas and regular expressions as trees: plain definitions and lemmas, no program in sight. -/
/-! Formulas and regular expressions as trees: plain definitions and lemmas, no program in sight. -/
namespace Go.Proofs.Ytgmbicjcfhmcdaa

/-- A node of a formula's list. -/
structure Nd where
  kind : Int
  name : ByteArray
  lo : Int
  hi : Int
  kids : List Int

/-- A tree: a root without kids, with one, with two. -/
inductive Tr where
  | leaf (h : Nd)
  | un (h : Nd) (a : Tr)
  | bin (h : Nd) (a b : Tr)
namespace Tr
def root : Tr → Nd
  | leaf h | un h _ | bin h _ _ => h
def size : Tr → Nat
  | leaf _ => 1
  | un _ a => a.size + 1
  | bin _ a b => a.size + b.size + 1
/-- The part whose root stands at place i. -/
def sub : Tr → Nat → Tr
  | leaf h, _ => leaf h
  | un h a, i => if i < a.size then a.sub i else un h a
  | bin h a b, i => if i < a.size then a.sub i else if i < a.size + b.size then b.sub (i - a.size) else bin h a b
end Tr

/-! ### What a node must be -/
def arityS (k : Int) : Int :=
  if k = 1 ∨ k = 2 ∨ k = 3 ∨ k = 18 then 0
  else if k = 5 ∨ k = 6 ∨ k = 7 ∨ k = 14 ∨ k = 15 ∨ k = 20 ∨ k = 21 then 2
  else if k < 1 ∨ 22 < k then -1 else 1
def regS (k : Int) : Bool := decide (18 ≤ k)
def wantsS (k : Int) : Bool := decide (k = 16 ∨ k = 17 ∨ k = 20 ∨ k = 21 ∨ k = 22)
def timedS (k : Int) : Bool := decide (8 ≤ k ∧ k ≤ 17)
def smallS (c : UInt8) : Bool := decide (97 ≤ c.toNat ∧ c.toNat ≤ 122)
def moreS (c : UInt8) : Bool := smallS c || decide (48 ≤ c.toNat ∧ c.toNat ≤ 57) || decide (c.toNat = 95)
/-- The words that are no names. -/
def wordsS : List (List UInt8) :=
  [[116, 114, 117, 101], [102, 97, 108, 115, 101], [112, 114, 101, 118], [110, 101, 120, 116], [111, 110, 99, 101], [104, 105, 115, 116], [115, 111, 109, 101], [97, 108, 108], [115, 105, 110, 99, 101], [117, 110, 116, 105, 108], [98, 97, 99, 107], [102, 111, 114, 101]]
def nameS (s : List UInt8) : Bool :=
  match s with
  | [] => false
  | c :: _ => decide (s.length ≤ 16) && smallS c && s.all moreS && !wordsS.contains s
def spanS (lo hi : Int) : Bool := decide (0 ≤ lo ∧ lo ≤ 9999 ∧ (hi = -1 ∨ (lo ≤ hi ∧ hi ≤ 9999)))
/-- Has a node just the fields that its kind has? -/
def fieldsS (n : Nd) : Bool :=
  (if n.kind = 3 then nameS n.name.data.toList else n.name.data.toList.isEmpty) &&
  (if timedS n.kind then spanS n.lo n.hi else decide (n.lo = 0 ∧ n.hi = 0)) &&
  decide ((n.kids.length : Int) = arityS n.kind)

/-! ### The stack of trees, the last one first -/
def total (st : List Tr) : Nat := (st.map Tr.size).sum
def pushS (st : List Tr) (n : Nd) : Option (List Tr) :=
  if fieldsS n then
    match n.kids, st with
    | [], st => some (.leaf n :: st)
    | [k], a :: st => if k = (total (a :: st) : Int) - 1 ∧ regS a.root.kind = wantsS n.kind then some (.un n a :: st) else none
    | [k, k'], b :: a :: st =>
      if k' = (total (b :: a :: st) : Int) - 1 ∧ regS b.root.kind = wantsS n.kind ∧ k = (total (a :: st) : Int) - 1 ∧ regS a.root.kind = wantsS n.kind then some (.bin n a b :: st) else none
    | _, _ => none
  else none
def parseS : List Nd → Option (List Tr) := fun l => l.foldlM pushS []
def treeS (l : List Nd) : Option Tr :=
  match parseS l with
  | some [t] => some t
  | _ => none
/-! ### Parts -/
namespace Tr
end Tr
/-! ### The kids are popped, the last one first -/
end Go.Proofs.Ytgmbicjcfhmcdaa
/-! The reference's way to tell whether a list may be: the stack of open nodes. Plain lemmas. -/
namespace Go.Proofs.Ytgmbicjcfhmcdaa
end Go.Proofs.Ytgmbicjcfhmcdaa
/-! Depths by the stack of trees. Plain lemmas. -/
namespace Go.Proofs.Ytgmbicjcfhmcdaa
end Go.Proofs.Ytgmbicjcfhmcdaa
/-! Parts of a list: where they begin, what they are. Plain lemmas. -/
namespace Go.Proofs.Ytgmbicjcfhmcdaa
namespace Tr
end Tr
end Go.Proofs.Ytgmbicjcfhmcdaa
