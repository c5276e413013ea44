/- Rows of places, and all of memory but what is being written. -/
import Derived.Test.YtaomehlhopiblaaPlanP
import Derived.Test.YtaomehlhopiblaaTabW
import Derived.Test.YtaomehlhopiblaaApp
import Derived.Test.YtaomehlhopiblaaNodes
import Derived.Test.YtaomehlhopiblaaPileP
import Derived.Deep.RegionHeld3
import Derived.Deep.DrawnRows
set_option linter.unusedVariables false
set_option linter.unusedSimpArgs false
/-! Rows of places, and all of memory but what is being written. -/
namespace Go.Proofs.Ytaomehlhopiblaa
open Go.RowKit
theorem WdF.cle {m : Nat} {F F' : Fz} {v : Value} {p : Nat → Bool} (h : WdF m F v p) (hle : CLe F F') : WdF m F' v p :=
  let ⟨A, n, c, fs, e, hr, hl, hp⟩ := h
  ⟨A, n, c, fs, e, hr.cle hle, hl, hp⟩
theorem WdF.nil (m : Nat) (F : Fz) : WdF m F (.slice none 0 0) fun _ => false := ⟨none, 0, 0, [], rfl, Rd.nil, by simp, fun x _ => bit_nil x⟩
theorem undr {B : Nat} {w w3 : World} (h : Below B w.drew w3) : Below B w w3 := ⟨h.os, h.tape, h.output, h.size, h.block⟩
theorem cellNe {w : World} {p a : Addr} {u v : Value} (h : p ≠ a) (hc : w.cell? a = some v) : (w.setCell p u).cell? a = some v := by rw [World.cell?_setCell_other (h := h), hc]
theorem addr_b {g g' i j : Nat} (h : g ≠ g') : (⟨g, i, none⟩ : Addr) ≠ ⟨g', j, none⟩ := fun e => h (by injection e)
theorem addr_o {g i j : Nat} (h : i ≠ j) : (⟨g, i, none⟩ : Addr) ≠ ⟨g, j, none⟩ := fun e => h (by injection e)
/-- All of memory but the blocks Gs. -/
def hx (w : World) (Gs : List Nat) : Fz := fun b => if b ∈ Gs then none else w.heap[b]?
theorem sat_hx (w : World) (Gs : List Nat) : Sat (hx w Gs) w := fun b o h => by
  unfold hx at h
  split at h
  · cases h
  · exact h
theorem hx_in {w : World} {Gs : List Nat} {g : Nat} (h : g ∈ Gs) : hx w Gs g = none := if_pos h
theorem hx_out {w : World} {Gs : List Nat} {g : Nat} (h : g ∉ Gs) : hx w Gs g = w.heap[g]? := if_neg h
/-- Of what stood there only the blocks Gs have been written. -/
structure Wr (Gs : List Nat) (w w' : World) : Prop where
  os : w'.os = w.os
  tape : w'.tape = w.tape
  output : w'.output = w.output
  size : w.heap.size ≤ w'.heap.size
  block : ∀ b, b < w.heap.size → b ∉ Gs → w'.heap[b]? = w.heap[b]?
namespace Wr
variable {Gs : List Nat} {w w' w'' : World}
theorem refl (Gs : List Nat) (w : World) : Wr Gs w w := ⟨rfl, rfl, rfl, Nat.le_refl _, fun _ _ _ => rfl⟩
theorem trans (h : Wr Gs w w') (k : Wr Gs w' w'') : Wr Gs w w'' :=
  ⟨k.os.trans h.os, k.tape.trans h.tape, k.output.trans h.output, Nat.le_trans h.size k.size, fun b hb hg => (k.block b (Nat.lt_of_lt_of_le hb h.size) hg).trans (h.block b hb hg)⟩
theorem of_below (hb : Below w.heap.size w w') : Wr Gs w w' := ⟨hb.os, hb.tape, hb.output, hb.size, fun b h _ => hb.block b h⟩
theorem call (h : Wr Gs w w') (hb : Below w'.heap.size w' w'') : Wr Gs w w'' := h.trans (of_below hb)
theorem alloc (h : Wr Gs w w') (o : Obj) : Wr Gs w (w'.alloc o) := h.call (balloc _ _)
theorem drew (h : Wr Gs w w') : Wr Gs w w'.drew := ⟨h.os, h.tape, h.output, h.size, h.block⟩
theorem set (h : Wr Gs w w') {g : Nat} (hg : g ∈ Gs) (i : Nat) (u : Value) : Wr Gs w (w'.setCell ⟨g, i, none⟩ u) := by
  have hb : ∀ b, b ≠ g → (w'.setCell ⟨g, i, none⟩ u).heap[b]? = w'.heap[b]? := fun b hb => Below.heap_setCell w' ⟨g, i, none⟩ u b hb
  refine ⟨h.os, h.tape, h.output, by simpa using h.size, fun b h1 h2 => ?_⟩
  rw [hb b (fun e => h2 (e ▸ hg)), h.block b h1 h2]
theorem more {Hs : List Nat} (h : Wr Gs w w') (hs : ∀ g, g ∈ Gs → g ∈ Hs) : Wr Hs w w' := ⟨h.os, h.tape, h.output, h.size, fun b hb hg => h.block b hb fun e => hg (hs b e)⟩
/-- What is written has been made since. -/
theorem below {B : Nat} (h : Wr Gs w w') (hg : ∀ g, g ∈ Gs → B ≤ g) (hB : B ≤ w.heap.size) : Below B w w' :=
  ⟨h.os, h.tape, h.output, h.size, fun b hb => h.block b (by omega) fun e => by have := hg b e; omega⟩
theorem blk (h : Wr Gs w w') {g : Nat} {t : TypeId} {cs : Array Value} (hk : Blk w g t cs) (hg : g ∉ Gs) : Blk w' g t cs := (h.block g hk.lt hg).trans hk
theorem sat {F : Fz} (h : Wr Gs w w') (hF : Sat F w) (hg : ∀ g, g ∈ Gs → F g = none) : Sat F w' := fun b o hb =>
  (h.block b (hF.lt hb) fun e => by rw [hg b e] at hb; cases hb).trans (hF b o hb)
theorem cle (h : Wr Gs w w') : CLe (hx w Gs) (hx w' Gs) := fun a v hc => by
  unfold Fz.cell at hc ⊢
  by_cases hg : a.block ∈ Gs
  · rw [hx_in hg] at hc; cases hc
  · rw [hx_out hg] at hc ⊢
    have hb : a.block < w.heap.size := by
      cases e : w.heap[a.block]? with
      | none => rw [e] at hc; cases hc
      | some o => exact (Array.getElem?_eq_some_iff.1 e).1
    rw [h.block _ hb hg]
    exact hc
end Wr
theorem cle_hx {F : Fz} {w : World} {Gs : List Nat} (hF : Sat F w) (hg : ∀ g, g ∈ Gs → F g = none) : CLe F (hx w Gs) := fun a v hc => by
  unfold Fz.cell at hc ⊢
  cases hf : F a.block with
  | none => rw [hf] at hc; cases hc
  | some o =>
    rw [hf] at hc
    have hn : a.block ∉ Gs := fun e => by rw [hg _ e] at hf; cases hf
    rw [hx_out hn, hF _ _ hf]
    exact hc
/-- What a call gives lies in a block of its own. -/
theorem RetQ.hx {m : Nat} {w w' : World} {p : Nat → Bool} {e : Ending} (h : RetQ m w p e w') {Gs : List Nat} (hG : ∀ g, g ∈ Gs → g < w.heap.size) : ∃ v, e = .returned v ∧ Below w.heap.size w w' ∧ WdF m (hx w' Gs) v p := by
  obtain ⟨A, n, c, g, o, rfl, hb, hg, ho, hF⟩ := h
  refine ⟨_, rfl, hb, ?_⟩
  have hn : g ∉ Gs := fun e => by have := hG g e; omega
  have e : (Go.Proofs.Ytaomehlhopiblaa.hx w' Gs).put g o = Go.Proofs.Ytaomehlhopiblaa.hx w' Gs := by
    funext b
    unfold Fz.put
    split
    · rename_i e
      rw [e, hx_out hn, ho]
    · rfl
  have := hF (Go.Proofs.Ytaomehlhopiblaa.hx w' Gs)
  rw [e] at this
  exact this
/-- The value is the words that tell p, of m atoms, just as functions are told. -/
def WdG (m : Nat) (F : Fz) (v : Value) (p : Nat → Bool) : Prop := m ≤ 10 ∧ ∃ A c, v = .slice A (wordsN m) c ∧ Rd F 1 A (wordsN m) ((tab m p).map u)
namespace WdG
variable {m : Nat} {F F' : Fz} {v : Value} {p q : Nat → Bool}
theorem wd (h : WdG m F v p) : WdF m F v p := by
  obtain ⟨hm, A, c, e, hr⟩ := h
  exact ⟨A, _, c, tab m p, e, hr, tab_len m hm p, fun x hx => by rw [bit_tab]; simp [hx]⟩
theorem cle (h : WdG m F v p) (hle : CLe F F') : WdG m F' v p := let ⟨hm, A, c, e, hr⟩ := h; ⟨hm, A, c, e, hr.cle hle⟩
theorem same (h : WdG m F v p) (e : ∀ x, x < 2 ^ m → p x = q x) : WdG m F v q := by
  obtain ⟨hm, A, c, e', hr⟩ := h
  refine ⟨hm, A, c, e', ?_⟩
  rw [← tab_congr e]
  exact hr
end WdG
/-- What a call of a function on tables gives: words of their own, as functions are told. -/
def RetQL (m : Nat) (w : World) (p : Nat → Bool) (e : Ending) (w' : World) : Prop := m ≤ 10 ∧ RetO w (tab m p) e w'
theorem retQL {m : Nat} (hm : m ≤ 10) {w : World} {p q : Nat → Bool} (h : ∀ x, x < 2 ^ m → p x = q x) {e : Ending} {w' : World} (r : RetO w (tab m p) e w') : RetQL m w q e w' := ⟨hm, by rw [← tab_congr h]; exact r⟩
theorem ql_no {m : Nat} (hm : m ≤ 10) {w : World} : Calls Try.prog 25 #[.int .i64 m] w (RetQL m w fun _ => false) :=
  (no_yes m hm).mono fun _ _ r => retQL hm (fun _ _ => rfl) r
theorem ql_yes {m : Nat} (hm : m ≤ 10) {w : World} : Calls Try.prog 18 #[.int .i64 m] w (RetQL m w fun _ => true) :=
  (yes_yes m hm).mono fun _ _ r => retQL hm (fun _ _ => rfl) r
theorem ql_and {m : Nat} (hm : m ≤ 10) {w : World} {v v' : Value} {p q : Nat → Bool} (h : Wd m w v p) (h' : Wd m w v' q) : Calls Try.prog 21 #[.int .i64 m, v, v'] w (RetQL m w fun x => and (p x) (q x)) := by
  obtain ⟨A, n, c, fs, rfl, hr, hl, hp⟩ := h
  obtain ⟨A', n', c', fs', rfl, hr', hl', hp'⟩ := h'
  exact (andf_yes (sat_heapF w) m hm fs fs' A A' n n' c c' hr hr').mono fun e w' r => retQL hm (fun x hx => by rw [hp x hx, hp' x hx]) r
theorem ql_or {m : Nat} (hm : m ≤ 10) {w : World} {v v' : Value} {p q : Nat → Bool} (h : Wd m w v p) (h' : Wd m w v' q) : Calls Try.prog 22 #[.int .i64 m, v, v'] w (RetQL m w fun x => or (p x) (q x)) := by
  obtain ⟨A, n, c, fs, rfl, hr, hl, hp⟩ := h
  obtain ⟨A', n', c', fs', rfl, hr', hl', hp'⟩ := h'
  exact (orf_yes (sat_heapF w) m hm fs fs' A A' n n' c c' hr hr').mono fun e w' r => retQL hm (fun x hx => by rw [hp x hx, hp' x hx]) r
theorem RetQL.hx {m : Nat} {w w' : World} {p : Nat → Bool} {e : Ending} (h : RetQL m w p e w') {Gs : List Nat} (hG : ∀ g, g ∈ Gs → g < w.heap.size) : ∃ v, e = .returned v ∧ Below w.heap.size w w' ∧ WdG m (hx w' Gs) v p := by
  obtain ⟨hm, g, c, rfl, hb, hg, ho⟩ := h
  refine ⟨_, rfl, hb, hm, some ⟨g, 0, none⟩, c, by rw [length_tab], ⟨by simp [length_tab], fun _ => ⟨_, rfl, fun j x hx' => ?_⟩⟩⟩
  rw [add_lit0]
  unfold Fz.cell
  rw [hx_out (fun hg' => by have := hG g hg'; omega), ho]
  simpa using hx'
/-! ### Places -/
def plC (ps : List (Nat × Value)) : List Value := ps.flatMap fun p => [.int .i64 (p.1 : Nat), p.2]
theorem plC_append (a b : List (Nat × Value)) : plC (a ++ b) = plC a ++ plC b := by simp [plC]
theorem length_plC (ps : List (Nat × Value)) : (plC ps).length = ps.length * 2 := by
  induction ps with
  | nil => rfl
  | cons p ps ih => simp [plC] at ih ⊢; omega
theorem get_plC : ∀ (ps : List (Nat × Value)) (j : Nat) (p : Nat × Value), ps[j]? = some p → (plC ps)[j * 2]? = some (.int .i64 (p.1 : Nat)) ∧ (plC ps)[j * 2 + 1]? = some p.2
  | [], j, p, h => by simp at h
  | q :: ps, 0, p, h => by
    simp at h
    subst h
    simp [plC]
  | q :: ps, j + 1, p, h => by
    have := get_plC ps j p (by simpa using h)
    rw [show plC (q :: ps) = .int .i64 (q.1 : Nat) :: q.2 :: plC ps from rfl, show (j + 1) * 2 = j * 2 + 1 + 1 by omega]
    exact this
def PlV (m : Nat) (F : Fz) (L : Fst) (ps : List (Nat × Value)) : Prop := ps.length = L.length ∧ ∀ (j : Nat) (p : Nat × (Nat → Bool)), L[j]? = some p → ∃ v, ps[j]? = some (p.1, v) ∧ WdF m F v p.2
/-- The slice at A of n places reads as L. -/
def PlF (m : Nat) (F : Fz) (A : Option Addr) (n : Nat) (L : Fst) : Prop := L.length = n ∧ ∃ ps, Rd F 2 A n (plC ps) ∧ PlV m F L ps
theorem PlV.cle {m : Nat} {F F' : Fz} {L : Fst} {ps : List (Nat × Value)} (h : PlV m F L ps) (hle : CLe F F') : PlV m F' L ps :=
  ⟨h.1, fun j p hj => let ⟨v, h1, h2⟩ := h.2 j p hj; ⟨v, h1, h2.cle hle⟩⟩
theorem PlV.nil (m : Nat) (F : Fz) : PlV m F [] [] := ⟨rfl, fun j p h => by simp at h⟩
theorem PlV.append {m : Nat} {F : Fz} {L L' : Fst} {ps ps' : List (Nat × Value)} (h : PlV m F L ps) (h' : PlV m F L' ps') : PlV m F (L ++ L') (ps ++ ps') := by
  refine ⟨by simp [h.1, h'.1], fun j p hj => ?_⟩
  by_cases hl : j < L.length
  · rw [List.getElem?_append_left hl] at hj
    rw [List.getElem?_append_left (by rw [h.1]; exact hl)]
    exact h.2 j p hj
  · rw [List.getElem?_append_right (by omega)] at hj
    rw [List.getElem?_append_right (by rw [h.1]; omega), h.1]
    exact h'.2 _ p hj
theorem PlV.one {m : Nat} {F : Fz} (q : Nat) {v : Value} {f : Nat → Bool} (h : WdF m F v f) : PlV m F [(q, f)] [(q, v)] := by
  refine ⟨rfl, fun j p hj => ?_⟩
  cases j with
  | zero => simp at hj; subst hj; exact ⟨v, rfl, h⟩
  | succ j => simp at hj
theorem PlV.ones {m : Nat} {F : Fz} {L : Fst} {ps : List (Nat × Value)} (h : PlV m F L ps) : ∀ x ∈ plC ps, x.oneCell' = true := by
  intro x hx
  simp only [plC, List.mem_flatMap] at hx
  obtain ⟨p, hp, hx⟩ := hx
  simp only [List.mem_cons, List.mem_nil_iff, or_false] at hx
  rcases hx with rfl | rfl
  · rfl
  · obtain ⟨j, hj, e⟩ := List.getElem_of_mem hp
    obtain ⟨v, h1, h2⟩ := h.2 j (L[j]'(by rw [← h.1]; exact hj)) (List.getElem?_eq_getElem _)
    rw [List.getElem?_eq_getElem hj, e] at h1
    injection h1 with h1
    rw [h1]
    exact h2.one
theorem PlF.cle {m : Nat} {F F' : Fz} {A : Option Addr} {n : Nat} {L : Fst} (h : PlF m F A n L) (hle : CLe F F') : PlF m F' A n L :=
  let ⟨h1, ps, h2, h3⟩ := h
  ⟨h1, ps, h2.cle hle, h3.cle hle⟩
theorem PlF.nil (m : Nat) (F : Fz) (A : Option Addr) : PlF m F A 0 [] := ⟨rfl, [], Rd.nil, .nil _ _⟩
theorem PlF.at_ {m : Nat} {F : Fz} {A : Option Addr} {n : Nat} {L : Fst} (h : PlF m F A n L) {j : Nat} {p : Nat × (Nat → Bool)} (hj : L[j]? = some p) : ∃ ad v, A = some ad ∧ F.cell (ad.add (j * 2)) = some (.int .i64 (p.1 : Nat)) ∧ F.cell ((ad.add (j * 2)).add 1) = some v ∧ WdF m F v p.2 := by
  obtain ⟨h1, ps, h2, h3, h4⟩ := h
  obtain ⟨v, hv, hw⟩ := h4 j p hj
  have hl : j < L.length := (List.getElem?_eq_some_iff.1 hj).1
  obtain ⟨ad, e, hc⟩ := h2.2 (by omega)
  obtain ⟨g1, g2⟩ := get_plC ps j _ hv
  exact ⟨ad, v, e, hc _ _ g1, by rw [add_of_add]; exact hc _ _ g2, hw⟩
/-- A row of places of the call's own. -/
def OwnL (m : Nat) (F : Fz) (w : World) (B : Nat) (v : Value) (L : Fst) : Prop := ∃ ps, Own F w B 112 2 v L.length (plC ps) ∧ PlV m F L ps
namespace OwnL
variable {m : Nat} {F F' : Fz} {w w' : World} {B : Nat} {v : Value} {L : Fst}
theorem nil (m : Nat) (F : Fz) (w : World) (B : Nat) : OwnL m F w B (.slice none 0 0) [] := ⟨[], Own.nil _ _ _ _ _, .nil _ _⟩
theorem call (h : OwnL m F w B v L) (hb : Below w.heap.size w w') : OwnL m F w' B v L := let ⟨ps, h1, h2⟩ := h; ⟨ps, h1.call hb, h2⟩
theorem alloc (h : OwnL m F w B v L) (o : Obj) : OwnL m F (w.alloc o) B v L := h.call (balloc _ _)
theorem le (h : OwnL m F w B v L) (hle : Fle w F F') : OwnL m F' w B v L := let ⟨ps, h1, h2⟩ := h; ⟨ps, h1.le hle, h2.cle hle.cle⟩
theorem lt (h : OwnL m F w B v L) : ∀ g, v.ownBlock = some g → B ≤ g ∧ g < w.heap.size := let ⟨_, h1, _⟩ := h; h1.1.lt
theorem put (h : OwnL m F w B v L) {g : Nat} {o : Obj} (hg : F g = none) (hv : v.ownBlock ≠ some g) : OwnL m (F.put g o) w B v L := by
  obtain ⟨ps, ⟨h1, h1'⟩, h2⟩ := h
  refine ⟨ps, ⟨h1, fun g' hg' => ?_⟩, h2.cle fun a u hc => ?_⟩
  · unfold Fz.put
    rw [if_neg (fun e => hv (by rw [hg', e]))]
    exact h1' g' hg'
  · unfold Fz.cell at hc ⊢
    unfold Fz.put
    have : a.block ≠ g := fun e => by rw [e, hg] at hc; cases hc
    rw [if_neg this]
    exact hc
/-- It is made. -/
theorem done (h : OwnL m F w B v L) (hF : Sat F w) : ∃ A c, v = .slice A L.length c ∧ L.length ≤ c ∧ PlF m (heapF w) A L.length L ∧ ∀ a, A = some a → B ≤ a.block := by
  obtain ⟨ps, h1, h2⟩ := h
  obtain ⟨A, c, rfl, hc, hr⟩ := h1.rdH
  exact ⟨A, c, rfl, hc, ⟨rfl, ps, hr, h2.cle hF.cle⟩, fun a ha => by subst ha; exact (h1.1.lt a.block rfl).1⟩
end OwnL
theorem place_info : (Try.prog.info? 112).map (fun i => (i.zero, i.size, i.bytes)) = some (some (.agg #[.int .i64 0, .slice none 0 0]), 2, 32) := by kernel_rfl
theorem step_allL {w : World} {ops : Array Oper} {o : Oper} {a : Act} {K : Act → World → Prop} {Q : Exit → Act → World → Prop} {E : Prop} (hgd : o.guard = none) (s x : Operand)
    (ho : o.op = .call { callee := .builtin .append, args := #[s, x], argTypes := #[113, 113] })
    {m : Nat} {F : Fz} {B : Nat} {v : Value} {L : Fst} (hown : OwnL m F w B v L) (hF : Sat F w) (hs : a.eval s = v)
    (A : Option Addr) (n c : Nat) (L' : Fst) (hx : a.eval x = .slice A n c) (hr : PlF m F A n L') (hn : L.length + n ≤ 1000000) (hB : B ≤ w.heap.size)
    (h : ∀ v' w', OwnL m F w' B v' (L ++ L') → Sat F w' → Below B w w' → w.grownBy w' v.ownBlock → (v'.ownBlock = v.ownBlock ∨ v'.ownBlock = some w.heap.size) → K (a.put o.dst v') w') :
    if Region.wanted o (yielded ops a.tmps) = true then Oper.wp Try.prog o a w K Q else E := by
  obtain ⟨ps, h1, h2⟩ := hown
  obtain ⟨hm, ps', h3, h4⟩ := hr
  refine step_pushAll hgd s x _ ho 112 _ 2 32 Try.underlying113 place_info rfl (by omega) h1 hF hs A n c (plC ps') hx hF h3 h4.ones (by simp [maxLen]; omega) (by omega) hB ?_
  intro v' w' h5 h6 h7 h8 h9
  exact h v' w' ⟨ps ++ ps', by rw [plC_append, List.length_append, hm]; exact h5, h2.append h4⟩ h6 h7 h8 h9
theorem step_ownL {w : World} {ops : Array Oper} {o : Oper} {a : Act} {K : Act → World → Prop} {Q : Exit → Act → World → Prop} {E : Prop} (hgd : o.guard = none) (s x : Operand)
    (ho : o.op = .call { callee := .builtin .append, args := #[s, x], argTypes := #[113, 113] })
    {m : Nat} {F : Fz} {B B2 : Nat} {v v2 : Value} {L L' : Fst} (hown : OwnL m F w B v L) (hown2 : OwnL m F w B2 v2 L') (hF : Sat F w) (hs : a.eval s = v) (hx : a.eval x = v2)
    (hn : L.length + L'.length ≤ 1000000) (hB : B ≤ w.heap.size)
    (h : ∀ v' w', OwnL m F w' B v' (L ++ L') → Sat F w' → Below B w w' → w.grownBy w' v.ownBlock → (v'.ownBlock = v.ownBlock ∨ v'.ownBlock = some w.heap.size) → K (a.put o.dst v') w') :
    if Region.wanted o (yielded ops a.tmps) = true then Oper.wp Try.prog o a w K Q else E := by
  obtain ⟨ps, h1, h2⟩ := hown
  obtain ⟨ps', h3, h4⟩ := hown2
  obtain ⟨A, c, e, hc, hr⟩ := h3.rdH
  refine step_pushAll hgd s x _ ho 112 _ 2 32 Try.underlying113 place_info rfl (by omega) h1 hF hs A L'.length c (plC ps') (hx.trans e) (sat_heapF w) hr h4.ones (by simp [maxLen]; omega) (by omega) hB ?_
  intro v' w' h5 h6 h7 h8 h9
  exact h v' w' ⟨ps ++ ps', by rw [plC_append, List.length_append]; exact h5, h2.append h4⟩ h6 h7 h8 h9
theorem step_pushL {w : World} {ops : Array Oper} {o : Oper} {a : Act} {K : Act → World → Prop} {Q : Exit → Act → World → Prop} {E : Prop} (hgd : o.guard = none) (s x : Operand)
    (ho : o.op = .call { callee := .builtin .append, args := #[s, x], argTypes := #[113, 113] })
    {m : Nat} {F : Fz} {B : Nat} {v y : Value} {L : Fst} {q : Nat} {f : Nat → Bool} (hown : OwnL m F w B v L) (hy : WdF m F y f) (hF : Sat F w) (hs : a.eval s = v)
    (g c : Nat) (hx : a.eval x = .slice (some ⟨g, 0, none⟩) 1 c) (hg : Blk w g 112 #[.int .i64 (q : Nat), y]) (hn : L.length + 1 ≤ 1000000) (hB : B ≤ w.heap.size)
    (h : ∀ v' w', OwnL m F w' B v' (L ++ [(q, f)]) → Sat F w' → Below B w w' → w.grownBy w' v.ownBlock → (v'.ownBlock = v.ownBlock ∨ v'.ownBlock = some w.heap.size) → K (a.put o.dst v') w') :
    if Region.wanted o (yielded ops a.tmps) = true then Oper.wp Try.prog o a w K Q else E := by
  obtain ⟨ps, h1, h2⟩ := hown
  have hr : Rd (heapF w) 2 (some ⟨g, 0, none⟩) 1 [.int .i64 (q : Nat), y] := by
    refine ⟨rfl, fun _ => ⟨_, rfl, fun j u hu => ?_⟩⟩
    rw [add_lit0]
    unfold Fz.cell heapF
    rw [hg]
    simpa using hu
  refine step_pushAll hgd s x _ ho 112 _ 2 32 Try.underlying113 place_info rfl (by omega) h1 hF hs _ 1 c _ hx (sat_heapF w) hr (fun u hu => by
    simp at hu
    rcases hu with rfl | rfl
    · rfl
    · exact hy.one) (by simp [maxLen]; omega) (by omega) hB ?_
  intro v' w' h3 h4 h5 h6 h7
  exact h v' w' ⟨ps ++ [(q, y)], by rw [plC_append, List.length_append]; exact h3, h2.append (PlV.one q hy)⟩ h4 h5 h6 h7
end Go.Proofs.Ytaomehlhopiblaa
/-! The walk of within: steps as far as a function holds. -/
namespace Go.Proofs.Ytaomehlhopiblaa
open Go.RowKit
attribute [local go_sem ↓] Go.wp_at_zero Go.wp_at_succ
theorem q_and {m : Nat} (hm : m ≤ 10) {w : World} {v v' : Value} {p q : Nat → Bool} (h : Wd m w v p) (h' : Wd m w v' q) : Calls Try.prog 21 #[.int .i64 m, v, v'] w (RetQ m w fun x => and (p x) (q x)) := by
  obtain ⟨A, n, c, fs, rfl, hr, hl, hp⟩ := h
  obtain ⟨A', n', c', fs', rfl, hr', hl', hp'⟩ := h'
  exact (andf_yes (sat_heapF w) m hm fs fs' A A' n n' c c' hr hr').mono fun e w' r => retQ hm (fun x hx => by rw [hp x hx, hp' x hx]) r
theorem q_or {m : Nat} (hm : m ≤ 10) {w : World} {v v' : Value} {p q : Nat → Bool} (h : Wd m w v p) (h' : Wd m w v' q) : Calls Try.prog 22 #[.int .i64 m, v, v'] w (RetQ m w fun x => or (p x) (q x)) := by
  obtain ⟨A, n, c, fs, rfl, hr, hl, hp⟩ := h
  obtain ⟨A', n', c', fs', rfl, hr', hl', hp'⟩ := h'
  exact (orf_yes (sat_heapF w) m hm fs fs' A A' n n' c c' hr hr').mono fun e w' r => retQ hm (fun x hx => by rw [hp x hx, hp' x hx]) r
/-- A row of places of the call's own comes back. -/
def RetL (m : Nat) (F : Fz) (w : World) (L : Fst) (e : Ending) (w' : World) : Prop := ∃ v F', e = .returned v ∧ OwnL m F' w' w.heap.size v L ∧ Sat F' w' ∧ Below w.heap.size w w' ∧ Fle w F F'
theorem blkP2 {w : World} {g : Nat} {t : TypeId} {a b : Value} (h : Blk w g t #[a, b]) : w.cell? ⟨g, 0, none⟩ = some a ∧ w.cell? ⟨g, 1, none⟩ = some b ∧ w.frozen? ⟨g, 0, none⟩ = false ∧ w.frozen? ⟨g, 1, none⟩ = false := by
  refine ⟨?_, ?_, h.frozen 0, h.frozen 1⟩ <;> rw [h.cell] <;> rfl
def cutL (L : Fst) (f : Nat → Bool) : Fst := L.map fun p => (p.1, fun x => and (p.2 x) (f x))
theorem cutL_take {L : Fst} {f : Nat → Bool} {j : Nat} {p : Nat × (Nat → Bool)} (h : L[j]? = some p) : cutL (L.take (j + 1)) f = cutL (L.take j) f ++ [(p.1, fun x => and (p.2 x) (f x))] := by
  have hl : j < L.length := (List.getElem?_eq_some_iff.1 h).1
  have e : L[j] = p := (List.getElem?_eq_some_iff.1 h).2
  unfold cutL
  rw [List.take_succ_eq_append_getElem hl, List.map_append, e]
  rfl
theorem length_cutL (L : Fst) (f : Nat → Bool) : (cutL L f).length = L.length := by simp [cutL]
set_option maxRecDepth 100000 in
set_option maxHeartbeats 2000000 in
theorem within_w {F : Fz} {w : World} (hF : Sat F w) (m : Nat) (hm : m ≤ 10) (gp : Nat) (hp : F.cell ⟨gp, 0, none⟩ = some (.int .i64 (m : Nat))) (A : Option Addr) (n c : Nat) (L : Fst) (hL : PlF m F A n L) (hn : n ≤ 1000) (V : Value) (f : Nat → Bool) (hV : WdF m F V f) :
    Calls Try.prog 77 #[.pointer (some ⟨gp, 0, none⟩), .slice A n c, V] w (RetL m F w (cutL L f)) := by
  obtain ⟨AV, nV, cV, fV, eV, hh⟩ := id hV
  have HV := Lib.hid hV
  subst eV
  clear hV hh
  have HA := Lib.hid (fun (X : World) (v v' : Value) (p q : Nat → Bool) (h : Wd m X v p) (h' : Wd m X v' q) => q_and hm h h')
  have HL := Lib.hid hL
  have hLn : L.length = n := hL.1
  have HLn := Lib.hid hLn
  have hpl := hF.clt hp
  have HP := Lib.hid hp
  clear hL hLn hp
  go_enter Try.func77, Try.ntmps77
  go_wp2_with fail
  go_loopw [7, 9, 12] (fun v7 _ v12 wr => ∃ (j : Nat) (F' : Fz) (V7 : Value), j ≤ n ∧ V7 = v7 ∧ v12 = .int .i64 j ∧ OwnL m F' wr w.heap.size V7 (cutL (L.take j) f) ∧ Sat F' wr ∧ Below w.heap.size w wr ∧ Fle w F F') (fun _ _ v12 _ => n - (intOf v12).toNat)
  case atStart => exact ⟨0, F, _, Nat.zero_le _, rfl, rfl, OwnL.nil _ _ _ _, hF, Below.refl _ _, Fle.refl _ _⟩
  case round =>
    obtain ⟨j, F', V7, hj, rfl, rfl, hO, hFr, hbl, hle⟩ := hrel
    have hzl := hbl.size
    by_cases hlt : j < n
    · have hjI : (j : Int) < (n : Int) := by omega
      have hjl : j < L.length := by rw [HLn.out]; exact hlt
      obtain ⟨p, hpj⟩ : ∃ p, L[j]? = some p := ⟨_, List.getElem?_eq_getElem hjl⟩
      obtain ⟨ad, y, rfl, hc0, hc1, hy⟩ := (HL.out.cle hle.cle).at_ hpj
      obtain ⟨Ay, ny, cy, fy, ey, hh⟩ := id hy
      subst ey
      clear hh
      have HTK := Lib.hid (cutL_take (f := f) hpj)
      have HV' := Lib.hid (HV.out.cle hle.cle)
      have HY := Lib.hid hy
      have z0 := hFr.cell hc0
      have z1 := hFr.cell hc1
      have z2 := hFr.cell (hle.cell HP.out)
      obtain ⟨q, pf⟩ := p
      dsimp only at z0 z1 HY HTK
      have z1' : wr.cell? ⟨(ad.add (j * 2)).block, (ad.add (j * 2)).off + 1, none⟩ = some (.slice Ay ny cy) := by have := z1; rw [add_succ] at this; exact this
      have hlen : (cutL (L.take j) f).length + 1 ≤ 1000000 := by rw [length_cutL, List.length_take]; omega
      clear hpj hc0 hc1 hy z1
      go_wp2_with fail
      have hKT := Blk.new wr 112 #[.int .i64 (q : Nat), .slice Ay ny cy]
      have hbW := balloc wr (.cells #[.int .i64 (q : Nat), .slice Ay ny cy] 112)
      have hOW := hO.alloc (.cells #[.int .i64 (q : Nat), .slice Ay ny cy] 112)
      obtain ⟨W, hW⟩ : ∃ W, wr.alloc (.cells #[.int .i64 (q : Nat), .slice Ay ny cy] 112) = W := ⟨_, rfl⟩
      rw [hW] at hKT hbW hOW ⊢
      have hFW := hFr.below hbW
      obtain ⟨k0, k1, _, _⟩ := blkP2 hKT
      have hkl := hKT.lt
      have z3 := (hbW.cell (p := ⟨gp, 0, none⟩) (by show gp < _; omega)).trans z2
      have hgl : gp < W.heap.size := by have := hbW.size; omega
      have hown : some wr.heap.size ≠ V7.ownBlock := fun e => by have := (hO.lt _ e.symm).2; omega
      have HOL := Lib.hid (fun g (e : V7.ownBlock = some g) => (hO.lt g e).2)
      have hzW := hbW.size
      have HF' := Lib.hid hle
      clear hW hO hFr hle z2 hF
      go_region_held3 (fun w' => w'.cell? ⟨wr.heap.size, 0, none⟩ = some (.int .i64 (q : Nat)) ∧ w'.cell? ⟨wr.heap.size, 1, none⟩ = some (.slice Ay ny cy) ∧ w'.cell? ⟨gp, 0, none⟩ = some (.int .i64 (m : Nat))) (go_keep)
        (first
          | (go_at_call 21; refine (HA.out _ _ _ _ _ (HY.out.heap hFW.drew) (HV'.out.heap hFW.drew)).mono ?_; rintro e w3 ⟨A3, n3, c3, g3, o3, rfl, hw3, hg3, ho3, hW3⟩; have hb3 : Below W.heap.size W w3 := undr hw3; have hF3 := (hFW.below hb3).put ho3; have hz3 := hb3.size; have hg3' : W.heap.size ≤ g3 := hg3; have HO3 := (hOW.call hb3).put (o := o3) (hFW.none_ hg3') (fun e => by have := HOL.out _ e; omega); have HLE := HF'.out.trans (Fle.put (w := w) o3 (hFW.none_ hg3') (by omega)) (Nat.le_refl _); have HW3 := Lib.hid hW3; have s0 := (hb3.cell (p := ⟨wr.heap.size, 0, none⟩) hkl).trans k0; have s1 := (hb3.cell (p := ⟨wr.heap.size, 1, none⟩) hkl).trans k1; have s2 := hF3.cell (HLE.cell HP.out); clear hW3 ho3 hw3 hg3)
          | ((refine step_pushL rfl (.tmp 16) (.tmp 28) (by rfl) (m := m) (F := F'.put g3 o3) (B := w.heap.size) (q := q) (f := fun x => and (pf x) (f x)) (HO3.alloc _) (HW3.out _) (hF3.alloc _) (by rfl) w3.heap.size 1 (by rfl) (Blk.new _ _ _) hlen (by simp; omega) ?_; intro v8 w8 hO8 hF8 hb8 hg8 hat8; have k8 := blkP2 (((hKT.call hb3).alloc _).grown hg8 hown); have s3 := k8.1; have s4 := k8.2.1; have s5 := hF8.cell (HLE.cell HP.out))))
      all_goals
        go_wp2_with fail
        go_roundw
        case rel => exact ⟨j + 1, F'.put g3 o3, _, by omega, rfl, by go_num, by rw [HTK.out]; exact hO8, hF8, (((hbl.trans (hbW.mono hzl)).trans (hb3.mono (by omega))).alloc (by omega) _).trans hb8, HLE⟩
        case measure => simp [intOf]; omega
    · obtain rfl : j = n := by omega
      have hdec : decide ((j : Int) < (j : Int)) = false := decide_eq_false (by omega)
      rw [show L.take j = L by rw [← HLn.out, List.take_length]] at hO
      go_wp2_with fail
      go_ret
      exact ⟨_, F', rfl, hO, hFr, hbl, hle⟩
end Go.Proofs.Ytaomehlhopiblaa
