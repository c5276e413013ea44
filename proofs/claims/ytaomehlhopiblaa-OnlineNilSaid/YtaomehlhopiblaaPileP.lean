/- Lists of lists of nodes: rows of the call's own; append at a step of a region that draws its order. -/
import Derived.Test.YtaomehlhopiblaaJoin
import Derived.Deep.RegionHeld3
import Derived.Deep.RegionLaw
import Derived.Deep.DrawnRows
set_option linter.unusedVariables false
set_option linter.unusedSimpArgs false
namespace Go.Proofs.Ytaomehlhopiblaa
open Go.RowKit
section
variable {P : Program}
theorem run_pushAll {w : World} (t ty e : TypeId) (z : Value) (size bytes : Nat) (ht : P.underlying t = some (.slice e)) (hi : (P.info? e).map (fun i => (i.zero, i.size, i.bytes)) = some (some z, size, bytes)) (hzs : z.cells.size = size) (hsz : 0 < size)
    {F F' : Fz} {B n : Nat} {v : Value} {xs : List Value} (hown : Own F w B e size v n xs) (hF : Sat F w)
    (A : Option Addr) (m c : Nat) (news : List Value) (hF' : Sat F' w) (hr : Rd F' size A m news) (h1 : ∀ u ∈ news, u.oneCell' = true)
    (h63 : n + m ≤ maxLen) (hbytes : (n + m) * bytes ≤ 140737488355328) (hB : B ≤ w.heap.size) :
    ∃ v' w', (Builtin.append_ #[t, t] ty #[v, .slice A m c]).run P w = .ok v' w' ∧ Own F w' B e size v' (n + m) (xs ++ news) ∧ Sat F w' ∧ Below B w w' ∧ w.grownBy w' v.ownBlock ∧ (v'.ownBlock = v.ownBlock ∨ v'.ownBlock = some w.heap.size) := by
  obtain ⟨i, hi, hz0, hz1, hz2⟩ := info_parts hi
  have fin : ∀ v' w', w'.ownsRow B e size v' (n + m) (xs ++ news) → w.grownBy w' v.ownBlock → (v'.ownBlock = v.ownBlock ∨ v'.ownBlock = some w.heap.size) → Own F w' B e size v' (n + m) (xs ++ news) ∧ Sat F w' ∧ Below B w w' ∧ w.grownBy w' v.ownBlock ∧ (v'.ownBlock = v.ownBlock ∨ v'.ownBlock = some w.heap.size) := by
    intro v' w' h2 h3 h5
    refine ⟨⟨h2, fun g' hg' => ?_⟩, hF.grown h3 hown.2, (Below.refl B w).grown h3 hB fun k hk => (hown.1.lt k hk).1, h3, h5⟩
    rcases h5 with h5 | h5
    · exact hown.2 g' (by rw [← h5]; exact hg')
    · rw [hg'] at h5
      injection h5 with h5
      subst h5
      exact hF.none_ (Nat.le_refl _)
  rcases A with _ | ad
  · have hm : m = 0 := by
      rcases Nat.eq_zero_or_pos m with h0 | h0
      · exact h0
      · obtain ⟨ad, h, _⟩ := hr.2 h0
        cases h
    subst hm
    have hn : news = [] := List.eq_nil_of_length_eq_zero (by simpa using hr.1)
    subst hn
    exact ⟨v, w, run_append_of_nil (P := P) w B t ty e i size ht hi v n xs hown.1 c, fin v w (by simpa using hown.1) (World.grownBy.refl w _) (.inl rfl)⟩
  · obtain ⟨v', w', hrun, h2, h3, _, h5⟩ := run_append_own_at (P := P) w B t ty e i z size bytes ht hi hz0 hz1 hz2 hzs hsz v n xs hown.1 ad m c news hr.1 (fun j u hu => by
      rcases Nat.eq_zero_or_pos m with h0 | h0
      · subst h0
        have hn : news = [] := List.eq_nil_of_length_eq_zero (by simpa using hr.1)
        subst hn
        simp at hu
      · obtain ⟨ad', h', hc⟩ := hr.2 h0
        injection h' with h'
        subst h'
        exact hF'.cell (hc j u hu)) h1 h63 hbytes hB
    exact ⟨v', w', hrun, fin v' w' h2 h3 h5⟩
/-- append of what a slice reads as, at a step of a region that draws its order. -/
theorem step_pushAll {w : World} {ops : Array Oper} {o : Oper} {a : Act} {K : Act → World → Prop} {Q : Exit → Act → World → Prop} {E : Prop} (hgd : o.guard = none) (s x : Operand) (t : TypeId)
    (ho : o.op = .call { callee := .builtin .append, args := #[s, x], argTypes := #[t, t] })
    (e : TypeId) (z : Value) (size bytes : Nat) (ht : P.underlying t = some (.slice e)) (hi : (P.info? e).map (fun i => (i.zero, i.size, i.bytes)) = some (some z, size, bytes)) (hzs : z.cells.size = size) (hsz : 0 < size)
    {F F' : Fz} {B n : Nat} {v : Value} {xs : List Value} (hown : Own F w B e size v n xs) (hF : Sat F w) (hs : a.eval s = v)
    (A : Option Addr) (m c : Nat) (news : List Value) (hx : a.eval x = .slice A m c) (hF' : Sat F' w) (hr : Rd F' size A m news) (h1 : ∀ u ∈ news, u.oneCell' = true)
    (h63 : n + m ≤ maxLen) (hbytes : (n + m) * bytes ≤ 140737488355328) (hB : B ≤ w.heap.size)
    (h : ∀ v' w', Own F w' B e size v' (n + m) (xs ++ news) → Sat F w' → Below B w w' → w.grownBy w' v.ownBlock → (v'.ownBlock = v.ownBlock ∨ v'.ownBlock = some w.heap.size) → K (a.put o.dst v') w') :
    if Region.wanted o (yielded ops a.tmps) = true then Oper.wp P o a w K Q else E := by
  have hw : Region.wanted o (yielded ops a.tmps) = true := by simp [Region.wanted, hgd]
  rw [if_pos hw]
  obtain ⟨v', w', hrun, h2, h3, h4, h5, h6⟩ := run_pushAll (P := P) t o.type e z size bytes ht hi hzs hsz hown hF A m c news hF' hr h1 h63 hbytes hB
  unfold Oper.wp execOp
  simp only [ho, resolve, invoke, builtin, Sem.run_bind, Sem.run_pure, Result.andThen_ok, List.map_toArray, List.map_cons, List.map_nil, hs, hx, hrun]
  exact h v' w' h2 h3 h4 h5 h6
end
/-- The headers of a list of lists of nodes; the nodes are frozen in F. -/
inductive RowsV (F : Fz) : List (List Nd) → List Value → Prop
  | nil : RowsV F [] []
  | cons (l : List Nd) (ls : List (List Nd)) (A : Option Addr) (c : Nat) (xs : List Value) (hc : l.length ≤ c) (hl : NodesF F A l.length l) (h : RowsV F ls xs) : RowsV F (l :: ls) (.slice A l.length c :: xs)
namespace RowsV
variable {F F' : Fz}
theorem len {ls : List (List Nd)} {xs : List Value} (h : RowsV F ls xs) : xs.length = ls.length := by
  induction h with
  | nil => rfl
  | cons l ls A c xs _ _ _ ih => simp [ih]
theorem cle {ls : List (List Nd)} {xs : List Value} (h : RowsV F ls xs) (hle : CLe F F') : RowsV F' ls xs := by
  induction h with
  | nil => exact .nil
  | cons l ls A c xs hc hl _ ih => exact .cons l ls A c xs hc (hl.cle hle) ih
theorem append {ls ls' : List (List Nd)} {xs xs' : List Value} (h : RowsV F ls xs) (h' : RowsV F ls' xs') : RowsV F (ls ++ ls') (xs ++ xs') := by
  induction h with
  | nil => exact h'
  | cons l ls A c xs hc hl _ ih => exact .cons l _ A c _ hc hl ih
theorem one {l : List Nd} {A : Option Addr} {c : Nat} (hc : l.length ≤ c) (hl : NodesF F A l.length l) : RowsV F [l] [.slice A l.length c] := .cons l [] A c [] hc hl .nil
theorem ones {ls : List (List Nd)} {xs : List Value} (h : RowsV F ls xs) : ∀ u ∈ xs, u.oneCell' = true := by
  induction h with
  | nil => intro u hu; cases hu
  | cons l ls A c xs _ _ _ ih =>
    intro u hu
    rcases List.mem_cons.1 hu with rfl | h
    · rfl
    · exact ih u h
theorem take {ls : List (List Nd)} {xs : List Value} (h : RowsV F ls xs) : ∀ k, RowsV F (ls.take k) (xs.take k) := by
  induction h with
  | nil => intro k; simp; exact .nil
  | cons l ls A c xs hc hl _ ih =>
    intro k
    cases k with
    | zero => simp; exact .nil
    | succ k => exact .cons l _ A c _ hc hl (ih k)
theorem at_ {ls : List (List Nd)} {xs : List Value} (h : RowsV F ls xs) : ∀ (i : Nat) (hi : i < ls.length), ∃ A c, ls[i].length ≤ c ∧ NodesF F A ls[i].length ls[i] ∧ xs[i]? = some (.slice A ls[i].length c) := by
  induction h with
  | nil => intro i hi; simp at hi
  | cons l ls A c xs hc hl _ ih =>
    intro i hi
    cases i with
    | zero => exact ⟨A, c, hc, hl, rfl⟩
    | succ i => exact ih i (by simpa using hi)
end RowsV
/-- A row of lists of nodes of the call's own. -/
def OwnR (F : Fz) (w : World) (B : Nat) (v : Value) (ls : List (List Nd)) : Prop := ∃ xs, Own F w B 35 1 v ls.length xs ∧ RowsV F ls xs
namespace OwnR
variable {F F' : Fz} {w w' : World} {B : Nat} {v : Value} {ls : List (List Nd)}
theorem nil (F : Fz) (w : World) (B : Nat) : OwnR F w B (.slice none 0 0) [] := ⟨[], Own.nil _ _ _ _ _, .nil⟩
theorem call (h : OwnR F w B v ls) (hb : Below w.heap.size w w') : OwnR F w' B v ls := let ⟨xs, h1, h2⟩ := h; ⟨xs, h1.call hb, h2⟩
theorem alloc (h : OwnR F w B v ls) (o : Obj) : OwnR F (w.alloc o) B v ls := let ⟨xs, h1, h2⟩ := h; ⟨xs, h1.alloc o, h2⟩
theorem drewN (h : OwnR F w B v ls) (n : Nat) : OwnR F (w.drewN n) B v ls := h
theorem drew (h : OwnR F w B v ls) : OwnR F w.drew B v ls := h
theorem le (h : OwnR F w B v ls) (hle : Fle w F F') : OwnR F' w B v ls := let ⟨xs, h1, h2⟩ := h; ⟨xs, h1.le hle, h2.cle hle.cle⟩
theorem setFar (h : OwnR F w B v ls) {a : Addr} (ha : v.ownBlock ≠ some a.block) (u : Value) : OwnR F (w.setCell a u) B v ls := let ⟨xs, h1, h2⟩ := h; ⟨xs, h1.setFar ha u, h2⟩
theorem kept {row : Option Nat} (h : OwnR F w B v ls) (hg : w.grownBy w' row) (hne : v.ownBlock = none ∨ v.ownBlock ≠ row) : OwnR F w' B v ls := let ⟨xs, h1, h2⟩ := h; ⟨xs, h1.kept hg hne, h2⟩
theorem lt (h : OwnR F w B v ls) : ∀ g, v.ownBlock = some g → B ≤ g ∧ g < w.heap.size := let ⟨_, h1, _⟩ := h; h1.1.lt
theorem shape (h : OwnR F w B v ls) : ∃ A c, v = .slice A ls.length c ∧ ls.length ≤ c := let ⟨_, h1, _⟩ := h; h1.shape
theorem base {B' : Nat} (h : OwnR F w B v ls) (hB : B' ≤ B) : OwnR F w B' v ls := by
  obtain ⟨xs, ⟨⟨hl, h1⟩, h2⟩, h3⟩ := h
  refine ⟨xs, ⟨⟨hl, ?_⟩, h2⟩, h3⟩
  rcases h1 with h1 | ⟨g, cap, cur, e, hg, hr⟩
  · exact .inl h1
  · exact .inr ⟨g, cap, cur, e, by omega, hr⟩
/-- It reads as its headers, which lie in the whole memory. -/
theorem rd (h : OwnR F w B v ls) : ∃ A c xs, v = .slice A ls.length c ∧ ls.length ≤ c ∧ Rd (heapF w) 1 A ls.length xs ∧ RowsV F ls xs := by
  obtain ⟨xs, h1, h2⟩ := h
  obtain ⟨A, c, e, hc, hr⟩ := h1.rdH
  exact ⟨A, c, xs, e, hc, hr, h2⟩
/-- Cut off behind the first k. -/
theorem cut {A : Option Addr} {n c : Nat} (h : OwnR F w B (.slice A n c) ls) {k : Nat} (hk : k ≤ n) : OwnR F w B (.slice A k c) (ls.take k) := by
  obtain ⟨xs, ⟨⟨hl, h1⟩, h2⟩, h3⟩ := h
  have hlen := h3.len
  have hle : (ls.take k).length = k := by
    rcases h1 with ⟨e, h0⟩ | ⟨g, cap, cur, e, _⟩
    · injection e with _ e1 _; simp; omega
    · injection e with _ e1 _; simp; omega
  refine ⟨xs.take k, ⟨⟨by rw [hle]; simp; simp at hle; omega, ?_⟩, fun g hg => h2 g (by cases A with | none => simp [Value.ownBlock] at hg | some a => simpa [Value.ownBlock] using hg)⟩, h3.take k⟩
  rw [hle]
  rcases h1 with ⟨e, h0⟩ | ⟨g, cap, cur, e, hg, hh, hc1, hc2, hc3, hc4⟩
  · injection e with e1 e2 e3
    subst e1 e3
    have : k = 0 := by omega
    subst this
    exact .inl ⟨rfl, rfl⟩
  · injection e with e1 e2 e3
    subst e1 e3
    refine .inr ⟨g, c, cur, rfl, hg, hh, by omega, hc2, hc3, ?_⟩
    rw [← hc4, List.take_take]
    congr 1
    simp at hle ⊢
    omega
end OwnR
theorem bel_eqv {B : Nat} {a w w' : World} (h : Below B a w) (h1 : w'.heap = w.heap) (h2 : w'.os = w.os) (h3 : w'.tape = w.tape) (h4 : w'.output = w.output) : Below B a w' :=
  ⟨h2.trans h.os, h3.trans h.tape, h4.trans h.output, by rw [h1]; exact h.size, fun b hb => by rw [h1]; exact h.block b hb⟩
theorem Blk.new2 (w : World) (o : Obj) (t : TypeId) (cs : Array Value) : Blk ((w.alloc o).alloc (.cells cs t)) (w.heap.size + 1) t cs := by
  have := Blk.new (w.alloc o) t cs
  simpa using this
theorem bel_trans {N W w2 : World} (h : Below N.heap.size N W) (k : Below W.heap.size W w2) : Below N.heap.size N w2 := h.trans (k.mono h.size)
theorem OwnR.empty {F : Fz} {w : World} (B : Nat) (hF : Sat F w) (hB : B ≤ w.heap.size) : OwnR F (w.alloc (.cells #[] 35)) B (.slice (some ⟨w.heap.size, 0, none⟩) 0 0) [] := ⟨[], Own.empty F w B _ 1 hF rfl hB, .nil⟩
end Go.Proofs.Ytaomehlhopiblaa
/-! The walks of the law's Span and plainer. -/
namespace Go.Proofs.Ytaomehlhopiblaa
open Go.RowKit
end Go.Proofs.Ytaomehlhopiblaa
/-! Piles of trees: what each number adds. Plain definitions and lemmas. -/
namespace Go.Proofs.Ytaomehlhopiblaa
/-! What is piled up may be. -/
def validT : Tr → Bool
  | .leaf h => fieldsS { h with kids := [] }
  | .un h a => fieldsS { h with kids := [0] } && (regS a.root.kind == wantsS h.kind) && validT a
  | .bin h a b => fieldsS { h with kids := [0, 0] } && (regS a.root.kind == wantsS h.kind) && (regS b.root.kind == wantsS h.kind) && validT a && validT b
theorem fields_len (h : Nd) (ks ks' : List Int) (hl : ks.length = ks'.length) : fieldsS { h with kids := ks } = fieldsS { h with kids := ks' } := by
  unfold fieldsS
  simp only [hl]
theorem fold_flat : ∀ (t : Tr) (st : List Tr), validT t = true → ∃ t', (t.flat (total st)).foldlM pushS st = some (t' :: st) ∧ t'.size = t.size ∧ t'.root.kind = t.root.kind ∧ (∀ o, t'.flat o = t.flat o) ∧ t'.depth = t.depth
  | .leaf h, st, hv => by
    refine ⟨.leaf { h with kids := [] }, ?_, rfl, rfl, fun o => rfl, rfl⟩
    simp only [Tr.flat, List.foldlM_cons, List.foldlM_nil, pushS]
    rw [if_pos (show fieldsS { h with kids := [] } = true from hv)]
    rfl
  | .un h a, st, hv => by
    simp only [validT, Bool.and_eq_true, beq_iff_eq] at hv
    obtain ⟨⟨h1, h2⟩, h3⟩ := hv
    obtain ⟨a', e1, e2, e3, e4, e5⟩ := fold_flat a st h3
    refine ⟨.un { h with kids := [((total st + a.size : Nat) : Int) - 1] } a', ?_, by simp [Tr.size, e2], rfl, fun o => by simp [Tr.flat, e4, e2], by simp [Tr.depth, e5]⟩
    simp only [Tr.flat]
    rw [List.foldlM_append, e1]
    simp only [Option.bind_eq_bind, Option.bind_some, List.foldlM_cons, List.foldlM_nil, pushS]
    rw [if_pos ((fields_len h [((total st + a.size : Nat) : Int) - 1] [0] rfl).trans h1), if_pos ⟨by rw [total_cons, e2, Nat.add_comm], by rw [e3]; exact h2⟩]
    rfl
  | .bin h a b, st, hv => by
    simp only [validT, Bool.and_eq_true, beq_iff_eq] at hv
    obtain ⟨⟨⟨⟨h1, h2⟩, h3⟩, h4⟩, h5⟩ := hv
    obtain ⟨a', e1, e2, e3, e4, e5⟩ := fold_flat a st h4
    obtain ⟨b', f1, f2, f3, f4, f5⟩ := fold_flat b (a' :: st) h5
    rw [total_cons, e2, Nat.add_comm] at f1
    refine ⟨.bin { h with kids := [((total st + a.size : Nat) : Int) - 1, ((total st + a.size + b.size : Nat) : Int) - 1] } a' b', ?_, by simp [Tr.size, e2, f2], rfl, fun o => by simp [Tr.flat, e4, e2, f4, f2], by simp [Tr.depth, e5, f5]⟩
    simp only [Tr.flat]
    rw [List.foldlM_append, List.foldlM_append, e1]
    simp only [Option.bind_eq_bind, Option.bind_some, f1, List.foldlM_cons, List.foldlM_nil, pushS]
    rw [if_pos ((fields_len h [((total st + a.size : Nat) : Int) - 1, ((total st + a.size + b.size : Nat) : Int) - 1] [0, 0] rfl).trans h1), if_pos ⟨by rw [total_cons, total_cons, e2, f2]; congr 1; omega, by rw [f3]; exact h3, by rw [total_cons, e2, Nat.add_comm], by rw [e3]; exact h2⟩]
    rfl
end Go.Proofs.Ytaomehlhopiblaa
