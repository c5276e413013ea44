/- One pass: what back remembers of each state: plain. -/
import Derived.Test.YtaomehlhopiblaaOnlZ
set_option linter.unusedVariables false
set_option linter.unusedSimpArgs false
/-! One pass: what back remembers of each state: plain. -/
namespace Go.Proofs.Ytaomehlhopiblaa
open Go.RowKit
theorem RowA.set_cell {m n : Nat} {Gs : List Nat} {T : TypeId} {w : World} {g : Nat} {f : Nat → Fn} (h : RowA m n Gs T w g f) {k : Nat} (hk : k < n) (v : Value) : (w.setCell ⟨g, k, none⟩ v).cell? ⟨g, k, none⟩ = some v := by
  obtain ⟨cs, h1, h2, _⟩ := h
  rw [(h1.set_ k v).cell]
  simp [h2, hk]
/-- Of each state what is ahead and where there is an end: not known yet, or told. -/
def MemoW (m M : Nat) (NX : Nat → Nat → Fn) (EN : Nat → Fn) (gN gE : Nat) (Hs : List Nat) (w : World) : Prop := ∃ ns es : List Value,
  Blk w gN 42 ns.toArray ∧ ns.length = M + 1 ∧ Blk w gE 49 es.toArray ∧ es.length = M + 1 ∧ (∀ v ∈ ns, ∃ A n c, v = .slice A n c) ∧ (∀ v ∈ es, ∃ A n c, v = .slice A n c) ∧
  ∀ k, k < M + 1 → es[k]? = some (.slice none 0 0) ∨ ∃ gk ae ne ce, ns[k]? = some (.slice (some ⟨gk, 0, none⟩) M M) ∧ RwF m (hx w Hs) (some ⟨gk, 0, none⟩) M (NX k) ∧ es[k]? = some (.slice (some ae) ne ce) ∧ WdF m (hx w Hs) (.slice (some ae) ne ce) (EN k)
/-- A state is known. -/
def Known (m M : Nat) (NX : Nat → Nat → Fn) (EN : Nat → Fn) (gN gE : Nat) (Hs : List Nat) (w : World) (k : Nat) : Prop := ∃ gk ae ne ce, w.cell? ⟨gN, k, none⟩ = some (.slice (some ⟨gk, 0, none⟩) M M) ∧ RwF m (hx w Hs) (some ⟨gk, 0, none⟩) M (NX k) ∧ w.cell? ⟨gE, k, none⟩ = some (.slice (some ae) ne ce) ∧ WdF m (hx w Hs) (.slice (some ae) ne ce) (EN k)
section
variable {m M : Nat} {NX : Nat → Nat → Fn} {EN : Nat → Fn} {gN gE : Nat} {Hs Ks : List Nat} {w w' : World}
theorem MemoW.wr (h : MemoW m M NX EN gN gE Hs w) (hc : CLe (hx w Hs) (hx w' Ks)) (hN : w'.heap[gN]? = w.heap[gN]?) (hE : w'.heap[gE]? = w.heap[gE]?) : MemoW m M NX EN gN gE Ks w' :=
  let ⟨ns, es, h1, h2, h3, h4, h5, h6, h7⟩ := h
  ⟨ns, es, hN.trans h1, h2, hE.trans h3, h4, h5, h6, fun k hk => (h7 k hk).imp id fun ⟨gk, ae, ne, ce, e1, e2, e3, e4⟩ => ⟨gk, ae, ne, ce, e1, e2.cle hc, e3, e4.cle hc⟩⟩
theorem MemoW.nouN (h : MemoW m M NX EN gN gE Hs w) : NoU w gN ∧ NoU w gE := by
  obtain ⟨ns, es, h1, h2, h3, h4, h5, h6, h7⟩ := h
  refine ⟨NoU.blk h1 fun v hv x e => ?_, NoU.blk h3 fun v hv x e => ?_⟩
  · obtain ⟨A, n, c, rfl⟩ := h5 v (by simpa using hv)
    cases e
  · obtain ⟨A, n, c, rfl⟩ := h6 v (by simpa using hv)
    cases e
theorem MemoW.lt (h : MemoW m M NX EN gN gE Hs w) : gN < w.heap.size ∧ gE < w.heap.size := let ⟨_, _, h1, _, h3, _⟩ := h; ⟨h1.lt, h3.lt⟩
theorem MemoW.soft (h : MemoW m M NX EN gN gE Hs w) (i : Nat) : w.frozen? ⟨gN, i, none⟩ = false ∧ w.frozen? ⟨gE, i, none⟩ = false := let ⟨_, _, h1, _, h3, _⟩ := h; ⟨h1.frozen i, h3.frozen i⟩
theorem MemoW.at_ (h : MemoW m M NX EN gN gE Hs w) {k : Nat} (hk : k < M + 1) : (∃ A n c, w.cell? ⟨gN, k, none⟩ = some (.slice A n c)) ∧ (w.cell? ⟨gE, k, none⟩ = some (.slice none 0 0) ∨ Known m M NX EN gN gE Hs w k) := by
  obtain ⟨ns, es, h1, h2, h3, h4, h5, h6, h7⟩ := h
  have c1 : ∀ v, ns[k]? = some v → w.cell? ⟨gN, k, none⟩ = some v := fun v hv => by rw [h1.cell]; simpa using hv
  have c2 : ∀ v, es[k]? = some v → w.cell? ⟨gE, k, none⟩ = some v := fun v hv => by rw [h3.cell]; simpa using hv
  refine ⟨?_, (h7 k hk).imp (c2 _) fun ⟨gk, ae, ne, ce, e1, e2, e3, e4⟩ => ⟨gk, ae, ne, ce, c1 _ e1, e2, c2 _ e3, e4⟩⟩
  have hn : ns[k]? = some (ns[k]'(by omega)) := List.getElem?_eq_getElem _
  obtain ⟨A, n, c, e⟩ := h5 _ (List.getElem_mem (by omega : k < ns.length))
  exact ⟨A, n, c, by rw [c1 _ hn, e]⟩
theorem MemoW.both (h : MemoW m M NX EN gN gE Hs w) {k : Nat} (hk : k < M + 1) : (∃ A n c, w.cell? ⟨gN, k, none⟩ = some (.slice A n c)) ∧ ∃ A n c, w.cell? ⟨gE, k, none⟩ = some (.slice A n c) :=
  let ⟨h1, h2⟩ := h.at_ hk
  ⟨h1, h2.elim (fun e => ⟨none, 0, 0, e⟩) fun ⟨_, ae, ne, ce, _, _, e, _⟩ => ⟨some ae, ne, ce, e⟩⟩
theorem MemoW.new (hne : gN ≠ gE) (h1 : Blk w gN 42 (zeros (.slice none 0 0) (M + 1))) (h2 : Blk w gE 49 (zeros (.slice none 0 0) (M + 1))) : MemoW m M NX EN gN gE Hs w :=
  ⟨List.replicate (M + 1) (.slice none 0 0), List.replicate (M + 1) (.slice none 0 0), h1, by simp, h2, by simp, fun v hv => ⟨_, _, _, List.eq_of_mem_replicate hv⟩, fun v hv => ⟨_, _, _, List.eq_of_mem_replicate hv⟩, fun k hk => .inl (by rw [List.getElem?_replicate, if_pos hk])⟩
/-- A state is found. -/
theorem MemoW.put (h : MemoW m M NX EN gN gE Hs w) (hne : gN ≠ gE) (hN : gN ∈ Hs) (hE : gE ∈ Hs) {k : Nat} (hk : k < M + 1) {gk ne ce : Nat} {ae : Addr} (hr : RwF m (hx w Hs) (some ⟨gk, 0, none⟩) M (NX k)) (hv : WdF m (hx w Hs) (.slice (some ae) ne ce) (EN k)) :
    MemoW m M NX EN gN gE Hs ((w.setCell ⟨gN, k, none⟩ (.slice (some ⟨gk, 0, none⟩) M M)).setCell ⟨gE, k, none⟩ (.slice (some ae) ne ce)) := by
  obtain ⟨ns, es, h1, h2, h3, h4, h5, h6, h7⟩ := h
  have hle := (((Wr.refl Hs w).set hN k (.slice (some ⟨gk, 0, none⟩) M M)).set hE k (.slice (some ae) ne ce)).cle
  refine ⟨ns.set k (.slice (some ⟨gk, 0, none⟩) M M), es.set k (.slice (some ae) ne ce), ?_, by simp [h2], ?_, by simp [h4], fun v hv => ?_, fun v hv => ?_, fun j hj => ?_⟩
  · have := (h1.set_ k (.slice (some ⟨gk, 0, none⟩) M M)).far (p := ⟨gE, k, none⟩) hne (.slice (some ae) ne ce)
    simpa using this
  · have := (h3.far (p := ⟨gN, k, none⟩) hne.symm (.slice (some ⟨gk, 0, none⟩) M M)).set_ k (.slice (some ae) ne ce)
    simpa using this
  · rcases List.mem_or_eq_of_mem_set hv with e | rfl
    · exact h5 v e
    · exact ⟨_, _, _, rfl⟩
  · rcases List.mem_or_eq_of_mem_set hv with e | rfl
    · exact h6 v e
    · exact ⟨_, _, _, rfl⟩
  · by_cases e : j = k
    · subst e
      exact .inr ⟨gk, ae, ne, ce, by rw [List.getElem?_set_self (by omega)], hr.cle hle, by rw [List.getElem?_set_self (by omega)], hv.cle hle⟩
    · rw [List.getElem?_set_ne (Ne.symm e), List.getElem?_set_ne (Ne.symm e)]
      exact (h7 j hj).imp id fun ⟨gk, ae, ne, ce, e1, e2, e3, e4⟩ => ⟨gk, ae, ne, ce, e1, e2.cle hle, e3, e4.cle hle⟩
theorem MemoW.put_known (h : MemoW m M NX EN gN gE Hs w) (hne : gN ≠ gE) (hN : gN ∈ Hs) (hE : gE ∈ Hs) {k : Nat} (hk : k < M + 1) {gk ne ce : Nat} {ae : Addr} (hr : RwF m (hx w Hs) (some ⟨gk, 0, none⟩) M (NX k)) (hv : WdF m (hx w Hs) (.slice (some ae) ne ce) (EN k)) :
    Known m M NX EN gN gE Hs ((w.setCell ⟨gN, k, none⟩ (.slice (some ⟨gk, 0, none⟩) M M)).setCell ⟨gE, k, none⟩ (.slice (some ae) ne ce)) k := by
  obtain ⟨ns, es, h1, h2, h3, h4, _⟩ := h
  have hle := (((Wr.refl Hs w).set hN k (.slice (some ⟨gk, 0, none⟩) M M)).set hE k (.slice (some ae) ne ce)).cle
  refine ⟨gk, ae, ne, ce, ?_, hr.cle hle, ?_, hv.cle hle⟩
  · rw [((h1.set_ k (.slice (some ⟨gk, 0, none⟩) M M)).far (p := ⟨gE, k, none⟩) hne (.slice (some ae) ne ce)).cell]
    simp [h2, hk]
  · rw [((h3.far (p := ⟨gN, k, none⟩) hne.symm (.slice (some ⟨gk, 0, none⟩) M M)).set_ k (.slice (some ae) ne ce)).cell]
    simp [h4, hk]
end
/-- What back goes on with: Hs is what may be written. -/
structure BK (m M : Nat) (NX : Nat → Nat → Fn) (EN : Nat → Fn) (W1 : World) (gN gE gw : Nat) (Hs : List Nat) (w : World) : Prop where
  wr : Wr [gN, gE] W1 w
  memo : MemoW m M NX EN gN gE Hs w
  nou : ∀ g, g ∈ Hs → NoU w g
  lt : ∀ g, g ∈ Hs → g < w.heap.size
  inN : gN ∈ Hs
  inE : gE ∈ Hs
  inW : gw ∈ Hs
  old : ∀ g, g ∈ Hs → g = gN ∨ g = gE ∨ g = gw ∨ W1.heap.size ≤ g
section
variable {m M : Nat} {NX : Nat → Nat → Fn} {EN : Nat → Fn} {W1 : World} {gN gE gw : Nat} {Hs : List Nat} {w w' : World}
theorem BK.call (h : BK m M NX EN W1 gN gE gw Hs w) (hb : Below w.heap.size w w') : BK m M NX EN W1 gN gE gw Hs w' :=
  ⟨h.wr.call hb, h.memo.wr (Wr.of_below hb).cle (hb.block _ h.memo.lt.1) (hb.block _ h.memo.lt.2), fun g hg => (h.nou g hg).keep (hb.block g (h.lt g hg)), fun g hg => Nat.lt_of_lt_of_le (h.lt g hg) hb.size, h.inN, h.inE, h.inW, h.old⟩
/-- One more block that may be written. -/
theorem BK.new (h : BK m M NX EN W1 gN gE gw Hs w) (hb : Below w.heap.size w w') {g : Nat} (hg : w.heap.size ≤ g) (hl : g < w'.heap.size) (hno : NoU w' g) : BK m M NX EN W1 gN gE gw (g :: Hs) w' := by
  have h' := h.call hb
  have hW : W1.heap.size ≤ w.heap.size := h.wr.size
  refine ⟨h'.wr, h.memo.wr (cle_new (Wr.of_below hb) hg) (hb.block _ h.memo.lt.1) (hb.block _ h.memo.lt.2), fun b hb' => ?_, fun b hb' => ?_, List.mem_cons_of_mem _ h.inN, List.mem_cons_of_mem _ h.inE, List.mem_cons_of_mem _ h.inW, fun b hb' => ?_⟩
  · rcases List.mem_cons.1 hb' with rfl | e
    · exact hno
    · exact h'.nou b e
  · rcases List.mem_cons.1 hb' with rfl | e
    · exact hl
    · exact h'.lt b e
  · rcases List.mem_cons.1 hb' with rfl | e
    · exact .inr (.inr (.inr (by omega)))
    · exact h.old b e
theorem BK.drop {g : Nat} (h : BK m M NX EN W1 gN gE gw (g :: Hs) w) (hN : gN ∈ Hs) (hE : gE ∈ Hs) (hW : gw ∈ Hs) : BK m M NX EN W1 gN gE gw Hs w :=
  ⟨h.wr, h.memo.wr (hx_less fun _ hb => List.mem_cons_of_mem _ hb) rfl rfl, fun b hb => h.nou b (List.mem_cons_of_mem _ hb), fun b hb => h.lt b (List.mem_cons_of_mem _ hb), hN, hE, hW, fun b hb => h.old b (List.mem_cons_of_mem _ hb)⟩
/-- A block that is neither of the two tables is written. -/
theorem BK.set (h : BK m M NX EN W1 gN gE gw Hs w) {g : Nat} (hg : g ∈ Hs) (h1 : g ≠ gN) (h2 : g ≠ gE) (h3 : W1.heap.size ≤ g) (i : Nat) {A : Option Addr} {n c : Nat} (hno : NoU (w.setCell ⟨g, i, none⟩ (.slice A n c)) g) : BK m M NX EN W1 gN gE gw Hs (w.setCell ⟨g, i, none⟩ (.slice A n c)) := by
  have hb : ∀ b, b ≠ g → (w.setCell ⟨g, i, none⟩ (.slice A n c)).heap[b]? = w.heap[b]? := fun b hb => Below.heap_setCell w ⟨g, i, none⟩ _ b hb
  refine ⟨⟨h.wr.os, h.wr.tape, h.wr.output, by simpa using h.wr.size, fun b h4 h5 => (hb b (by omega)).trans (h.wr.block b h4 h5)⟩, h.memo.wr (wr_set hg i _).cle (hb _ h1.symm) (hb _ h2.symm), fun b hb' => ?_, fun b hb' => by simpa using h.lt b hb', h.inN, h.inE, h.inW, h.old⟩
  by_cases e : b = g
  · subst e; exact hno
  · exact (h.nou b hb').keep (hb b e)
theorem BK.grown (h : BK m M NX EN W1 gN gE gw Hs w) {row : Option Nat} (hg : w.grownBy w' row) (hr : ∀ g, row = some g → g ∈ Hs ∧ g ≠ gN ∧ g ≠ gE ∧ W1.heap.size ≤ g ∧ NoU w' g) : BK m M NX EN W1 gN gE gw Hs w' := by
  have hb : ∀ b, b < w.heap.size → some b ≠ row → w'.heap[b]? = w.heap[b]? := hg.block
  refine ⟨⟨hg.os.trans h.wr.os, hg.tape.trans h.wr.tape, hg.output.trans h.wr.output, Nat.le_trans h.wr.size hg.size, fun b h4 h5 => (hb b (Nat.lt_of_lt_of_le h4 h.wr.size) (fun e => by have := (hr b e.symm).2.2.2.1; omega)).trans (h.wr.block b h4 h5)⟩,
    h.memo.wr (wr_grown hg fun g e => (hr g e).1).cle (hb _ h.memo.lt.1 fun e => (hr _ e.symm).2.1 rfl) (hb _ h.memo.lt.2 fun e => (hr _ e.symm).2.2.1 rfl), fun b hb' => ?_, fun b hb' => Nat.lt_of_lt_of_le (h.lt b hb') hg.size, h.inN, h.inE, h.inW, h.old⟩
  by_cases e : some b = row
  · exact (hr b e.symm).2.2.2.2
  · exact (h.nou b hb').keep (hb b (h.lt b hb') e)
/-- One block that is neither of the two tables has been written. -/
theorem BK.only (h : BK m M NX EN W1 gN gE gw Hs w) {g : Nat} (hw : Wr [g] w w') (hg : g ∈ Hs) (h1 : g ≠ gN) (h2 : g ≠ gE) (h3 : W1.heap.size ≤ g) (hno : NoU w' g) : BK m M NX EN W1 gN gE gw Hs w' := by
  have hb : ∀ b, b < w.heap.size → b ≠ g → w'.heap[b]? = w.heap[b]? := fun b hb hn => hw.block b hb (by simpa using hn)
  refine ⟨⟨hw.os.trans h.wr.os, hw.tape.trans h.wr.tape, hw.output.trans h.wr.output, Nat.le_trans h.wr.size hw.size, fun b h4 h5 => (hb b (Nat.lt_of_lt_of_le h4 h.wr.size) (by omega)).trans (h.wr.block b h4 h5)⟩,
    h.memo.wr (hw.more (Hs := Hs) fun b e => by simp at e; rw [e]; exact hg).cle (hb _ h.memo.lt.1 h1.symm) (hb _ h.memo.lt.2 h2.symm), fun b hb' => ?_, fun b hb' => Nat.lt_of_lt_of_le (h.lt b hb') hw.size, h.inN, h.inE, h.inW, h.old⟩
  by_cases e : b = g
  · rw [e]; exact hno
  · exact (h.nou b hb').keep (hb b (h.lt b hb') e)
theorem Known.call {k : Nat} (h : Known m M NX EN gN gE Hs w k) (hb : Below w.heap.size w w') (hl : gN < w.heap.size ∧ gE < w.heap.size) : Known m M NX EN gN gE Hs w' k :=
  let ⟨gk, ae, ne, ce, e1, e2, e3, e4⟩ := h
  ⟨gk, ae, ne, ce, (hb.cell (p := ⟨gN, k, none⟩) hl.1).trans e1, e2.cle (Wr.of_below hb).cle, (hb.cell (p := ⟨gE, k, none⟩) hl.2).trans e3, e4.cle (Wr.of_below hb).cle⟩
theorem BK.put (h : BK m M NX EN W1 gN gE gw Hs w) (hne : gN ≠ gE) {k : Nat} (hk : k < M + 1) {gk ne ce : Nat} {ae : Addr} (hr : RwF m (hx w Hs) (some ⟨gk, 0, none⟩) M (NX k)) (hv : WdF m (hx w Hs) (.slice (some ae) ne ce) (EN k)) :
    BK m M NX EN W1 gN gE gw Hs ((w.setCell ⟨gN, k, none⟩ (.slice (some ⟨gk, 0, none⟩) M M)).setCell ⟨gE, k, none⟩ (.slice (some ae) ne ce)) := by
  have hm := h.memo.put hne h.inN h.inE hk hr hv
  have hb : ∀ b, b ≠ gN → b ≠ gE → ((w.setCell ⟨gN, k, none⟩ (.slice (some ⟨gk, 0, none⟩) M M)).setCell ⟨gE, k, none⟩ (.slice (some ae) ne ce)).heap[b]? = w.heap[b]? := fun b h1 h2 => (Below.heap_setCell _ ⟨gE, k, none⟩ _ b h2).trans (Below.heap_setCell w ⟨gN, k, none⟩ _ b h1)
  refine ⟨(h.wr.set (by simp) k _).set (by simp) k _, hm, fun b hb' => ?_, fun b hb' => by simpa using h.lt b hb', h.inN, h.inE, h.inW, h.old⟩
  by_cases e1 : b = gN
  · rw [e1]; exact hm.nouN.1
  · by_cases e2 : b = gE
    · rw [e2]; exact hm.nouN.2
    · exact (h.nou b hb').keep (hb b e1 e2)
/-- A row of the call's own has grown by one. -/
theorem BK.pushed {F : Fz} {e : TypeId} {size n n' : Nat} {v v' : Value} {xs xs' : List Value} {wA : World} (h : BK m M NX EN W1 gN gE gw Hs w) (hb : Below w.heap.size w wA) (hO : OwnU F wA W1.heap.size e size v n xs) (hL : ∀ g, v.ownBlock = some g → g ∈ Hs) (hg : wA.grownBy w' v.ownBlock)
    (hO' : OwnU F w' W1.heap.size e size v' n' xs') (hat : v'.ownBlock = v.ownBlock ∨ v'.ownBlock = some wA.heap.size) (hU : ∀ g, v.ownBlock = some g → NoU w' g) (hN : gN < W1.heap.size) (hE : gE < W1.heap.size) :
    ∃ Hs2, BK m M NX EN W1 gN gE gw Hs2 w' ∧ (∀ g, v'.ownBlock = some g → g ∈ Hs2) ∧ CLe (hx w Hs) (hx w' Hs2) := by
  have hA := h.call hb
  have hB := hA.grown hg (fun g e => ⟨hL g e, by have := (hO.1.1.lt g e).1; omega, by have := (hO.1.1.lt g e).1; omega, (hO.1.1.lt g e).1, hU g e⟩)
  have hle : CLe (hx w Hs) (hx w' Hs) := (Wr.of_below hb).cle.trans (wr_grown hg fun g e => hL g e).cle
  rcases hat with hat | hat
  · exact ⟨Hs, hB, fun g e => hL g (by rw [← hat]; exact e), hle⟩
  · have hlt : wA.heap.size < w'.heap.size := (hO'.1.1.lt _ hat).2
    have hWw : W1.heap.size ≤ wA.heap.size := hA.wr.size
    refine ⟨wA.heap.size :: Hs, ⟨hB.wr, hA.memo.wr (cle_new (wr_grown hg fun g e => hL g e) (Nat.le_refl _)) (hg.block _ hA.memo.lt.1 fun e => by have := (hO.1.1.lt _ e.symm).1; omega) (hg.block _ hA.memo.lt.2 fun e => by have := (hO.1.1.lt _ e.symm).1; omega), fun b hb' => ?_, fun b hb' => ?_, List.mem_cons_of_mem _ h.inN, List.mem_cons_of_mem _ h.inE, List.mem_cons_of_mem _ h.inW, fun b hb' => ?_⟩, fun g e => ?_, (Wr.of_below hb).cle.trans (cle_new (wr_grown hg fun g e => hL g e) (Nat.le_refl _))⟩
    · rcases List.mem_cons.1 hb' with rfl | e
      · exact hO'.2 _ hat
      · exact hB.nou b e
    · rcases List.mem_cons.1 hb' with rfl | e
      · exact hlt
      · exact hB.lt b e
    · rcases List.mem_cons.1 hb' with rfl | e
      · exact .inr (.inr (.inr hWw))
      · exact h.old b e
    · rw [hat] at e
      injection e with e
      rw [← e]
      exact List.mem_cons_self
end
end Go.Proofs.Ytaomehlhopiblaa
