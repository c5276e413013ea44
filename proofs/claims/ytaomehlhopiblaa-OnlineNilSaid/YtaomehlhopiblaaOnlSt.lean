/- One pass: the walk of Step: what a pass keeps; a point. -/
import Derived.Test.YtaomehlhopiblaaOnlPs
import Derived.Test.YtaomehlhopiblaaOnlTe
import Derived.Test.YtaomehlhopiblaaOnlTl
set_option linter.unusedVariables false
set_option linter.unusedSimpArgs false
/-! One pass: the walk of Step: what a pass keeps; a point. -/
namespace Go.Proofs.Ytaomehlhopiblaa
open Go.RowKit
attribute [local go_sem ↓] Go.wp_at_zero Go.wp_at_succ
theorem blk8 {w : World} {g : Nat} {t : TypeId} {a b c d e f h k : Value} (hb : Blk w g t #[a, b, c, d, e, f, h, k]) :
    w.cell? ⟨g, 0, none⟩ = some a ∧ w.cell? ⟨g, 1, none⟩ = some b ∧ w.cell? ⟨g, 2, none⟩ = some c ∧ w.cell? ⟨g, 3, none⟩ = some d ∧ w.cell? ⟨g, 4, none⟩ = some e ∧ w.cell? ⟨g, 5, none⟩ = some f ∧ w.cell? ⟨g, 6, none⟩ = some h ∧ w.cell? ⟨g, 7, none⟩ = some k :=
  ⟨hb.cell 0, hb.cell 1, hb.cell 2, hb.cell 3, hb.cell 4, hb.cell 5, hb.cell 6, hb.cell 7⟩
/-- What a pass at go goes on writing. -/
def blkOf (Ap : Option Addr) : List Nat := match Ap with | some a => [a.block] | none => []
def gsW (go gw : Nat) (Ap : Option Addr) : List Nat := go :: gw :: blkOf Ap
/-- A pass at go between two points. -/
def PassW (m : Nat) (l : List Nd) (t : Tr) (B go gx gw : Nat) (w : World) (s : OnSt) (last : Nat) (Ap : Option Addr) (cp : Nat) : Prop := ∃ (Al : Option Addr) (cl : Nat) (ps : List (Nat × Value)),
  Blk w go 40 #[.slice Al l.length cl, .int .i64 (m : Nat), .slice (some ⟨gx, 0, none⟩) l.length l.length, .slice (some ⟨gw, 0, none⟩) l.length l.length, .slice Ap s.pd.length cp, .int .i64 (s.pts : Nat), .int .u64 (last : Nat), .bool false] ∧
  l.length ≤ cl ∧ NodesF (hx w (gsW go gw Ap)) Al l.length l ∧ RxF (hx w (gsW go gw Ap)) t gx ∧ WnW m t gw (gsW go gw Ap) w s.win ∧ NoU w gw ∧
  OwnU (hx w (gsW go gw Ap)) w B 52 2 (.slice Ap s.pd.length cp) s.pd.length (plC ps) ∧ PlV m (hx w (gsW go gw Ap)) s.pd ps ∧ go ≠ gw ∧ B ≤ go ∧ B ≤ gw ∧ ∀ a, Ap = some a → a.block ≠ go ∧ a.block ≠ gw
/-- What a point leaves. -/
def RetSt (m : Nat) (l : List Nd) (t : Tr) (B go gx gw : Nat) (w : World) (Gs : List Nat) (I : List Itm) (s : OnSt) (last : Nat) (e : Ending) (w' : World) : Prop := ∃ (AI : Option Addr) (cI : Nat) (Ap : Option Addr) (cp : Nat),
  e = .returned (.tuple #[.slice AI I.length cI, .int .i64 0]) ∧ PassW m l t B go gx gw w' s last Ap cp ∧ Wr Gs w w' ∧ (∀ g, g ∈ gsW go gw Ap → g ∈ Gs ∨ w.heap.size ≤ g) ∧ Rd (hx w' (gsW go gw Ap)) 4 AI I.length (itC I) ∧ I.length ≤ cI
theorem WnW.cle {m : Nat} {t : Tr} {gw : Nat} {Gs Hs : List Nat} {w w' : World} {win : Nat → Win} (h : WnW m t gw Gs w win) (hc : CLe (hx w Gs) (hx w' Hs)) (hB : w'.heap[gw]? = w.heap[gw]?) : WnW m t gw Hs w' win :=
  let ⟨cs, ⟨ds, h1, h1'⟩, h2, h3⟩ := h
  ⟨cs, ⟨ds, hB.trans h1, h1'⟩, h2, fun i hi => let ⟨A, n, c, e, hw, hz⟩ := h3 i hi; ⟨A, n, c, e, fun hd a hx hk => (hw hd a hx hk).cle hc, hz⟩⟩
theorem own_blk {F : Fz} {w w' : World} {B : Nat} {e : TypeId} {size n : Nat} {v : Value} {xs : List Value} (h : Own F w B e size v n xs) (hb : ∀ g, v.ownBlock = some g → w'.heap[g]? = w.heap[g]?) : Own F w' B e size v n xs := by
  obtain ⟨⟨h1, h2⟩, h3⟩ := h
  refine ⟨⟨h1, ?_⟩, h3⟩
  rcases h2 with h2 | ⟨g, cap, cur, e1, e2, e3, e4⟩
  · exact .inl h2
  · exact .inr ⟨g, cap, cur, e1, e2, (hb g (by rw [e1]; rfl)).trans e3, e4⟩
theorem own_setAt {F : Fz} {w : World} {B : Nat} {e : TypeId} {size n g cap : Nat} {xs : List Value} (h : Own F w B e size (.slice (some ⟨g, 0, none⟩) n cap) n xs) (k : Nat) (u : Value) : Own F (w.setCell ⟨g, k, none⟩ u) B e size (.slice (some ⟨g, 0, none⟩) n cap) n (xs.set k u) := by
  obtain ⟨⟨h1, h2⟩, h3⟩ := h
  refine ⟨⟨by rw [List.length_set]; exact h1, ?_⟩, h3⟩
  rcases h2 with ⟨h2, _⟩ | ⟨g', cap', cur, e1, e2, e3, e4, e5, e6, e7⟩
  · cases h2
  · injection e1 with e1 _ e8
    injection e1 with e1
    injection e1 with e1
    subst e1 e8
    have hB : Blk w g e cur := e3
    refine .inr ⟨g, cap, cur.setIfInBounds k u, rfl, e2, hB.set_ k u, e4, e5, by simpa using e6, ?_⟩
    rw [Array.toList_setIfInBounds, List.take_set, e7]
theorem plC_set : ∀ (ps : List (Nat × Value)) (j : Nat) (q : Nat) (v v' : Value), ps[j]? = some (q, v) → (plC ps).set (j * 2 + 1) v' = plC (ps.set j (q, v'))
  | [], _, _, _, _, h => by cases h
  | p :: ps, 0, q, v, v', h => by
    injection h with h
    subst h
    rfl
  | p :: ps, j + 1, q, v, v', h => by
    have := plC_set ps j q v v' h
    show (Value.int .i64 (p.1 : Nat) :: p.2 :: plC ps).set ((j + 1) * 2 + 1) v' = Value.int .i64 (p.1 : Nat) :: p.2 :: plC (ps.set j (q, v'))
    rw [← this, show (j + 1) * 2 + 1 = (j * 2 + 1) + 1 + 1 by omega]
    rfl
theorem plV_set {m : Nat} {F : Fz} {L : Fst} {ps : List (Nat × Value)} (h : PlV m F L ps) {j : Nat} {p : Nat × Fn} (hj : L[j]? = some p) {v' : Value} {f' : Fn} (hv : WdF m F v' f') : PlV m F (L.set j (p.1, f')) (ps.set j (p.1, v')) := by
  obtain ⟨h1, h2⟩ := h
  have hjl := (List.getElem?_eq_some_iff.1 hj).1
  refine ⟨by rw [List.length_set, List.length_set, h1], fun i q hi => ?_⟩
  by_cases e : i = j
  · subst e
    rw [List.getElem?_set_self hjl] at hi
    injection hi with hi
    subst hi
    exact ⟨v', by rw [List.getElem?_set_self (by omega)], hv⟩
  · rw [List.getElem?_set_ne (Ne.symm e)] at hi
    obtain ⟨v, e1, e2⟩ := h2 i q hi
    exact ⟨v, by rw [List.getElem?_set_ne (Ne.symm e)]; exact e1, e2⟩
theorem TrW.cell {m : Nat} {t : Tr} {g : Nat} {Gs : List Nat} {w : World} {k : Nat} {tr : Nat → Fn} (h : TrW m t g Gs w k tr) {j : Nat} (hj : j < t.size) : ∃ v, w.cell? ⟨g, j, none⟩ = some v :=
  let ⟨_, h1, h2, _⟩ := h
  ⟨_, h1.cell (List.getElem?_eq_getElem (by omega))⟩
theorem TrW.zero {m : Nat} {t : Tr} {g : Nat} {Gs : List Nat} {w : World} {n : Nat} (hn : n = t.size) (h : Blk w g 49 (zeros (.slice none 0 0) n)) (tr : Nat → Fn) : TrW m t g Gs w 0 tr :=
  ⟨List.replicate n (.slice none 0 0), ⟨_, h, fun j u hj => by unfold zeros; rw [List.getElem?_toArray]; exact hj⟩, by rw [List.length_replicate, hn], fun j hj => absurd hj (by omega)⟩
theorem ownU_setAt {F : Fz} {w : World} {B : Nat} {e : TypeId} {size n g cap : Nat} {xs : List Value} (h : OwnU F w B e size (.slice (some ⟨g, 0, none⟩) n cap) n xs) (k : Nat) {A : Option Addr} {i c : Nat} {v' : Value} (hc : w.cell? ⟨g, k, none⟩ = some v') : OwnU F (w.setCell ⟨g, k, none⟩ (.slice A i c)) B e size (.slice (some ⟨g, 0, none⟩) n cap) n (xs.set k (.slice A i c)) :=
  ⟨own_setAt h.1 k _, fun g' hg' => (h.2 g' hg').set hc⟩
theorem node_skip {m d : Nat} {prop : ByteArray → Bool} {i : Nat} {s : StM} : ∀ {u : Tr}, Pl false u → nodeM m d prop u i s = s
  | .leaf h, e => by
    have e : h.kind = 18 := e
    show (if h.kind = 18 then _ else _) = _
    rw [if_pos e]
  | .un h a, e => by
    have e : (h.kind = 19 ∧ Pl true a) ∨ (h.kind = 22 ∧ Pl false a) := e
    show (if h.kind = 4 then _ else if h.kind = 16 then _ else if h.kind = 17 then _ else _) = _
    rw [if_neg (by omega), if_neg (by omega), if_neg (by omega)]
  | .bin h a b, e => by
    have e : (h.kind = 20 ∨ h.kind = 21) ∧ Pl false a ∧ Pl false b := e
    show (if h.kind = 5 then _ else if h.kind = 6 then _ else _) = _
    rw [if_neg (by omega), if_neg (by omega)]
theorem form_rootL {l : List Nd} {t : Tr} (hf : (formL l && plainS l) = true) (ht : treeS l = some t) : t.root.kind < 18 := by
  rw [Bool.and_eq_true] at hf
  have h := hf.1
  unfold formL at h
  rw [ht] at h
  dsimp only at h
  rw [Bool.not_eq_true'] at h
  rcases Int.lt_or_le t.root.kind 18 with e | e
  · exact e
  · rw [reg_yes e] at h; cases h
theorem plV_avoid {m : Nat} {w : World} {g : Nat} {Hs : List Nat} {L : Fst} {ps : List (Nat × Value)} (h : PlV m (hx w Hs) L ps) (hno : NoU w g) : PlV m (hx w (g :: Hs)) L ps := by
  refine ⟨h.1, fun j p hj => ?_⟩
  obtain ⟨v, e, A, n, c, fs, e2, hr, hl, hp⟩ := h.2 j p hj
  exact ⟨v, e, A, n, c, fs, e2, rd_avoid hno hr, hl, hp⟩
theorem blkOf_own {A : Option Addr} {n c g : Nat} (h : g ∈ blkOf A) : (Value.slice A n c).ownBlock = some g := by
  cases A with
  | none => cases h
  | some a => rw [List.mem_singleton.1 h]; rfl
theorem own_blkOf {A : Option Addr} {n c g : Nat} (h : (Value.slice A n c).ownBlock = some g) : g ∈ blkOf A := by
  cases A with
  | none => cases h
  | some a => injection h with h; exact List.mem_singleton.2 h.symm
theorem bel3 (w : World) (o o' o'' : Obj) : Below w.heap.size w (((w.alloc o).alloc o').alloc o'') := by
  have h1 := balloc w o
  have h2 := h1.alloc h1.size o'
  exact h2.alloc h2.size o''
theorem blkN3 (w : World) (o o' : Obj) (t : TypeId) (cs : Array Value) : Blk (((w.alloc o).alloc o').alloc (.cells cs t)) (w.heap.size + 2) t cs := by
  have h := Blk.new ((w.alloc o).alloc o') t cs
  simpa using h
theorem uptoN_mono (g : Tr → Nat) (t : Tr) {i n : Nat} (h : i ≤ n) : uptoN g t i ≤ uptoN g t n := by
  induction n with
  | zero => rw [show i = 0 by omega]; exact Nat.le_refl _
  | succ n ih =>
    by_cases e : i = n + 1
    · rw [e]; exact Nat.le_refl _
    · have := ih (by omega)
      rw [uptoN_succ]
      omega
/-- A point's end: what is left of all that has been shown. -/
theorem ostep_fin {m : Nat} {l : List Nd} {t : Tr} {B go gx gw : Nat} {w w3 W7 w9 : World} {pL Xs : List Nat} {Al : Option Addr} {cl P1 time : Nat} {V4 : Value} {WN : Nat → Win} {I : List Itm} {L : Pnd} {ps : List (Nat × Value)} {AI AL : Option Addr} {cI cL : Nat}
    (hB7 : Blk W7 go 40 #[.slice Al l.length cl, .int .i64 (m : Nat), .slice (some ⟨gx, 0, none⟩) l.length l.length, .slice (some ⟨gw, 0, none⟩) l.length l.length, V4, .int .i64 (P1 : Nat), .int .u64 (time : Nat), .bool false])
    (hcl : l.length ≤ cl) (hl : NodesF (hx w (go :: gw :: pL)) Al l.length l) (hX : RxF (hx w (go :: gw :: pL)) t gx) (hle : CLe (hx w (go :: gw :: pL)) (hx w3 Xs)) (hWn : WnW m t gw Xs w3 WN) (hN3 : NoU w3 gw) (hw37 : Wr (go :: pL) w3 W7)
    (hXs : ∀ g, g ∈ go :: gw :: pL → g ∈ Xs) (hgwP : gw ∉ go :: pL) (hw0 : Wr (go :: gw :: pL) w w3) (hb9 : Below W7.heap.size W7 w9)
    (hOI : Own (hx W7 [go]) w9 W7.heap.size 56 4 (.slice AI I.length cI) I.length (itC I)) (hOL : OwnU (hx W7 [go]) w9 W7.heap.size 52 2 (.slice AL L.length cL) L.length (plC ps)) (hPV : PlV m (hx W7 [go]) L ps)
    (hap : ∀ g, (Value.slice AI I.length cI).ownBlock = some g → (Value.slice AL L.length cL).ownBlock ≠ some g) (hgn : go ≠ gw) (hBo : B ≤ go) (hBw : B ≤ gw) :
    RetSt m l t B go gx gw w (go :: gw :: pL) I ⟨P1, WN, L⟩ time (.returned (.tuple #[.slice AI I.length cI, .int .i64 0])) (w9.setCell ⟨go, 4, none⟩ (.slice AL L.length cL)) := by
  have lgw : gw < w3.heap.size := hWn.lt
  have h7 : w3.heap.size ≤ W7.heap.size := hw37.size
  have lgo7 : go < W7.heap.size := hB7.lt
  have lgw7 : gw < W7.heap.size := Nat.lt_of_lt_of_le lgw h7
  have hN7 : NoU W7 gw := hN3.keep (hw37.block gw lgw hgwP)
  obtain ⟨w', hw'⟩ : ∃ w', w' = w9.setCell ⟨go, 4, none⟩ (.slice AL L.length cL) := ⟨_, rfl⟩
  rw [← hw']
  have hs' : ∀ b, b ≠ go → w'.heap[b]? = w9.heap[b]? := fun b hb => by rw [hw']; exact Below.heap_setCell w9 ⟨go, 4, none⟩ _ b hb
  have hw7' : Wr [go] W7 w' := by rw [hw']; exact (Wr.of_below hb9).set (g := go) (by simp) 4 _
  have hw3' : Wr (go :: pL) w3 w' := hw37.trans (hw7'.more (by simp))
  have hALn : ∀ g, g ∈ blkOf AL → W7.heap.size ≤ g ∧ g < w9.heap.size := fun g hg => hOL.1.1.lt g (blkOf_own hg)
  have hGm : ∀ g, g ∈ gsW go gw AL ↔ g = go ∨ g = gw ∨ g ∈ blkOf AL := fun g => by unfold gsW; simp
  have hleZ : CLe (hx w3 Xs) (hx w' (gsW go gw AL)) := cle_step hw3' (fun g hg => by
    simp at hg
    rcases hg with rfl | hg
    · exact hXs _ (by simp)
    · exact hXs _ (by simp [hg])) fun g hg => by
    rcases (hGm g).1 hg with rfl | rfl | hg
    · exact .inl (hXs _ (by simp))
    · exact .inl (hXs _ (by simp))
    · exact .inr (Nat.le_trans h7 (hALn g hg).1)
  have hleW := hle.trans hleZ
  have hgw' : w'.heap[gw]? = w3.heap[gw]? := hw3'.block gw lgw hgwP
  have hBlk : Blk w' go 40 #[.slice Al l.length cl, .int .i64 (m : Nat), .slice (some ⟨gx, 0, none⟩) l.length l.length, .slice (some ⟨gw, 0, none⟩) l.length l.length, .slice AL L.length cL, .int .i64 (P1 : Nat), .int .u64 (time : Nat), .bool false] := by
    rw [hw']
    have h := (hB7.call hb9).set_ 4 (.slice AL L.length cL)
    simpa using h
  have hOL' : OwnU (hx w' (gsW go gw AL)) w' B 52 2 (.slice AL L.length cL) L.length (plC ps) := by
    have h1 := hOL.wr (w' := w') fun g hg => hs' g (by have := (hOL.1.1.lt g hg).1; omega)
    exact ⟨⟨(own_base h1.1 (show B ≤ W7.heap.size by omega)).1, fun g hg => hx_in ((hGm g).2 (.inr (.inr (own_blkOf hg))))⟩, h1.2⟩
  have hPV' : PlV m (hx w' (gsW go gw AL)) L ps := (plV_avoid hPV hN7).cle (cle_step hw7' (by simp) fun g hg => by
    rcases (hGm g).1 hg with rfl | rfl | hg
    · exact .inl (by simp)
    · exact .inl (by simp)
    · exact .inr (hALn g hg).1)
  have hOI' := own_blk hOI (w' := w') fun g hg => hs' g (by have := (hOI.1.lt g hg).1; omega)
  obtain ⟨A', c', e1, hc, hrd⟩ := hOI'.rdH
  injection e1 with e2 e3 e4
  subst e2 e4
  refine ⟨AI, cI, AL, cL, rfl, ⟨Al, cl, ps, hBlk, hcl, hl.cle hleW, hX.cle hleW, hWn.cle hleZ hgw', hN3.keep hgw', hOL', hPV', hgn, hBo, hBw, fun a ha => ?_⟩, (hw0.trans (hw3'.more ?_)), fun g hg => ?_, rd_out hrd fun a ha hb => ?_, hc⟩
  · have := (hALn a.block (by rw [ha]; exact List.mem_singleton.2 rfl)).1
    omega
  · intro b hb
    simp at hb ⊢
    rcases hb with rfl | hb
    · exact .inl rfl
    · exact .inr (.inr hb)
  · rcases (hGm g).1 hg with rfl | rfl | hg
    · exact .inl (by simp)
    · exact .inl (by simp)
    · have := (hALn g hg).1
      have := hw0.size
      exact .inr (by omega)
  · have h1 := (hOI.1.lt a.block (by rw [ha]; rfl)).1
    rcases (hGm _).1 hb with e | e | e
    · omega
    · omega
    · exact hap a.block (by rw [ha]; rfl) (blkOf_own e)
end Go.Proofs.Ytaomehlhopiblaa
