/- One pass: a node of any kind; what a pass keeps between two points. -/
import Derived.Test.YtaomehlhopiblaaOnlV
set_option linter.unusedVariables false
set_option linter.unusedSimpArgs false
/-! One pass: a node of any kind; what a pass keeps between two points. -/
namespace Go.Proofs.Ytaomehlhopiblaa
open Go.RowKit
attribute [local go_sem ↓] Go.wp_at_zero Go.wp_at_succ
theorem noSug_all : ∀ (t : Tr), (∀ j, j < t.size → sugarS (t.sub j).root.kind = false) → NoSug t
  | .leaf h, H => H 0 (by simp [Tr.size])
  | .un h a, H => ⟨by
      have := H a.size (by simp [Tr.size])
      rw [show (Tr.un h a).sub a.size = .un h a by show (if a.size < a.size then _ else _) = _; rw [if_neg (Nat.lt_irrefl _)]] at this
      exact this, noSug_all a fun j hj => by
      have := H j (by simp [Tr.size]; omega)
      rw [show (Tr.un h a).sub j = a.sub j by show (if j < a.size then _ else _) = _; rw [if_pos hj]] at this
      exact this⟩
  | .bin h a b, H => ⟨by
      have := H (a.size + b.size) (by simp [Tr.size])
      rw [show (Tr.bin h a b).sub (a.size + b.size) = .bin h a b by show (if a.size + b.size < a.size then _ else _) = _; rw [if_neg (by omega), if_neg (by omega)]] at this
      exact this, noSug_all a fun j hj => by
      have := H j (by simp [Tr.size]; omega)
      rw [show (Tr.bin h a b).sub j = a.sub j by show (if j < a.size then _ else _) = _; rw [if_pos hj]] at this
      exact this, noSug_all b fun j hj => by
      have := H (a.size + j) (by simp [Tr.size]; omega)
      rw [show (Tr.bin h a b).sub (a.size + j) = b.sub j by show (if a.size + j < a.size then _ else _) = _; rw [if_neg (by omega), if_pos (by omega), Nat.add_sub_cancel_left]] at this
      exact this⟩
theorem sug_at {l : List Nd} (hp : plainS l = true) {t : Tr} (ht : treeS l = some t) (i : Nat) (hi : i < l.length) : sugarS (t.sub i).root.kind = false := by
  unfold plainS at hp
  rw [Bool.and_eq_true, Bool.not_eq_true'] at hp
  have h1 := get_flat_root ht i hi
  have h2 : l[i].kind = (t.sub i).root.kind := by rw [h1]
  cases hs : sugarS (t.sub i).root.kind
  · rfl
  · exfalso
    have h3 : (l.any fun n => sugarS n.kind) = true := List.any_eq_true.2 ⟨l[i], List.getElem_mem hi, by rw [h2, hs]⟩
    rw [h3] at hp
    cases hp.2
/-- A place of a plain formula is one that a pass takes. -/
theorem pl_at {l : List Nd} (hf : (formL l && plainS l) = true) {t : Tr} (ht : treeS l = some t) (i : Nat) (hi : i < l.length) : Pl (!regS (t.sub i).root.kind) (t.sub i) := by
  rw [Bool.and_eq_true] at hf
  have hlen := tree_len ht
  refine pl_valid _ (sub_valid t i (tree_valid ht)) (noSug_all _ fun j hj => ?_)
  have h1 := Tr.sub_size_le t i (by omega)
  have h2 := Tr.sub_sub t i j (by omega) hj
  rw [← h2]
  exact sug_at hf.2 ht _ (by omega)
theorem pl_kind : ∀ {t : Tr}, Pl true t → t.root.kind < 18
  | .leaf h, e => by
    have e : h.kind = 1 ∨ h.kind = 2 ∨ h.kind = 3 := e
    show h.kind < 18
    omega
  | .un h a, e => by
    have e : (h.kind = 4 ∧ Pl true a) ∨ ((h.kind = 16 ∨ h.kind = 17) ∧ spanS h.lo h.hi = true ∧ Pl false a) := e
    show h.kind < 18
    rcases e with e | e <;> omega
  | .bin h a b, e => by
    have e : (h.kind = 5 ∨ h.kind = 6) ∧ Pl true a ∧ Pl true b := e
    show h.kind < 18
    omega
theorem pl_regk : ∀ {t : Tr}, Pl false t → regS t.root.kind = true
  | .leaf h, e => reg_yes (by have e : h.kind = 18 := e; show 18 ≤ h.kind; omega)
  | .un h a, e => reg_yes (by
    have e : (h.kind = 19 ∧ Pl true a) ∨ (h.kind = 22 ∧ Pl false a) := e
    show 18 ≤ h.kind
    rcases e with e | e <;> omega)
  | .bin h a b, e => reg_yes (by
    have e : (h.kind = 20 ∨ h.kind = 21) ∧ Pl false a ∧ Pl false b := e
    show 18 ≤ h.kind
    omega)
theorem parts_form : ∀ {t : Tr} {o p : Nat}, Pl false t → p ∈ partsP t o → ∃ j, j < t.size ∧ p = o + j ∧ (t.sub j).root.kind < 18
  | .leaf _, _, _, _, hp => by cases hp
  | .un h a, o, p, hPl, hp => by
    have hPl : (h.kind = 19 ∧ Pl true a) ∨ (h.kind = 22 ∧ Pl false a) := hPl
    have hs : (Tr.un h a).size = a.size + 1 := rfl
    have hsub : ∀ j, j < a.size → (Tr.un h a).sub j = a.sub j := fun j hj => by show (if j < a.size then _ else _) = _; rw [if_pos hj]
    unfold partsP at hp
    have := Tr.size_pos a
    rcases hPl with ⟨e, hPa⟩ | ⟨e, hPa⟩
    · rw [if_pos e] at hp
      simp at hp
      refine ⟨a.size - 1, by omega, by omega, ?_⟩
      rw [hsub _ (by omega), Tr.sub_root]
      exact pl_kind hPa
    · rw [if_neg (by omega)] at hp
      obtain ⟨j, hj, e1, e2⟩ := parts_form hPa hp
      exact ⟨j, by omega, e1, by rw [hsub j hj]; exact e2⟩
  | .bin h a b, o, p, hPl, hp => by
    have hPl : (h.kind = 20 ∨ h.kind = 21) ∧ Pl false a ∧ Pl false b := hPl
    have hs : (Tr.bin h a b).size = a.size + b.size + 1 := rfl
    have hsub : ∀ j, j < a.size → (Tr.bin h a b).sub j = a.sub j := fun j hj => by show (if j < a.size then _ else _) = _; rw [if_pos hj]
    have hsub2 : ∀ j, j < b.size → (Tr.bin h a b).sub (a.size + j) = b.sub j := fun j hj => by
      show (if a.size + j < a.size then _ else _) = _
      rw [if_neg (by omega), if_pos (by omega), Nat.add_sub_cancel_left]
    unfold partsP at hp
    rcases List.mem_append.1 hp with hp | hp
    · obtain ⟨j, hj, e1, e2⟩ := parts_form hPl.2.1 hp
      exact ⟨j, by omega, e1, by rw [hsub j hj]; exact e2⟩
    · obtain ⟨j, hj, e1, e2⟩ := parts_form hPl.2.2 hp
      exact ⟨a.size + j, by omega, by omega, by rw [hsub2 j hj]; exact e2⟩
theorem NoU.set {w : World} {g g' i : Nat} {A : Option Addr} {n c : Nat} (h : NoU w g) {u' : Value} (he : w.cell? ⟨g', i, none⟩ = some u') : NoU (w.setCell ⟨g', i, none⟩ (.slice A n c)) g := fun j v hc x e => by
  by_cases hp : (⟨g', i, none⟩ : Addr) = ⟨g, j, none⟩
  · rw [← hp, World.cell?_setCell_same (h := he)] at hc
    injection hc with hc
    rw [← hc] at e
    cases e
  · rw [World.cell?_setCell_other (h := hp)] at hc
    exact h j v hc x e
theorem NoU.zeros {w : World} {g n : Nat} {T : TypeId} (h : Blk w g T (zeros (.slice none 0 0) n)) : NoU w g := NoU.rowA (m := 0) (Gs := []) (RowA.zero h)
theorem RowA.avoid {m n : Nat} {Gs Hs : List Nat} {T : TypeId} {w : World} {g : Nat} {f : Nat → Fn} (h : RowA m n Gs T w g f) (hno : ∀ b, b ∈ Hs → NoU w b) : RowA m n Hs T w g f := by
  obtain ⟨cs, h1, h2, h3⟩ := h
  exact ⟨cs, h1, h2, fun q hq => let ⟨v, e, hv⟩ := h3 q hq; ⟨v, e, wdf_avoids (hv.cle (sat_hx w Gs).cle) Hs hno⟩⟩
/-- What reads outside Xs still does, where Hs has been written since and Gs is set apart from now on. -/
theorem cle_step {w w' : World} {Hs Xs Gs : List Nat} (hb : Wr Hs w w') (h1 : ∀ g, g ∈ Hs → g ∈ Xs) (h2 : ∀ g, g ∈ Gs → g ∈ Xs ∨ w.heap.size ≤ g) : CLe (hx w Xs) (hx w' Gs) := fun a v hc => by
  by_cases hx1 : a.block ∈ Xs
  · unfold Fz.cell at hc; rw [hx_in hx1] at hc; cases hc
  · have hl : a.block < w.heap.size := (sat_hx w Xs).clt hc
    have hg : a.block ∉ Gs := fun e => by rcases h2 _ e with e | e; exact hx1 e; omega
    unfold Fz.cell at hc ⊢
    rw [hx_out hx1] at hc
    rw [hx_out hg, hb.block _ hl fun e => hx1 (h1 _ e)]
    exact hc
/-- What a node leaves, of any kind. -/
def RetNd (m : Nat) (t : Tr) (Xs : List Nat) (gw ga : Nat) (w : World) (S' : StM) (k : Nat) (e : Ending) (w' : World) : Prop :=
  ∃ A n c, e = .returned (.slice A n c) ∧ Wr [gw, ga] w w' ∧ WdF m (hx w' Xs) (.slice A n c) (S'.tr k) ∧ WnW m t gw Xs w' S'.win ∧ NoU w' gw ∧ RowA m m [ga] 49 w' ga fun q => S'.ah.getD q noFn
theorem retNd_pl {m : Nat} {t : Tr} {Xs : List Nat} {gw ga : Nat} {w w' : World} {S S' : StM} {k : Nat} {p : Fn} {e : Ending} (h : RetPl m w p e w') (h1 : S'.tr k = p) (h2 : S'.ah = S.ah) (h3 : S'.win = S.win)
    (hX : ∀ g, g ∈ Xs → g < w.heap.size) (hWn : WnW m t gw Xs w S.win) (hN : NoU w gw) (hA : RowA m m [ga] 49 w ga fun q => S.ah.getD q noFn) : RetNd m t Xs gw ga w S' k e w' := by
  obtain ⟨A, n, c, rfl, hb, hv⟩ := h
  have hgw := hb.block gw hWn.lt
  exact ⟨A, n, c, rfl, Wr.of_below hb, by rw [h1]; exact hv Xs hX, by rw [h3]; exact hWn.wr (Wr.of_below hb) hgw, hN.keep hgw, by rw [h2]; exact hA.call hb⟩
theorem wdf_sl {m : Nat} {F : Fz} {v : Value} {p : Fn} (h : WdF m F v p) : ∃ A n c, v = .slice A n c := let ⟨A, n, c, _, e, _⟩ := h; ⟨A, n, c, e⟩
theorem wdg_sl {m : Nat} {F : Fz} {v : Value} {p : Fn} (h : WdG m F v p) : ∃ A n c, v = .slice A n c := let ⟨_, A, c, e, _⟩ := h; ⟨A, _, c, e⟩
set_option maxHeartbeats 1000000 in
theorem onode_w {w : World} (m : Nat) (hm : m ≤ 10) (gt go gx gw ga gr : Nat) (pL : List Nat) (Al : Option Addr) (cl d : Nat) (hd : d < 18446744073709551616) (l : List Nd) (hn : l.length ≤ 1000) (hcl : l.length ≤ cl) {t : Tr} (ht : treeS l = some t) (hf : (formL l && plainS l) = true)
    (hT : TuF (hx w [gw, ga, gr]) m l.length gt go gx gw ga gr Al cl d) (hl : NodesF (hx w [gw, ga, gr]) Al l.length l) (hX : RxF (hx w [gw, ga, gr]) t gx)
    (ss : List ByteArray) (An : Option Addr) (nn cn : Nat) (hS : (hx w [gw, ga, gr]).cell ⟨gt, 2, none⟩ = some (.slice An nn cn)) (hSr : Rd (hx w [gw, ga, gr]) 1 An nn (ss.map Value.string)) (hnn : ss.length ≤ 100000)
    (hXl : ∀ g, g ∈ gw :: gr :: ga :: go :: pL → g < w.heap.size) (h1 : gw ≠ gr) (h2 : gw ≠ ga) (h3 : gr ≠ ga)
    (i : Nat) (hi : i < l.length) (hk : (t.sub i).root.kind < 18) (S : StM) (hah : S.ah.length = uptoN atomM t i) (hmm : uptoN atomM t (i + 1) ≤ m)
    (hWn : WnW m t gw (gw :: gr :: ga :: go :: pL) w S.win) (hTr : TrW m t gr (gw :: gr :: ga :: go :: pL) w i S.tr) (hNw : NoU w gw) (hA : RowA m m [ga] 49 w ga fun q => S.ah.getD q noFn)
    (hWl : (S.win i).length ≤ 80000) (hWc : ∀ h a, t.sub i = .un h a → h.kind = 16 → InW h (S.win i))
    (Ak : Option Addr) (ck : Nat) (hKr : Rd (hx w [gw, ga, gr]) 1 Ak l[i].kids.length (l[i].kids.map (Value.int .i64))) :
    Calls Try.prog 10 #[.pointer (some ⟨gt, 0, none⟩), .int .i64 (i : Nat), .agg #[.int .i64 l[i].kind, .string l[i].name, .int .i64 l[i].lo, .int .i64 l[i].hi, .slice Ak l[i].kids.length ck]] w
      (RetNd m t (gw :: gr :: ga :: go :: pL) gw ga w (nodeM m d (hasS ss) (t.sub i) i S) i) := by
  have hlen := tree_len ht
  have hPl := pl_at hf ht i hi
  rw [reg_no hk] at hPl
  have hPl : Pl true (t.sub i) := hPl
  have hva := sub_valid t i (tree_valid ht)
  have hroot := get_flat_root ht i hi
  have hkids := kidsN_eq ht i hi
  have e0 : l[i].kind = (t.sub i).root.kind := by rw [hroot]
  have e1 : l[i].name = (t.sub i).root.name := by rw [hroot]
  have e2 : l[i].lo = (t.sub i).root.lo := by rw [hroot]
  have e3 : l[i].hi = (t.sub i).root.hi := by rw [hroot]
  have hnb := node_bounds hn ht i hi
  have hsF : Sat (hx w [gw, ga, gr]) w := sat_hx _ _
  have hxH := hsF.cle
  have hgwX : gw ∈ gw :: gr :: ga :: go :: pL := List.mem_cons_self
  generalize hXs : gw :: gr :: ga :: go :: pL = Xs at *
  rw [e0, e1, e2, e3]
  obtain ⟨KN, hKN⟩ : ∃ KN, kidsN t i = KN := ⟨_, rfl⟩
  rw [hkids] at hKr ⊢
  unfold kidsN at hKr ⊢
  clear hroot e0 e1 e2 e3 hkids hKN KN
  cases hs : t.sub i with
  | leaf h =>
    rw [hs] at hPl hk hKr
    have hPl : h.kind = 1 ∨ h.kind = 2 ∨ h.kind = 3 := hPl
    have hN : nodeM m d (hasS ss) (.leaf h) i S = ⟨updT S.tr i fun _ => if h.kind = 1 then true else if h.kind = 3 then hasS ss h.name else false, S.ah, S.win⟩ := by
      show (if h.kind = 18 then _ else _) = _
      rw [if_neg (by omega)]
    rw [hN]
    show Calls _ _ #[_, _, .agg #[.int .i64 h.kind, .string h.name, .int .i64 h.lo, .int .i64 h.hi, _]] w _
    rcases hPl with e | e | e
    · rw [e]
      refine Calls.mono (onode1_w hsF m hm _ _ _ _ _ _ _ _ _ _ hT _ _ _ _ _ _ _) fun e' w' hr => ?_
      exact retNd_pl hr (by show updT _ _ _ i = _; rw [updT_at]; funext x; rw [if_pos rfl]) rfl rfl hXl hWn hNw hA
    · refine Calls.mono (onode2_w hsF m hm _ _ _ _ _ _ _ _ _ _ hT _ _ _ _ _ _ _ _ e) fun e' w' hr => ?_
      exact retNd_pl hr (by show updT _ _ _ i = _; rw [updT_at]; funext x; rw [if_neg (by omega), if_neg (by omega)]) rfl rfl hXl hWn hNw hA
    · rw [e]
      refine Calls.mono (onode3_w hsF m hm _ _ _ _ _ _ _ _ _ _ hT _ _ _ _ _ _ _ ss An nn cn hnn hS hSr) fun e' w' hr => ?_
      exact retNd_pl hr (by show updT _ _ _ i = _; rw [updT_at]; funext x; rw [if_neg (by omega), if_pos rfl]) rfl rfl hXl hWn hNw hA
  | un h a =>
    obtain ⟨hai, hsa, hsub⟩ := sub_un_kid (by omega) hs
    rw [hs] at hPl hk hKr hva
    have hPl : (h.kind = 4 ∧ Pl true a) ∨ ((h.kind = 16 ∨ h.kind = 17) ∧ spanS h.lo h.hi = true ∧ Pl false a) := hPl
    show Calls _ _ #[_, _, .agg #[.int .i64 h.kind, .string h.name, .int .i64 h.lo, .int .i64 h.hi, _]] w _
    have hKr1 : Rd (hx w [gw, ga, gr]) 1 Ak 1 [.int .i64 ((i - 1 : Nat) : Int)] := hKr
    have hva1 : validT a = true := by
      unfold validT at hva
      simp only [Bool.and_eq_true] at hva
      exact hva.2
    have hasz : 1 ≤ a.size := Tr.size_pos a
    rcases hPl with ⟨e, hPa⟩ | ⟨e, hsp, hPa⟩
    · obtain ⟨ak, rfl, hcK⟩ := hKr1.addr (by omega)
      have hK0 := hcK 0 _ rfl
      rw [show ak.add 0 = ak by cases ak; rfl] at hK0
      obtain ⟨v, hv, hw⟩ := hTr.at_ (j := i - 1) (by omega) (by rw [hsa]; exact pl_kind hPa)
      obtain ⟨A1, n1, c1, rfl⟩ := wdf_sl hw
      have hN : nodeM m d (hasS ss) (.un h a) i S = ⟨updT S.tr i fun x => !S.tr (i - 1) x, S.ah, S.win⟩ := by
        show (if h.kind = 4 then _ else _) = _
        rw [if_pos e]
      rw [hN, e]
      refine Calls.mono (onode4_w (sat_heapF w) m hm _ _ _ _ _ _ _ _ _ _ (hT.cle hxH) _ _ _ _ _ (i - 1) (by omega) ak (hxH _ _ hK0) A1 n1 c1 (S.tr (i - 1)) hv (hw.cle (sat_hx w Xs).cle)) fun e' w' hr => ?_
      exact retNd_pl hr (updT_at _ _ _) rfl rfl hXl hWn hNw hA
    · obtain ⟨hsp', hwide, hstp, hts⟩ := hnb.1 h a hs e
      have hra := pl_regk hPa
      have hasz2 : a.size ≤ 1000 := by omega
      have htrX : ∀ p ∈ partsP a (i - a.size), p < l.length ∧ ∃ v, w.cell? ⟨gr, p, none⟩ = some v ∧ WdF m (hx w Xs) v (S.tr p) := fun p hp => by
        have hr := parts_range a (i - a.size) p hp
        obtain ⟨j, hj, e5, e6⟩ := parts_form hPa hp
        have h6 := hsub j hj
        obtain ⟨v, hv, hw⟩ := hTr.at_ (j := p) (by omega) (by rw [e5, h6]; exact e6)
        exact ⟨by omega, v, hv, hw⟩
      rcases e with e | e
      · obtain ⟨Aw, nw, cw, hwc, hBk⟩ := hWn.at_ (i := i) (by omega)
        have hBk := hBk h a hs e
        have hgwl : gw < w.heap.size := hWn.lt
        have hle1 : CLe (hx w [gw, ga, gr]) (hx w [gw]) := hx_less (by simp)
        have hle2 : CLe (hx w Xs) (hx w [gw]) := hx_less fun g hg => by simp at hg; rw [hg]; exact hgwX
        have hN : nodeM m d (hasS ss) (.un h a) i S = ⟨updT S.tr i (backF h a ((partsP a (i - a.size)).map S.tr) (shiftW h d S.ah (S.win i))), S.ah, updW S.win i (backV m a ((partsP a (i - a.size)).map S.tr) (shiftW h d S.ah (S.win i)))⟩ := by
          show (if h.kind = 4 then _ else if h.kind = 16 then _ else _) = _
          rw [if_neg (by omega), if_pos e]
        rw [hN, e]
        have hm2 : S.ah.length ≤ m := by rw [hah]; have := uptoN_succ atomM t i; omega
        have hRw : RwF m (hx w [gw]) (some ⟨ga, 0, none⟩) m fun q => S.ah.getD q noFn := rwf_avoids hA.rwf (fun g hg => by simp at hg; rw [hg]; exact hNw) (fun a e hb => by injection e with e; rw [← e] at hb; simp at hb; exact h2 hb.symm)
        refine Calls.mono (onode16_w hsF m (stepsN a) _ _ _ _ _ _ _ _ _ _ hT i _ _ _ _ _ _ (gr :: ga :: go :: pL) _ _ (fun X hb => oback_w ((sat_hx w [gw]).below hb) m hm l.length gt go gx gw ga gr Al cl d hn hd (hT.cle hle1) (hX.cle hle1) i (by omega) hi hs e hsp hva1 hra hasz2 S.tr
          (fun p hp => let ⟨e1, v, hv, hw⟩ := htrX p hp; ⟨e1, v, hx_cell hv (by simp; exact fun e => h1 e.symm), hw.cle hle2⟩) (S.win i) Aw nw cw ((hb.cell (p := ⟨gw, i, none⟩) hgwl).trans hwc) ((World.frozen?_of_block (a := ⟨gw, i, none⟩) (hb.block gw hgwl)).trans (hWn.soft i)) (hNw.keep (hb.block gw hgwl)) (hx_in (by simp)) (hBk.cle hle2) hWl (fun b hb => by have h7 := hWc h a hs e b hb; have h8 := (last_is hsp).2.2; omega) S.ah hm2 hRw
          (gr :: ga :: go :: pL) (fun g hg => Nat.lt_of_lt_of_le (hXl g (by rw [← hXs]; exact List.mem_cons_of_mem _ hg)) hb.size))) fun e' w' hr => ?_
        obtain ⟨v, w1, A, n, c, rfl, hb, rfl, hnc, hv, hV⟩ := hr
        obtain ⟨Av, nv, cv, rfl⟩ := wdg_sl hv
        rw [hXs] at hv hV
        have hwX := Wr.of_below (Gs := Xs) hb
        have hset := wr_set (w := w1) hgwX i (.slice A n c)
        have hNw1 : NoU w1 gw := hNw.keep (hb.block gw hgwl)
        have hW1 := hWn.wr hwX (hb.block gw hgwl)
        have hA1 : RowA m m [gw, ga] 49 w1 ga fun q => S.ah.getD q noFn := (hA.call hb).avoid fun b hb' => by
          simp at hb'
          rcases hb' with rfl | rfl
          · exact hNw1
          · exact NoU.rowA (hA.call hb)
        refine ⟨Av, nv, cv, rfl, (Wr.of_below hb).set (by simp) i _, ?_, hW1.set hgwX (by omega) (fun h' a' hs' _ => ?_) (fun hz => absurd e (hz h a hs)), hNw1.set ((hb.cell (p := ⟨gw, i, none⟩) hgwl).trans hwc), (hA1.far (by simp) (fun e => h2 e.symm) _).less (by simp)⟩
        · show WdF m _ _ (updT _ _ _ i)
          rw [updT_at]
          exact hv.wd.cle hset.cle
        · rw [hs] at hs'
          injection hs' with e1 e2
          rw [← e2]
          exact hV
      · have hgal : ga < w.heap.size := hA.lt
        have hle1 : CLe (hx w [gw, ga, gr]) (hx w [ga]) := hx_less (by simp)
        have hgaX : ga ∈ Xs := by rw [← hXs]; simp
        have hle2 : CLe (hx w Xs) (hx w [ga]) := hx_less fun g hg => by simp at hg; rw [hg]; exact hgaX
        have hN : nodeM m d (hasS ss) (.un h a) i S = ⟨updT S.tr i (foreF h a ((partsP a (i - a.size)).map S.tr) S.ah.length), S.ah ++ aheadL h a ((partsP a (i - a.size)).map S.tr) S.ah.length d, S.win⟩ := by
          show (if h.kind = 4 then _ else if h.kind = 16 then _ else if h.kind = 17 then _ else _) = _
          rw [if_neg (by omega), if_neg (by omega), if_pos e]
        rw [hN, e]
        have hmi : uptoN atomM t i + stepsN a * wideN h ≤ m := by
          have h4 := uptoN_succ atomM t i
          have h5 : atomM (t.sub i) = stepsN a * wideN h := by rw [hs]; show (if h.kind = 17 then _ else _) = _; rw [if_pos e]
          omega
        refine Calls.mono (onode17_w hsF m _ _ _ _ _ _ _ _ _ _ hT i _ _ _ _ _ _ (gw :: gr :: go :: pL) (foreF h a ((partsP a (i - a.size)).map S.tr) (uptoN atomM t i)) (foW h a ((partsP a (i - a.size)).map S.tr) (uptoN atomM t i) d (fun q => S.ah.getD q noFn) (stepsN a * wideN h))
          (fun X hb => ofore_w ((sat_hx w [ga]).below hb) m hm l.length gt go gx gw ga gr Al cl d hcl hd (hT.cle hle1) (hx_in (by simp)) l hn (hl.cle hle1) ht hf (hX.cle hle1) i hi hs e hsp hva1 hra hasz2 hmi S.tr
            (fun p hp => let ⟨e1, v, hv, hw⟩ := htrX p hp; ⟨e1, v, hx_cell hv (by simp; exact h3), hw.cle hle2⟩) _ (hA.call hb) (gw :: gr :: go :: pL) (fun g hg => Nat.lt_of_lt_of_le (hXl g (by rw [← hXs]; simp at hg ⊢; rcases hg with hg | hg | hg | hg <;> simp [hg])) hb.size))) fun e' w' hr => ?_
        obtain ⟨v, rfl, hw, hv, hR⟩ := hr
        obtain ⟨Av, nv, cv, rfl⟩ := wdg_sl hv
        have hwX : Wr Xs w w' := hw.more fun b hb => by simp at hb; rw [hb]; exact hgaX
        have hgw := hw.block gw hWn.lt (by simp; exact h2)
        refine ⟨Av, nv, cv, rfl, hw.more (by simp), ?_, hWn.wr hwX hgw, hNw.keep hgw, ?_⟩
        · show WdF m _ _ (updT _ _ _ i)
          rw [updT_at, hah]
          exact hv.wd.cle (hx_less fun g hg => by rw [← hXs] at hg; simp at hg ⊢; rcases hg with hg | hg | hg | hg | hg <;> simp [hg])
        · show RowA m m [ga] _ w' ga fun q => (S.ah ++ _).getD q noFn
          rw [hah, ← hah, ← foW_done, hah]
          exact hR
  | bin h a b =>
    obtain ⟨hab, hsb, hsa⟩ := sub_bin_kids (by omega) hs
    rw [hs] at hPl hk hKr
    have hPl : (h.kind = 5 ∨ h.kind = 6) ∧ Pl true a ∧ Pl true b := hPl
    obtain ⟨e, hPa, hPb⟩ := hPl
    have hb1 : 1 ≤ b.size := Tr.size_pos b
    have ha1 : 1 ≤ a.size := Tr.size_pos a
    show Calls _ _ #[_, _, .agg #[.int .i64 h.kind, .string h.name, .int .i64 h.lo, .int .i64 h.hi, _]] w _
    have hKr1 : Rd (hx w [gw, ga, gr]) 1 Ak 2 [.int .i64 ((i - 1 - b.size : Nat) : Int), .int .i64 ((i - 1 : Nat) : Int)] := hKr
    obtain ⟨ak, rfl, hcK⟩ := hKr1.addr (by omega)
    have hK0 := hcK 0 _ rfl
    have hK1 := hcK 1 _ rfl
    rw [show ak.add 0 = ak by cases ak; rfl] at hK0
    obtain ⟨v1, hv1, hw1⟩ := hTr.at_ (j := i - 1 - b.size) (by omega) (by rw [hsa]; exact pl_kind hPa)
    obtain ⟨A1, n1, c1, rfl⟩ := wdf_sl hw1
    obtain ⟨v2, hv2, hw2⟩ := hTr.at_ (j := i - 1) (by omega) (by rw [hsb]; exact pl_kind hPb)
    obtain ⟨A2, n2, c2, rfl⟩ := wdf_sl hw2
    have hleX := (sat_hx w Xs).cle
    rcases e with e | e
    · have hN : nodeM m d (hasS ss) (.bin h a b) i S = ⟨updT S.tr i fun x => S.tr (i - 1 - b.size) x && S.tr (i - 1) x, S.ah, S.win⟩ := by
        show (if h.kind = 5 then _ else _) = _
        rw [if_pos e]
      rw [hN, e]
      refine Calls.mono (onode5_w (sat_heapF w) m hm _ _ _ _ _ _ _ _ _ _ (hT.cle hxH) _ _ _ _ _ (i - 1 - b.size) (i - 1) (by omega) (by omega) ak (hxH _ _ hK0) (hxH _ _ hK1) A1 n1 c1 (S.tr (i - 1 - b.size)) hv1 (hw1.cle hleX) A2 n2 c2 (S.tr (i - 1)) hv2 (hw2.cle hleX)) fun e' w' hr => ?_
      exact retNd_pl hr (updT_at _ _ _) rfl rfl hXl hWn hNw hA
    · have hN : nodeM m d (hasS ss) (.bin h a b) i S = ⟨updT S.tr i fun x => S.tr (i - 1 - b.size) x || S.tr (i - 1) x, S.ah, S.win⟩ := by
        show (if h.kind = 5 then _ else if h.kind = 6 then _ else _) = _
        rw [if_neg (by omega), if_pos e]
      rw [hN, e]
      refine Calls.mono (onode6_w (sat_heapF w) m hm _ _ _ _ _ _ _ _ _ _ (hT.cle hxH) _ _ _ _ _ (i - 1 - b.size) (i - 1) (by omega) (by omega) ak (hxH _ _ hK0) (hxH _ _ hK1) A1 n1 c1 (S.tr (i - 1 - b.size)) hv1 (hw1.cle hleX) A2 n2 c2 (S.tr (i - 1)) hv2 (hw2.cle hleX)) fun e' w' hr => ?_
      exact retNd_pl hr (updT_at _ _ _) rfl rfl hXl hWn hNw hA
end Go.Proofs.Ytaomehlhopiblaa
