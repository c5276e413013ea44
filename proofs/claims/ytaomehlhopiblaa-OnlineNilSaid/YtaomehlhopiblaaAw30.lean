/- One pass: what every program must know (layer 30). -/
import Derived.Test.YtaomehlhopiblaaOnlNw
import Derived.Test.YtaomehlhopiblaaOnlNx
import Derived.Test.YtaomehlhopiblaaAw29
import Derived.KernelRfl
set_option linter.unusedVariables false
set_option linter.unusedSimpArgs false
/-! One pass: what every program must know (layer 30). -/
namespace Go.Proofs.Ytaomehlhopiblaa
open Go.RowKit
attribute [local go_sem ↓] Go.wp_at_zero Go.wp_at_succ
def someCells (g1 g2 g3 g4 : Nat) : Array Value := #[.int .i64 18, .string ⟨#[]⟩, .int .i64 0, .int .i64 0, .slice none 0 0, .int .i64 22, .string ⟨#[]⟩, .int .i64 0, .int .i64 0, .slice (some ⟨g1, 0, none⟩) 1 1, .int .i64 3, .string ⟨#[112]⟩, .int .i64 0, .int .i64 0, .slice none 0 0, .int .i64 19, .string ⟨#[]⟩, .int .i64 0, .int .i64 0, .slice (some ⟨g2, 0, none⟩) 1 1, .int .i64 21, .string ⟨#[]⟩, .int .i64 0, .int .i64 0, .slice (some ⟨g3, 0, none⟩) 2 2, .int .i64 17, .string ⟨#[]⟩, .int .i64 0, .int .i64 (-1), .slice (some ⟨g4, 0, none⟩) 1 1]
theorem some_nodes {w : World} {g1 g2 g3 g4 g5 : Nat} (h1 : Blk w g1 3 #[.int .i64 0]) (h2 : Blk w g2 3 #[.int .i64 2]) (h3 : Blk w g3 3 #[.int .i64 1, .int .i64 3]) (h4 : Blk w g4 3 #[.int .i64 4])
    (h5 : Blk w g5 48 (someCells g1 g2 g3 g4)) : NodesF (heapF w) (some ⟨g5, 0, none⟩) 6 someL := by
  have hk1 : Rd (heapF w) 1 (some ⟨g1, 0, none⟩) 1 ([(0 : Int)].map (Value.int .i64)) := rd_intsL (ks := [0]) h1
  have hk2 : Rd (heapF w) 1 (some ⟨g2, 0, none⟩) 1 ([(2 : Int)].map (Value.int .i64)) := rd_intsL (ks := [2]) h2
  have hk3 : Rd (heapF w) 1 (some ⟨g3, 0, none⟩) 2 ([(1 : Int), 3].map (Value.int .i64)) := rd_intsL (ks := [1, 3]) h3
  have hk4 : Rd (heapF w) 1 (some ⟨g4, 0, none⟩) 1 ([(4 : Int)].map (Value.int .i64)) := rd_intsL (ks := [4]) h4
  have hv : NodesV (heapF w) someL (someCells g1 g2 g3 g4).toList :=
    .cons _ _ none 0 _ (Nat.le_refl _) Rd.nil (.cons _ _ (some ⟨g1, 0, none⟩) 1 _ (Nat.le_refl _) hk1 (.cons _ _ none 0 _ (Nat.le_refl _) Rd.nil (.cons _ _ (some ⟨g2, 0, none⟩) 1 _ (Nat.le_refl _) hk2 (.cons _ _ (some ⟨g3, 0, none⟩) 2 _ (Nat.le_refl _) hk3 (.cons _ _ (some ⟨g4, 0, none⟩) 1 [] (Nat.le_refl _) hk4 .nil)))))
  refine hv.toF ⟨rfl, fun _ => ⟨_, rfl, fun j u hu => ?_⟩⟩
  rw [add_lit0]
  unfold Fz.cell heapF
  rw [h5]
  simpa using hu
theorem some_tree : treeS someL = some someT := by kernel_rfl
theorem some_form : (formL someL && plainS someL) = true := by kernel_rfl
def awQ : ByteArray → Bool := fun s => s.data.toList == [112]
theorem hasS_p : hasS [⟨#[112]⟩] = awQ := by
  funext s
  show hasS [⟨#[112]⟩] s = (s.data.toList == [112])
  rw [Bool.eq_iff_iff, hasS_iff, beq_iff_eq, List.mem_singleton]
  constructor
  · rintro rfl
    rfl
  · intro h
    cases s with
    | mk d =>
      congr 1
      exact Array.ext' h
def awZ : List Itm × OnSt := onlS 1 0 awQ someT aw2.2
theorem awZ_is : awZ.1 = [⟨false, 1, 0, true⟩, ⟨false, 2, 0, true⟩] := by kernel_rfl
theorem awZ_pd : awZ.2.pd = [] := by
  have h : awZ.2.pd.length = 0 := by kernel_rfl
  exact List.eq_nil_of_length_eq_zero h
set_option maxRecDepth 100000 in
set_option maxHeartbeats 2000000 in
theorem some30_w (w : World) : Calls Try.prog 17 #[] w fun e w' => ∃ g, e = .returned (.slice (some ⟨g, 0, none⟩) 6 6) ∧ Below w.heap.size w w' ∧ NodesF (heapF w') (some ⟨g, 0, none⟩) 6 someL := by
  obtain ⟨N, hN⟩ : ∃ N, N = ((((w.alloc (.cells #[.int .i64 0] 3)).alloc (.cells #[.int .i64 2] 3)).alloc (.cells #[.int .i64 1, .int .i64 3] 3)).alloc (.cells #[.int .i64 4] 3)).alloc (.cells (someCells w.heap.size (w.heap.size + 1) (w.heap.size + 2) (w.heap.size + 3)) 48) := ⟨_, rfl⟩
  have hb1 : Blk N w.heap.size 3 #[.int .i64 0] := hN ▸ ((((Blk.new w 3 #[.int .i64 0]).alloc _).alloc _).alloc _).alloc _
  have hb2 : Blk N (w.heap.size + 1) 3 #[.int .i64 2] := hN ▸ (((Blk.new2 w (.cells #[.int .i64 0] 3) 3 #[.int .i64 2]).alloc _).alloc _).alloc _
  have hb3 : Blk N (w.heap.size + 2) 3 #[.int .i64 1, .int .i64 3] := hN ▸ ((Blk.new3L w (.cells #[.int .i64 0] 3) (.cells #[.int .i64 2] 3) 3 #[.int .i64 1, .int .i64 3]).alloc _).alloc _
  have hb4 : Blk N (w.heap.size + 3) 3 #[.int .i64 4] := hN ▸ (Blk.new4L w (.cells #[.int .i64 0] 3) (.cells #[.int .i64 2] 3) (.cells #[.int .i64 1, .int .i64 3] 3) 3 #[.int .i64 4]).alloc _
  have hb5 : Blk N (w.heap.size + 4) 48 (someCells w.heap.size (w.heap.size + 1) (w.heap.size + 2) (w.heap.size + 3)) := by
    rw [hN]
    have h := Blk.new ((((w.alloc (.cells #[.int .i64 0] 3)).alloc (.cells #[.int .i64 2] 3)).alloc (.cells #[.int .i64 1, .int .i64 3] 3)).alloc (.cells #[.int .i64 4] 3)) 48 (someCells w.heap.size (w.heap.size + 1) (w.heap.size + 2) (w.heap.size + 3))
    have e : ((((w.alloc (.cells #[.int .i64 0] 3)).alloc (.cells #[.int .i64 2] 3)).alloc (.cells #[.int .i64 1, .int .i64 3] 3)).alloc (.cells #[.int .i64 4] 3)).heap.size = w.heap.size + 4 := by simp
    rwa [e] at h
  have hbl : Below w.heap.size w N := by
    rw [hN]
    have h1 := balloc w (.cells #[.int .i64 0] 3)
    have h2 := h1.alloc h1.size (.cells #[.int .i64 2] 3)
    have h3 := h2.alloc h2.size (.cells #[.int .i64 1, .int .i64 3] 3)
    have h4 := h3.alloc h3.size (.cells #[.int .i64 4] 3)
    exact h4.alloc h4.size _
  have hl := some_nodes hb1 hb2 hb3 hb4 hb5
  have HL := Lib.hid hl
  have HN := Lib.hid hN
  clear hl hN hb1 hb2 hb3 hb4 hb5
  go_enter Try.func17, Try.ntmps17
  go_wp2_with fail
  unfold someCells at HN
  first | rw [← HN.out] | skip
  go_ret
  first | (rw [← HN.out]; exact ⟨w.heap.size + 4, rfl, hbl, HL.out⟩) | exact ⟨w.heap.size + 4, rfl, hbl, HL.out⟩
theorem PassW.ge {m : Nat} {l : List Nd} {t : Tr} {B go gx gw : Nat} {w : World} {s : OnSt} {last : Nat} {Ap : Option Addr} {cp : Nat} (hP : PassW m l t B go gx gw w s last Ap cp) : ∀ g, g ∈ gsW go gw Ap → B ≤ g ∧ g < w.heap.size := by
  obtain ⟨Al, cl, ps, hB, hcl, hl, hX, hW, hNw, hO, hPV, hgn, hBo, hBw, hAp⟩ := hP
  intro g hg
  rcases List.mem_cons.1 hg with rfl | hg
  · exact ⟨hBo, hB.lt⟩
  · rcases List.mem_cons.1 hg with rfl | hg
    · exact ⟨hBw, hW.lt⟩
    · exact hO.1.1.lt g (blkOf_own hg)
theorem PassW.blk {m : Nat} {l : List Nd} {t : Tr} {B go gx gw : Nat} {w : World} {s : OnSt} {last : Nat} {Ap : Option Addr} {cp : Nat} (hP : PassW m l t B go gx gw w s last Ap cp) : ∃ Al cl, Blk w go 40 #[.slice Al l.length cl, .int .i64 (m : Nat), .slice (some ⟨gx, 0, none⟩) l.length l.length, .slice (some ⟨gw, 0, none⟩) l.length l.length, .slice Ap s.pd.length cp, .int .i64 (s.pts : Nat), .int .u64 (last : Nat), .bool false] := let ⟨Al, cl, _, hB, _⟩ := hP; ⟨Al, cl, hB⟩
theorem PassW.plf {m : Nat} {l : List Nd} {t : Tr} {B go gx gw : Nat} {w : World} {s : OnSt} {last : Nat} {Ap : Option Addr} {cp : Nat} (hP : PassW m l t B go gx gw w s last Ap cp) : PlF m (heapF w) Ap s.pd.length s.pd := by
  obtain ⟨Al, cl, ps, hB, hcl, hl, hX, hW, hNw, hO, hPV, hgn, hBo, hBw, hAp⟩ := hP
  obtain ⟨A', c', e, _, hr⟩ := hO.1.rdH
  injection e with e1 e2 e3
  subst e1 e3
  exact ⟨rfl, ps, hr, hPV.cle (sat_hx w _).cle⟩
theorem PassW.call {m : Nat} {l : List Nd} {t : Tr} {B go gx gw : Nat} {w w' : World} {s : OnSt} {last : Nat} {Ap : Option Addr} {cp : Nat} (hP : PassW m l t B go gx gw w s last Ap cp) (hb : Below w.heap.size w w') : PassW m l t B go gx gw w' s last Ap cp := by
  obtain ⟨Al, cl, ps, hB, hcl, hl, hX, hW, hNw, hO, hPV, hgn, hBo, hBw, hAp⟩ := hP
  have hle := (Wr.of_below (Gs := gsW go gw Ap) hb).cle
  have hO' := hO.call hb
  exact ⟨Al, cl, ps, hB.call hb, hcl, hl.cle hle, hX.cle hle, hW.wr (Wr.of_below hb) (hb.block gw hW.lt), hNw.keep (hb.block gw hW.lt), ⟨⟨hO'.1.1, fun g hg => hx_in (List.mem_cons_of_mem _ (List.mem_cons_of_mem _ (own_blkOf hg)))⟩, hO'.2⟩, hPV.cle hle, hgn, hBo, hBw, hAp⟩
/-- The end of a pass. -/
theorem oend_b {m : Nat} (hm : m ≤ 10) {l : List Nd} {t : Tr} {B go gx gw : Nat} {w : World} {s : OnSt} {last : Nat} {Ap : Option Addr} {cp : Nat} (hP : PassW m l t B go gx gw w s last Ap cp) (hpd : s.pd.length ≤ 100000) :
    Calls Try.prog 5 #[.pointer (some ⟨go, 0, none⟩)] w (RetEd w go (endS s.pd)) := by
  obtain ⟨Al, cl, hB⟩ := hP.blk
  obtain ⟨c0, c1, c2, c3, c4, c5, c6, c7⟩ := blk8 hB
  exact oend_w (sat_heapF w) m hm go hB.lt c1 Ap s.pd.length cp c4 false c7 hB.frozen s.pd hP.plf hpd
/-- The cells of items. -/
theorem it_cells {F : Fz} {w : World} (hF : Sat F w) {A : Option Addr} {n : Nat} {I : List Itm} (h : Rd F 4 A n (itC I)) {j : Nat} {i : Itm} (hj : I[j]? = some i) : ∃ ad, A = some ad ∧ w.cell? (ad.add (j * 4)) = some (.int .i64 (if i.eq = true then 2 else 1)) ∧
    w.cell? ⟨ad.block, ad.off + (j * 4 + 1), none⟩ = some (.int .i64 (i.idx : Nat)) ∧ w.cell? ⟨ad.block, ad.off + (j * 4 + 2), none⟩ = some (.bool i.val) ∧ w.cell? ⟨ad.block, ad.off + (j * 4 + 3), none⟩ = some (.int .i64 (i.dst : Nat)) := by
  have hget : ∀ (I : List Itm) (j : Nat), I[j]? = some i → ∀ k, k < 4 → (itC I)[j * 4 + k]? = ([.int .i64 (if i.eq = true then 2 else 1), .int .i64 (i.idx : Nat), .bool i.val, .int .i64 (i.dst : Nat)] : List Value)[k]? := by
    intro I
    induction I with
    | nil => intro j h; cases h
    | cons a I ih =>
      intro j h k hk
      cases j with
      | zero =>
        injection h with h
        subst h
        show ([_, _, _, _] ++ itC I)[0 * 4 + k]? = _
        rw [List.getElem?_append_left (by simp; omega), Nat.zero_mul, Nat.zero_add]
      | succ j =>
        have := ih j h k hk
        show ([_, _, _, _] ++ itC I)[(j + 1) * 4 + k]? = _
        rw [List.getElem?_append_right (by simp; omega), ← this]
        congr 1
        simp
        omega
  have hl : 0 < n := by
    have h1 := h.1
    have h2 := hget I j hj 0 (by omega)
    have h3 : j * 4 + 0 < (itC I).length := (List.getElem?_eq_some_iff.1 (h2.trans rfl)).1
    omega
  obtain ⟨ad, rfl, hc⟩ := h.addr hl
  refine ⟨ad, rfl, hF.cell (hc _ _ (hget I j hj 0 (by omega))), hF.cell (hc _ _ (hget I j hj 1 (by omega))), hF.cell (hc _ _ (hget I j hj 2 (by omega))), hF.cell (hc _ _ (hget I j hj 3 (by omega)))⟩
set_option maxRecDepth 100000 in
set_option maxHeartbeats 4000000 in
theorem awake30_w (w : World) : Calls Try.prog 9 #[] w fun e w' => e = .returned (.bool true) ∧ Below w.heap.size w w' := by
  have hPl : Pl true someT := by
    have h := pl_at some_form some_tree 5 (by decide)
    exact h
  have hl6 : someL.length ≤ 1000 := by decide
  have HNW := Lib.hid (fun (X : World) (A : Option Addr) (hX : NodesF (heapF X) A 6 someL) => onew_w (sat_heapF X) someL hl6 A 6 6 (Nat.le_refl _) hX some_tree some_form 1 some_atoms (by omega))
  have HS1 : Hid (∀ (X : World) (B go gx gw : Nat), PassW 1 someL someT B go gx gw X on0 0 none 0 → Calls Try.prog 4 #[.pointer (some ⟨go, 0, none⟩), .int .u64 1, .slice none 0 0] X (RetSt 1 someL someT B go gx gw X (gsW go gw none) [] aw1.2 1)) := Lib.hid (fun X B go gx gw hP => by
    have h : Calls Try.prog 4 #[.pointer (some ⟨go, 0, none⟩), .int .u64 1, .slice none 0 0] X (RetSt 1 someL someT B go gx gw X (gsW go gw none) aw1.1 aw1.2 1) := ostep_b (by omega) hl6 some_tree some_form some_atoms hP (onB_zero someT) (by decide) (by omega) 1 (by omega) (by decide) 0 rfl [] none 0 0 Rd.nil (by decide)
    rw [aw1_is] at h
    exact h)
  have hB1 : OnB someT aw1.2 := onB_step hPl (onB_zero someT)
  have hB2 : OnB someT aw2.2 := onB_step hPl hB1
  have HS2 : Hid (∀ (X : World) (B go gx gw : Nat) (Ap : Option Addr) (cp : Nat), PassW 1 someL someT B go gx gw X aw1.2 1 Ap cp → Calls Try.prog 4 #[.pointer (some ⟨go, 0, none⟩), .int .u64 2, .slice none 0 0] X (RetSt 1 someL someT B go gx gw X (gsW go gw Ap) [⟨true, 0, 1, false⟩] aw2.2 2)) := Lib.hid (fun X B go gx gw Ap cp hP => by
    have h : Calls Try.prog 4 #[.pointer (some ⟨go, 0, none⟩), .int .u64 2, .slice none 0 0] X (RetSt 1 someL someT B go gx gw X (gsW go gw Ap) aw2.1 aw2.2 2) := ostep_b (by omega) hl6 some_tree some_form some_atoms hP hB1 (by decide) (by omega) 2 (by omega) (by decide) 1 rfl [] none 0 0 Rd.nil (by decide)
    rw [aw2_is] at h
    exact h)
  have HS3 : Hid (∀ (X : World) (B go gx gw : Nat) (Ap : Option Addr) (cp : Nat), PassW 1 someL someT B go gx gw X aw2.2 2 Ap cp → ∀ g c : Nat, (hx X (gsW go gw Ap)).cell ⟨g, 0, none⟩ = some (.string ⟨#[112]⟩) → Calls Try.prog 4 #[.pointer (some ⟨go, 0, none⟩), .int .u64 2, .slice (some ⟨g, 0, none⟩) 1 c] X (RetSt 1 someL someT B go gx gw X (gsW go gw Ap) [⟨false, 1, 0, true⟩, ⟨false, 2, 0, true⟩] awZ.2 2)) := Lib.hid (fun X B go gx gw Ap cp hP g c hg => by
    have h := ostep_b (by omega) hl6 some_tree some_form some_atoms hP hB2 (by decide) (by omega) 2 (by omega) (by decide) 0 rfl [⟨#[112]⟩] (some ⟨g, 0, none⟩) 1 c ⟨rfl, fun _ => ⟨_, rfl, fun j u hu => by
      obtain rfl : j = 0 := by have := (List.getElem?_eq_some_iff.1 hu).1; simpa using this
      rw [add_lit0]
      rw [← hu]
      exact hg⟩⟩ (by decide)
    rw [hasS_p] at h
    have h2 : Calls Try.prog 4 #[.pointer (some ⟨go, 0, none⟩), .int .u64 2, .slice (some ⟨g, 0, none⟩) 1 c] X (RetSt 1 someL someT B go gx gw X (gsW go gw Ap) awZ.1 awZ.2 2) := h
    rw [awZ_is] at h2
    exact h2)
  have HED : Hid (∀ (X : World) (B go gx gw : Nat) (Ap : Option Addr) (cp : Nat), PassW 1 someL someT B go gx gw X awZ.2 2 Ap cp → Calls Try.prog 5 #[.pointer (some ⟨go, 0, none⟩)] X (RetEd X go [])) := Lib.hid (fun X B go gx gw Ap cp hP => by
    have h := oend_b (by omega) hP (by rw [awZ_pd]; decide)
    rw [awZ_pd] at h
    exact h)
  clear hPl hB1 hB2
  go_enter Try.func9, Try.ntmps9
  go_upto_region 4 with (first
    | (go_at_call 16; refine (HNW.out _ _ hl1).mono ?_; rintro e w2 ⟨go, gx, gw, rfl, hb2, hP0⟩)
    | (go_at_call 17; refine (some30_w _).mono ?_; rintro e w1 ⟨g, rfl, hb1, hl1⟩))
  have hb12 : Below w.heap.size w w2 := bthen hb1 hb2
  have hgo := hP0.ge
  have HG0 := Lib.hid hgo
  have HP0 := Lib.hid hP0
  clear hP0 hl1 hgo
  go_upto_region 5 with (go_at_call 4; refine (HS1.out _ _ _ _ _ HP0.out).mono ?_; rintro e w3 ⟨A1, c1, Ap1, cp1, rfl, hP1, hw1, hg1, hr1, hc1⟩)
  have HP1 := Lib.hid hP1
  clear hP1 hr1 hc1
  go_upto_region 6 with (go_at_call 4; refine (HS2.out _ _ _ _ _ _ _ HP1.out).mono ?_; rintro e w4 ⟨A2, c2, Ap2, cp2, rfl, hP2, hw2, hg2, hr2, hc2⟩)
  have hz4 := hP2.ge
  obtain ⟨X4, hX4⟩ : ∃ X4, X4 = w4.alloc (.cells #[.string ⟨#[112]⟩] 9) := ⟨_, rfl⟩
  have hbX : Below w4.heap.size w4 X4 := by rw [hX4]; exact balloc _ _
  have hPX := hP2.call hbX
  have hcX : (hx X4 (gsW go gw Ap2)).cell ⟨w4.heap.size, 0, none⟩ = some (.string ⟨#[112]⟩) := hx_cell (by rw [hX4]; exact (blk1 (Blk.new w4 9 #[.string ⟨#[112]⟩])).1) (fun e => by have := (hz4 _ e).2; omega)
  have HST := Lib.hid (HS3.out _ _ _ _ _ _ _ hPX _ 1 hcX)
  have hr2X := hr2.cle (Wr.of_below (Gs := gsW go gw Ap2) hbX).cle
  have HR2 := Lib.hid hr2X
  have HX4 := Lib.hid hX4
  have HG1 := Lib.hid hg1
  have HG2 := Lib.hid hg2
  have HGX := Lib.hid hPX.ge
  have HG4 := Lib.hid hz4
  have HG3 := Lib.hid HP1.out.ge
  have HW1 := Lib.hid hw1
  have HW2 := Lib.hid hw2
  have HBX := Lib.hid hbX
  clear hX4 hbX hPX hcX hr2 hr2X hP2 hg1 hg2 hz4 hw1 hw2 hc2
  go_upto_region 7 with (go_at_call 4; rw [← HX4.out]; refine HST.out.mono ?_; rintro e w5 ⟨A3, c3, Ap3, cp3, rfl, hP3, hw3, hg3, hr3, hc3⟩)
  obtain ⟨ad2, rfl, i0, i1, i2, i3⟩ := it_cells (hw3.sat (sat_hx X4 (gsW go gw Ap2)) fun g hg => hx_in hg) HR2.out (j := 0) rfl
  obtain ⟨ad3, rfl, k0, k1, k2, k3⟩ := it_cells (sat_hx w5 _) hr3 (j := 1) rfl
  rw [show ad2.add (0 * 4) = ad2 by unfold Addr.add; simp] at i0
  have j0 : w5.cell? ad2 = some (.int .i64 2) := i0
  have j1 : w5.cell? ⟨ad2.block, ad2.off + 1, none⟩ = some (.int .i64 0) := i1
  have j2 : w5.cell? ⟨ad2.block, ad2.off + 2, none⟩ = some (.bool false) := i2
  have j3 : w5.cell? ⟨ad2.block, ad2.off + 3, none⟩ = some (.int .i64 1) := i3
  have l0 : w5.cell? ⟨ad3.block, ad3.off + 4, none⟩ = some (.int .i64 1) := k0
  have l1 : w5.cell? ⟨ad3.block, ad3.off + 5, none⟩ = some (.int .i64 2) := k1
  have l2 : w5.cell? ⟨ad3.block, ad3.off + 6, none⟩ = some (.bool true) := k2
  have l3 : w5.cell? ⟨ad3.block, ad3.off + 7, none⟩ = some (.int .i64 0) := k3
  have m1 : w5.cell? ⟨ad3.block, ad3.off + 4 + 1, none⟩ = some (.int .i64 2) := k1
  have m2 : w5.cell? ⟨ad3.block, ad3.off + 4 + 2, none⟩ = some (.bool true) := k2
  have m3 : w5.cell? ⟨ad3.block, ad3.off + 4 + 3, none⟩ = some (.int .i64 0) := k3
  clear i0 i1 i2 i3 k0 k1 k2 k3
  have HED2 := Lib.hid (HED.out _ _ _ _ _ _ _ hP3)
  have hbF : Below w.heap.size w w5 := by
    have hz1 : w.heap.size ≤ w1.heap.size := hb1.size
    have h3 : Below w.heap.size w w3 := hb12.trans (HW1.out.below (fun g hg => by have := (HG0.out g hg).1; omega) hb12.size)
    have h4 : Below w.heap.size w w4 := h3.trans (HW2.out.below (fun g hg => by have := (HG3.out g hg).1; omega) h3.size)
    have h5 : Below w.heap.size w X4 := h4.trans (HBX.out.mono h4.size)
    exact h5.trans (hw3.below (fun g hg => by have := (HGX.out g hg).1; omega) h5.size)
  have hgo5 : w.heap.size ≤ go := by
    have := (hP3.ge go List.mem_cons_self).1
    have := hb1.size
    omega
  have HBF := Lib.hid hbF
  clear hP3 hw3 hg3 hr3 hc3 hbF
  go_wp2_with (go_at_call 5; refine HED2.out.mono ?_; rintro e w6 ⟨w7, AE, cE, rfl, hb7, rfl, _, _, _⟩)
  go_ret
  exact ⟨rfl, ((HBF.out.trans (hb7.mono HBF.out.size)).setCell (p := ⟨go, 4, none⟩) hgo5 _).setCell (p := ⟨go, 7, none⟩) hgo5 _⟩
end Go.Proofs.Ytaomehlhopiblaa
