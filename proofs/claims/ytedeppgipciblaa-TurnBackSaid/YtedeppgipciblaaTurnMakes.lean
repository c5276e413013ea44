/- The walks of law 20's awake and of TurnMakes. -/
import Derived.Test.YtedeppgipciblaaTurnO
import Derived.Test.YtedeppgipciblaaTurnW
import Derived.Test.YtedeppgipciblaaTurnR
import Derived.Test.YtedeppgipciblaaEq
import Derived.Test.YtedeppgipciblaaBuild
set_option linter.unusedVariables false
set_option linter.unusedSimpArgs false
/-! The walk of law 20's awake. -/
namespace Go.Proofs.Ytedeppgipciblaa
open Go.RowKit
/-- The regular expression that every program must turn round. -/
def awakeN : List Nd := [⟨3, ⟨#[112]⟩, 0, 0, []⟩, ⟨19, ⟨#[]⟩, 0, 0, [0]⟩, ⟨18, ⟨#[]⟩, 0, 0, []⟩, ⟨21, ⟨#[]⟩, 0, 0, [1, 2]⟩]
theorem awakeN_turn : turnL awakeN = [⟨18, ⟨#[]⟩, 0, 0, []⟩, ⟨3, ⟨#[112]⟩, 0, 0, []⟩, ⟨19, ⟨#[]⟩, 0, 0, [1]⟩, ⟨21, ⟨#[]⟩, 0, 0, [0, 2]⟩] := by kernel_rfl
theorem awakeN_ord : zs (ordL awakeN) = [0] := by kernel_rfl
theorem rd_ints {w : World} {g : Nat} {ks : List Int} (h : Blk w g 3 (ks.map (Value.int .i64)).toArray) : Rd (heapF w) 1 (some ⟨g, 0, none⟩) ks.length (ks.map (Value.int .i64)) := by
  refine ⟨by simp, fun _ => ⟨_, rfl, fun j u hu => ?_⟩⟩
  rw [add_lit0]
  unfold Fz.cell heapF
  rw [h]
  simpa using hu
theorem awakeN_nodes {w : World} {g1 g2 g3 : Nat} (h1 : Blk w g1 3 #[.int .i64 0]) (h2 : Blk w g2 3 #[.int .i64 1, .int .i64 2])
    (h3 : Blk w g3 66 #[.int .i64 3, .string ⟨#[112]⟩, .int .i64 0, .int .i64 0, .slice none 0 0, .int .i64 19, .string ⟨#[]⟩, .int .i64 0, .int .i64 0, .slice (some ⟨g1, 0, none⟩) 1 1, .int .i64 18, .string ⟨#[]⟩, .int .i64 0, .int .i64 0, .slice none 0 0, .int .i64 21, .string ⟨#[]⟩, .int .i64 0, .int .i64 0, .slice (some ⟨g2, 0, none⟩) 2 2]) :
    NodesF (heapF w) (some ⟨g3, 0, none⟩) 4 awakeN := by
  have hk1 : Rd (heapF w) 1 (some ⟨g1, 0, none⟩) 1 ([(0 : Int)].map (Value.int .i64)) := rd_ints (ks := [0]) h1
  have hk2 : Rd (heapF w) 1 (some ⟨g2, 0, none⟩) 2 ([(1 : Int), 2].map (Value.int .i64)) := rd_ints (ks := [1, 2]) h2
  have hv : NodesV (heapF w) awakeN [.int .i64 3, .string ⟨#[112]⟩, .int .i64 0, .int .i64 0, .slice none 0 0, .int .i64 19, .string ⟨#[]⟩, .int .i64 0, .int .i64 0, .slice (some ⟨g1, 0, none⟩) 1 1, .int .i64 18, .string ⟨#[]⟩, .int .i64 0, .int .i64 0, .slice none 0 0, .int .i64 21, .string ⟨#[]⟩, .int .i64 0, .int .i64 0, .slice (some ⟨g2, 0, none⟩) 2 2] :=
    .cons _ _ none 0 _ (Nat.le_refl _) Rd.nil (.cons _ _ (some ⟨g1, 0, none⟩) 1 _ (Nat.le_refl _) hk1 (.cons _ _ none 0 _ (Nat.le_refl _) Rd.nil (.cons _ _ (some ⟨g2, 0, none⟩) 2 [] (Nat.le_refl _) hk2 .nil)))
  refine hv.toF ⟨rfl, fun _ => ⟨_, rfl, fun j u hu => ?_⟩⟩
  rw [add_lit0]
  unfold Fz.cell heapF
  rw [h3]
  simpa using hu
theorem Blk.new3 (w : World) (o o' : Obj) (t : TypeId) (cs : Array Value) : Blk (((w.alloc o).alloc o').alloc (.cells cs t)) (w.heap.size + 2) t cs := by
  have := Blk.new ((w.alloc o).alloc o') t cs
  simpa using this
set_option maxRecDepth 100000 in
set_option maxHeartbeats 2000000 in
theorem awake20_w (w : World) : Calls Try.prog 9 #[] w fun e w' => e = .returned (.bool true) ∧ Below w.heap.size w w' := by
  obtain ⟨N, hN⟩ : ∃ N, N = ((w.alloc (.cells #[.int .i64 0] 3)).alloc (.cells #[.int .i64 1, .int .i64 2] 3)).alloc (.cells #[.int .i64 3, .string ⟨#[112]⟩, .int .i64 0, .int .i64 0, .slice none 0 0, .int .i64 19, .string ⟨#[]⟩, .int .i64 0, .int .i64 0, .slice (some ⟨w.heap.size, 0, none⟩) 1 1, .int .i64 18, .string ⟨#[]⟩, .int .i64 0, .int .i64 0, .slice none 0 0, .int .i64 21, .string ⟨#[]⟩, .int .i64 0, .int .i64 0, .slice (some ⟨w.heap.size + 1, 0, none⟩) 2 2] 66) := ⟨_, rfl⟩
  have hb1 : Blk N w.heap.size 3 #[.int .i64 0] := hN ▸ ((Blk.new w 3 #[.int .i64 0]).alloc _).alloc _
  have hb2 : Blk N (w.heap.size + 1) 3 #[.int .i64 1, .int .i64 2] := hN ▸ (Blk.new2 w (.cells #[.int .i64 0] 3) 3 #[.int .i64 1, .int .i64 2]).alloc _
  have hb3 := hN ▸ Blk.new3 w (.cells #[.int .i64 0] 3) (.cells #[.int .i64 1, .int .i64 2] 3) 66 #[.int .i64 3, .string ⟨#[112]⟩, .int .i64 0, .int .i64 0, .slice none 0 0, .int .i64 19, .string ⟨#[]⟩, .int .i64 0, .int .i64 0, .slice (some ⟨w.heap.size, 0, none⟩) 1 1, .int .i64 18, .string ⟨#[]⟩, .int .i64 0, .int .i64 0, .slice none 0 0, .int .i64 21, .string ⟨#[]⟩, .int .i64 0, .int .i64 0, .slice (some ⟨w.heap.size + 1, 0, none⟩) 2 2]
  have hbl : Below w.heap.size w N := hN ▸ (((balloc _ _).alloc (by simp) _).alloc (by simp; omega) _)
  have hl := awakeN_nodes hb1 hb2 hb3
  have hT := turn_w 4 awakeN (by decide) (by decide) (heapF N) N (sat_heapF N) _ 4 4 (by decide) hl
  rw [awakeN_turn] at hT
  have hO := fun (X : World) (h : Below N.heap.size N X) => tOrder_w ((sat_heapF N).below h) awakeN (by decide) _ 4 4 hl
  rw [awakeN_ord] at hO
  have HT := Lib.hid hT
  have HO := Lib.hid hO
  have HN := Lib.hid hN
  clear hT hO hN hb1 hb2 hb3 hl
  go_enter Try.func9, Try.ntmps9
  go_wp2_with (go_at_call 13; rw [← HN.out])
  refine HT.out.mono ?_
  rintro e w3 ⟨A3, c3, F3, rfl, hc3, ⟨_, hN3⟩, hb3, hF3, _⟩
  obtain ⟨ad, rfl, hL⟩ := hN3 (by decide)
  obtain ⟨_, _, _, _, hd0⟩ := hL 0 (by decide)
  obtain ⟨_, _, _, _, hd2⟩ := hL 2 (by decide)
  have k0 : w3.cell? ad = some (.int .i64 18) := by
    have := (hd0.sat hF3).1
    rw [Nat.zero_mul, show ad.add 0 = ad by unfold Addr.add; simp] at this
    exact this
  have k2 : w3.cell? ⟨ad.block, ad.off + 10, none⟩ = some (.int .i64 19) := by
    have := (hd2.sat hF3).1
    rw [show ad.add (2 * 5) = ⟨ad.block, ad.off + 10, none⟩ by unfold Addr.add; simp] at this
    exact this
  have HO3 := Lib.hid (HO.out w3 hb3)
  clear hd0 hd2 hL hN3 hF3 hc3
  go_wp2_with (first
    | (go_at_call 15; refine HO3.out.mono ?_; rintro e w4 ⟨A4, c4, rfl, hc4, hr4, hb4⟩; have hEq := equalInts_w (sat_heapF (w4.alloc (.cells #[.int .i64 0] 3))) [0] [0] A4 (some ⟨w4.heap.size, 0, none⟩) 1 1 c4 1 (by decide) (hr4.cle (cle_below (balloc _ _))) (rd_ints (ks := [0]) (Blk.new w4 3 #[.int .i64 0])))
    | (go_at_call 14; refine hEq.mono ?_; rintro e w5 ⟨rfl, q5, rfl⟩))
  go_ret
  exact ⟨by simp, below_drewN (hbl.trans (((bthen hb3 hb4).mono hbl.size).trans ((balloc _ _).mono (by have := hbl.size; have := hb3.size; have := hb4.size; omega)))) _⟩
end Go.Proofs.Ytedeppgipciblaa
/-! The walk of the law TurnMakes. -/
namespace Go.Proofs.Ytedeppgipciblaa
open Go.RowKit
theorem turnL_kids (l : List Nd) : ∀ x ∈ turnL l, x.kids.length ≤ 1000 := by
  cases hreg : regL l with
  | false => rw [(turn_no hreg).1]; intro x hx; cases hx
  | true =>
    obtain ⟨t, ht, hr, _⟩ := ownS_yes hreg
    obtain ⟨t', h1, _, _⟩ := turn_tree ht hr
    intro x hx
    have := (kids_lt h1 x hx).1
    omega
theorem ordL_len (l : List Nd) : (zs (ordL l)).length ≤ l.length := by
  rw [length_zs]
  cases hreg : regL l with
  | false => rw [(turn_no hreg).2]; exact Nat.zero_le _
  | true =>
    obtain ⟨t, ht, hr, _⟩ := ownS_yes hreg
    rw [(turn_yes ht hr).2, length_ord, tree_len ht]
    exact testsT_le t
set_option maxRecDepth 100000 in
set_option maxHeartbeats 4000000 in
theorem turnMakes_c {F : Fz} {w : World} (hF : Sat F w) (l : List Nd) (Al : Option Addr) (nl cl : Nat) (hcl : nl ≤ cl) (hl : NodesF F Al nl l) (ns : List Nat) (hns : ∀ k ∈ ns, k < 65536) (B : Option Addr) (m d : Nat) (hr : Rd F 1 B m (ns.map encW)) (hcm : nl ≤ maxLen) :
    Calls Try.prog 3 #[.slice Al nl cl, .slice B m d] w fun e w' => e = .returned (.bool true) ∧ Below w.heap.size w w' := by
  unfold maxLen at hcm
  by_cases hbig : 1000 < nl
  · have hbI : (1000 : Int) < (nl : Int) := by omega
    go_enter Try.func3, Try.ntmps3
    go_wp2_with (go_at_call 9; refine (awake20_w _).mono ?_; rintro e w1 ⟨rfl, hb1⟩)
    go_ret
    exact ⟨rfl, hb1⟩
  have hbI : decide ((1000 : Int) < (nl : Int)) = false := decide_eq_false (by omega)
  have hbN : decide (1000 < nl) = false := decide_eq_false hbig
  have hln : l.length ≤ 1000 := by rw [hl.1]; omega
  have hRg := Lib.hid (reg5_w hF ns hns B m d hr false (regT false ns) rfl)
  have hMk := Lib.hid (fun (X : World) (h : Sat F X) => make_w h ns hns B m d hr false (makeT false ns) rfl)
  have hrn0 := (make_size false ns).2
  have hfn0 := (make_size false ns).1
  have hfm := (ok_form (make_ok false ns hns).1).2.1
  have hft := (turn_no hfm).1
  rw [← Tr.length_flat (regT false ns) 0] at hrn0
  rw [← Tr.length_flat (makeT false ns) 0] at hfn0
  obtain ⟨r, hre⟩ : ∃ r, (regT false ns).flat 0 = r := ⟨_, rfl⟩
  rw [hre] at hRg hrn0
  obtain ⟨f, hfe⟩ : ∃ f, (makeT false ns).flat 0 = f := ⟨_, rfl⟩
  rw [hfe] at hMk hfn0 hft
  clear hre hfe hfm hr hns
  obtain ⟨nr, hnr⟩ : ∃ nr, r.length = nr := ⟨_, rfl⟩
  obtain ⟨nf, hnf⟩ : ∃ nf, f.length = nf := ⟨_, rfl⟩
  have HNR := Lib.hid hnr
  have HNF := Lib.hid hnf
  have hrn : r.length ≤ 1000 := by omega
  have HFN : Hid (f.length ≤ 1000) := Lib.hid (by omega)
  have HFT := Lib.hid hft
  clear hnr hnf hrn0 hfn0 hft
  go_enter Try.func3, Try.ntmps3
  go_wp2_with fail
  go_at_call 10
  refine hRg.out.mono ?_
  rintro e W ⟨Ar, cr, F1, rfl, hcr, hrN1, hbW, hF1, hle1⟩
  rw [HNR.out] at hrN1 hcr
  rw [HNR.out]
  have hlN := hl.cle (hF.below hbW).cle
  have hrN := hrN1.cle hF1.cle
  have hRl := rTurn_w (sat_heapF W) l hln Al nl cl hcl hlN
  have hRr := fun (X : World) (h : Sat (heapF W) X) => rTurn_w h r hrn Ar nr cr hcr hrN
  have hTl := fun (X : World) (h : Sat (heapF W) X) => turn_w l.length l (Nat.le_refl _) hln (heapF W) X h Al nl cl hcl hlN
  have hTr := fun (X : World) (h : Sat (heapF W) X) => turn_w r.length r (Nat.le_refl _) hrn (heapF W) X h Ar nr cr hcr hrN
  have hOl := fun (X : World) (h : Sat (heapF W) X) => tOrder_w h l hln Al nl cl hlN
  have hOr := fun (X : World) (h : Sat (heapF W) X) => tOrder_w h r hrn Ar nr cr hrN
  have KL := Lib.hid (turnL_kids l)
  have KR := Lib.hid (turnL_kids r)
  have LL : Hid ((turnL l).length ≤ 100000) := Lib.hid (by have := turnL_len l; omega)
  have LR : Hid ((turnL r).length ≤ 100000) := Lib.hid (by have := turnL_len r; omega)
  have OL : Hid ((zs (ordL l)).length ≤ 100000) := Lib.hid (by have := ordL_len l; omega)
  have OR : Hid ((zs (ordL r)).length ≤ 100000) := Lib.hid (by have := ordL_len r; omega)
  have HFB := Lib.hid (hF.below hbW)
  generalize turnL l = tl at *
  generalize turnL r = tr at *
  generalize zs (ordL l) = ol at *
  generalize zs (ordL r) = or_ at *
  have HRl := Lib.hid hRl
  have HRr := Lib.hid hRr
  have HTl := Lib.hid hTl
  have HTr := Lib.hid hTr
  have HOl := Lib.hid hOl
  have HOr := Lib.hid hOr
  have hG0 : Sat (heapF W) W := sat_heapF W
  clear hRl hRr hTl hTr hOl hOr hl hlN hrN hrN1 hln hrn hle1
  go_wp2_with fail
  go_at_call 11
  refine HRl.out.mono ?_
  rintro e x0 ⟨A0, c0, B0, d0, rfl, _, _, n0, r0, b0⟩
  have hG1 := hG0.below b0
  go_wp2_with fail
  go_at_call 11
  refine (HRr.out _ hG1).mono ?_
  rintro e x1 ⟨A1, c1, B1, d1, rfl, _, _, n1, r1, b1⟩
  have hG2 := hG1.below b1
  go_wp2_with fail
  go_at_call 13
  refine (HTl.out _ hG2).mono ?_
  rintro e x2 ⟨A2, c2, F2, rfl, _, n2, b2, hF2, _⟩
  have hG3 := hG2.below b2
  have hS := sameNodes_w (sat_heapF x2) tl tl A2 A0 _ _ c2 c0 LL.out (n2.cle hF2.cle) (n0.cle ((cle_below b1).trans (cle_below b2))) KL.out true (by simp)
  go_wp2_with fail
  go_at_call 12
  refine hS.mono ?_
  rintro e x3 ⟨rfl, b3⟩
  have hG4 := hG3.below b3
  go_wp2_with fail
  go_at_call 15
  refine (HOl.out _ hG4).mono ?_
  rintro e x4 ⟨A4, c4, rfl, _, r4, b4⟩
  have hG5 := hG4.below b4
  have hE := equalInts_w (sat_heapF x4) ol ol A4 B0 _ _ c4 d0 OL.out r4 (r0.cle ((((cle_below b1).trans (cle_below b2)).trans (cle_below b3)).trans (cle_below b4)))
  go_wp2_with fail
  go_at_call 14
  refine hE.mono ?_
  rintro e x5 ⟨rfl, q5, rfl⟩
  have hG6 : Sat (heapF W) (x4.drewN q5) := hG5.drewN _
  go_wp2_with fail
  go_at_call 13
  refine (HTr.out _ hG6).mono ?_
  rintro e x6 ⟨A6, c6, F6, rfl, _, n6, b6, hF6, _⟩
  have hG7 := hG6.below b6
  have b26 : Below x1.heap.size x1 x6 := bthen (below_drewN (bthen (bthen b2 b3) b4) q5) b6
  have hS2 := sameNodes_w (sat_heapF x6) tr tr A6 A1 _ _ c6 c1 LR.out (n6.cle hF6.cle) (n1.cle (cle_below b26)) KR.out true (by simp)
  go_wp2_with fail
  go_at_call 12
  refine hS2.mono ?_
  rintro e x7 ⟨rfl, b7⟩
  have hG8 := hG7.below b7
  go_wp2_with fail
  go_at_call 15
  refine (HOr.out _ hG8).mono ?_
  rintro e x8 ⟨A8, c8, rfl, _, r8, b8⟩
  have hG9 := hG8.below b8
  have b28 := bthen (bthen b26 b7) b8
  have hE2 := equalInts_w (sat_heapF x8) or_ or_ A8 B1 _ _ c8 d1 OR.out r8 (r1.cle (cle_below b28))
  go_wp2_with fail
  go_at_call 14
  refine hE2.mono ?_
  rintro e x9 ⟨rfl, q9, rfl⟩
  have b9 : Below W.heap.size W (x8.drewN q9) := below_drewN (bthen (bthen b0 b1) b28) q9
  have hFx : Sat F (x8.drewN q9) := HFB.out.below b9
  go_wp2_with fail
  go_at_call 16
  refine (hMk.out _ hFx).mono ?_
  rintro e y0 ⟨Af, cf, Ff, rfl, hcf, hfN, c0', hFf, _⟩
  rw [HNF.out] at hfN hcf
  rw [HNF.out]
  have hTf := turn_w f.length f (Nat.le_refl _) HFN.out Ff y0 hFf Af nf cf hcf hfN
  rw [HFT.out] at hTf
  have HTf := Lib.hid hTf
  clear hTf
  go_wp2_with fail
  go_at_call 13
  refine HTf.out.mono ?_
  rintro e y1 ⟨A10, c10, F10, rfl, _, _, b10, _, _⟩
  rw [List.length_nil]
  go_wp2_with fail
  go_at_call 9
  refine (awake20_w _).mono ?_
  rintro e y2 ⟨rfl, b11⟩
  go_wp2_with fail
  go_ret
  exact ⟨rfl, bthen (bthen (bthen (bthen hbW b9) c0') b10) b11⟩
end Go.Proofs.Ytedeppgipciblaa
