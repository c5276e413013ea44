/- The walks of the law's tells and awake. -/
import Derived.Test.YtkffofolhckjeaaNames
import Derived.Test.YtkffofolhckjeaaRForm
import Derived.Test.YtkffofolhckjeaaDepth
import Derived.Test.YtkffofolhckjeaaRPart
import Derived.Test.YtkffofolhckjeaaOver
set_option linter.unusedVariables false
set_option linter.unusedSimpArgs false
namespace Go.Proofs.Ytkffofolhckjeaa
open Go.RowKit
theorem part_kids {l : List Nd} (hn : l.length ≤ 1000) (i : Int) : (partL l i).length ≤ 1000 ∧ ∀ x ∈ partL l i, x.kids.length ≤ 1000 := by
  cases ht : treeS l with
  | none => rw [part_none ht]; simp
  | some t =>
    by_cases h : 0 ≤ i ∧ i < (l.length : Int)
    · obtain ⟨k, rfl⟩ := Int.eq_ofNat_of_zero_le h.1
      have hk : k < l.length := by omega
      obtain ⟨h1, h2, h3⟩ := part_cut ht hk
      have hlt : ((l.drop (k + 1 - (t.sub k).size)).take (t.sub k).size).length ≤ l.length := by simp; omega
      rw [h3, ← h2]
      refine ⟨by rw [List.length_map]; omega, fun x hx => ?_⟩
      obtain ⟨y, hy, rfl⟩ := List.mem_map.1 hx
      have := (KidsB.of hn ht) y (List.mem_of_mem_drop (List.mem_of_mem_take hy))
      simp only [shiftN, List.length_map]
      omega
    · rw [part_out (by omega)]; simp
set_option maxRecDepth 100000 in
set_option maxHeartbeats 4000000 in
theorem tells_w {F : Fz} {w : World} (hF : Sat F w) (l : List Nd) (hn : l.length ≤ 1000) (A : Option Addr) (n c : Nat) (hc : n ≤ c) (hl : NodesF F A n l) (i : Int) (hi1 : -9223372036854775808 ≤ i) (hi2 : i ≤ 9223372036854775807) :
    Calls Try.prog 36 #[.slice A n c, .int .i64 i] w fun e w' => e = .returned (.bool true) ∧ Below w.heap.size w w' := by
  obtain ⟨bm, hbm⟩ : ∃ b, mayS l = b := ⟨_, rfl⟩
  obtain ⟨bf, hbf⟩ : ∃ b, formL l = b := ⟨_, rfl⟩
  obtain ⟨br, hbr⟩ : ∃ b, regL l = b := ⟨_, rfl⟩
  obtain ⟨bp, hbp⟩ : ∃ b, plainS l = b := ⟨_, rfl⟩
  obtain ⟨dp, hdp⟩ : ∃ d, depthL l = d := ⟨_, rfl⟩
  obtain ⟨ss, hss⟩ : ∃ ss, namesL l = ss := ⟨_, rfl⟩
  have M1 := Lib.hid (fun (X : World) (h : Below w.heap.size w X) => may_w (hF.below h) l hn A n c hl _ hbm)
  have M2 := Lib.hid (fun (X : World) (h : Below w.heap.size w X) => rmay_w (hF.below h) l hn A n c hl _ hbm)
  have F1 := Lib.hid (fun (X : World) (h : Below w.heap.size w X) => form_w (hF.below h) l hn A n c hl _ hbf)
  have F2 := Lib.hid (fun (X : World) (h : Below w.heap.size w X) => rform_w (hF.below h) l hn A n c hl _ hbf)
  have R1 := Lib.hid (fun (X : World) (h : Below w.heap.size w X) => treg_w (hF.below h) l hn A n c hl _ hbr)
  have R2 := Lib.hid (fun (X : World) (h : Below w.heap.size w X) => rreg_w (hF.below h) l hn A n c hl _ hbr)
  have P1 := Lib.hid (fun (X : World) (h : Below w.heap.size w X) => plain_w (hF.below h) l hn A n c hl _ hbp)
  have P2 := Lib.hid (fun (X : World) (h : Below w.heap.size w X) => rplain_w (hF.below h) l hn A n c hl _ hbp)
  have D1 := Lib.hid (fun (X : World) (h : Below w.heap.size w X) => hdp ▸ depth_w (hF.below h) l hn A n c hl)
  have D2 := Lib.hid (fun (X : World) (h : Below w.heap.size w X) => hdp ▸ rdepth_w (hF.below h) l hn A n c hl)
  have N1 := Lib.hid (fun (X : World) (h : Below w.heap.size w X) => hss ▸ names_w (hF.below h) l hn A n c hl)
  have N2 := Lib.hid (fun (X : World) (h : Below w.heap.size w X) => hss ▸ rnames_w (hF.below h) l hn A n c hl)
  have T1 := Lib.hid (fun (X : World) (h : Below w.heap.size w X) => part_w (hF.below h) l hn A n c hc hl i hi1 hi2)
  have T2 := Lib.hid (fun (X : World) (h : Below w.heap.size w X) => rpart_w (hF.below h) l hn A n c hc hl i hi1 hi2)
  have hpk := part_kids hn i
  have HPK := Lib.hid hpk
  have hsl : ss.length ≤ 1000 := by
    rw [← hss]
    unfold namesL
    split
    · rw [length_sortL]
      have h1 := props_le l
      have h2 : (dedupL (propsL l)).length ≤ (propsL l).length := by
        suffices ∀ (xs : List (List UInt8)) (out : List (List UInt8)), (xs.foldl (fun out s => if out.contains s then out else out ++ [s]) out).length ≤ out.length + xs.length by
          have := this (propsL l) []
          simpa [dedupL] using this
        intro xs
        induction xs with
        | nil => intro out; simp
        | cons x xs ih =>
          intro out
          rw [List.foldl_cons]
          refine Nat.le_trans (ih _) ?_
          split <;> simp <;> omega
      omega
    · simp
  have hb : Below w.heap.size w w := Below.refl _ _
  generalize partL l i = pl at *
  clear hbm hbf hbr hbp hdp hss hl hpk
  go_enter Try.func36, Try.ntmps36
  go_wp2_with (first
    | (go_at_call 58; refine (M1.out _ hb).mono ?_; rintro e w' ⟨rfl, hw'⟩; have hb := bthen hb hw')
    | (go_at_call 48; refine (M2.out _ hb).mono ?_; rintro e w' ⟨rfl, hw'⟩; have hb := bthen hb hw')
    | (go_at_call 39; refine (F1.out _ hb).mono ?_; rintro e w' ⟨rfl, hw'⟩; have hb := bthen hb hw')
    | (go_at_call 59; refine (F2.out _ hb).mono ?_; rintro e w' ⟨rfl, hw'⟩; have hb := bthen hb hw')
    | (go_at_call 40; refine (R1.out _ hb).mono ?_; rintro e w' ⟨rfl, hw'⟩; have hb := bthen hb hw')
    | (go_at_call 60; refine (R2.out _ hb).mono ?_; rintro e w' ⟨rfl, hw'⟩; have hb := bthen hb hw')
    | (go_at_call 41; refine (P1.out _ hb).mono ?_; rintro e w' ⟨rfl, hw'⟩; have hb := bthen hb hw')
    | (go_at_call 61; refine (P2.out _ hb).mono ?_; rintro e w' ⟨rfl, hw'⟩; have hb := bthen hb hw')
    | (go_at_call 50; refine (D1.out _ hb).mono ?_; rintro e w' ⟨rfl, hw'⟩; have hb := bthen hb hw')
    | (go_at_call 62; refine (D2.out _ hb).mono ?_; rintro e w' ⟨rfl, hw'⟩; have hb := bthen hb hw')
    | (go_at_call 51; refine (N1.out _ hb).mono ?_; rintro e w1 ⟨B1, c1, rfl, hc1, hrd1, hw1⟩; have hb := bthen hb hw1)
    | (go_at_call 63; refine (N2.out _ hb).mono ?_; rintro e w2 ⟨B2, c2, rfl, hc2, hrd2, hw2⟩; have hb := bthen hb hw2; have hrd1 := hrd1.cle (cle_below hw2)))
  go_loopw [7, 52] (fun _ j wr => ∃ (k q : Nat), k ≤ ss.length ∧ j = .int .i64 k ∧ wr = w2.drewN q) (fun _ j _ => ss.length - (intOf j).toNat)
  case atStart => exact ⟨0, 0, Nat.zero_le _, rfl, rfl⟩
  case round =>
    obtain ⟨k, q, hk, rfl, rfl⟩ := hrel
    by_cases hlt : k < ss.length
    · obtain ⟨a1, v1, rfl, hv1, hcell1⟩ := hrd1.at1 hlt
      obtain ⟨a2, v2, rfl, hv2, hcell2⟩ := hrd2.at1 hlt
      rw [List.getElem?_map, List.getElem?_eq_getElem hlt] at hv1 hv2
      simp only [Option.map_some, Option.some.injEq] at hv1 hv2
      subst hv1 hv2
      have hz1 := (sat_heapF w2).cell hcell1
      have hz2 := (sat_heapF w2).cell hcell2
      unfold encStr at hz1 hz2
      have hee : ((⟨ss[k].toArray⟩ : ByteArray).toList != (⟨ss[k].toArray⟩ : ByteArray).toList) = false := by simp
      have hkI : (k : Int) < (ss.length : Int) := by omega
      generalize (⟨ss[k].toArray⟩ : ByteArray) = sb at *
      clear hcell1 hcell2
      go_wp2_with fail
      go_quiet (fail)
      go_wp2_with fail
      go_roundw
      case rel => exact ⟨k + 1, _, by omega, by go_num, rfl⟩
      case measure => simp [intOf]; omega
    · obtain rfl : k = ss.length := by omega
      have hdec : decide ((ss.length : Int) < (ss.length : Int)) = false := decide_eq_false (by omega)
      have hb := below_drewN hb q
      go_wp2_with (first
        | (go_at_call 49; refine (T1.out _ hb).mono ?_; rintro e w3 ⟨A3, c3, F3, rfl, hc3, hN3, hw3, hF3, _⟩; have hb := bthen hb hw3; have hN3 := hN3.cle hF3.cle)
        | (go_at_call 64; refine (T2.out _ hb).mono ?_; rintro e w4 ⟨A4, c4, F4, rfl, hc4, hN4, hw4, hF4, _⟩; have hb := bthen hb hw4; have hN4 := hN4.cle hF4.cle; have hN3 := hN3.cle (cle_below hw4))
        | (go_at_call 43; refine (sameNodes_w (sat_heapF _) pl pl A3 A4 _ _ c3 c4 (by have := HPK.out.1; omega) hN3 hN4 HPK.out.2 true (by simp)).mono ?_; rintro e w5 ⟨rfl, hw5⟩; have hb := bthen hb hw5))
      go_ret
      exact ⟨rfl, hb⟩
/-- The formula that every program must know. -/
def awakeL : List Nd := [⟨3, ⟨#[112]⟩, 0, 0, []⟩, ⟨4, ⟨#[]⟩, 0, 0, [0]⟩]
theorem awake_tree : treeS awakeL = some (.un ⟨4, ⟨#[]⟩, 0, 0, [0]⟩ (.leaf ⟨3, ⟨#[112]⟩, 0, 0, []⟩)) := by kernel_rfl
theorem awake_form : formL awakeL = true := by kernel_rfl
theorem awake_reg : regL awakeL = false := by kernel_rfl
theorem awake_depth : depthL awakeL = 2 := by kernel_rfl
theorem awake_part : (partL awakeL 0).length = 1 := by kernel_rfl
theorem awake_names : (namesL awakeL).length = 1 := by kernel_rfl
theorem awake_nodes {w : World} {g1 g2 : Nat} (h1 : Blk w g1 3 #[.int .i64 0]) (h2 : Blk w g2 57 #[.int .i64 3, .string ⟨#[112]⟩, .int .i64 0, .int .i64 0, .slice none 0 0, .int .i64 4, .string ⟨#[]⟩, .int .i64 0, .int .i64 0, .slice (some ⟨g1, 0, none⟩) 1 1]) :
    NodesF (heapF w) (some ⟨g2, 0, none⟩) 2 awakeL := by
  have hk : Rd (heapF w) 1 (some ⟨g1, 0, none⟩) 1 ([(0 : Int)].map (Value.int .i64)) := by
    refine ⟨rfl, fun _ => ⟨_, rfl, fun j u hu => ?_⟩⟩
    rw [add_lit0]
    unfold Fz.cell heapF
    rw [h1]
    simpa using hu
  have hv : NodesV (heapF w) awakeL [.int .i64 3, .string ⟨#[112]⟩, .int .i64 0, .int .i64 0, .slice none 0 0, .int .i64 4, .string ⟨#[]⟩, .int .i64 0, .int .i64 0, .slice (some ⟨g1, 0, none⟩) 1 1] :=
    .cons _ _ none 0 _ (Nat.le_refl _) Rd.nil (.cons _ _ (some ⟨g1, 0, none⟩) 1 [] (Nat.le_refl _) hk .nil)
  refine hv.toF ⟨rfl, fun _ => ⟨_, rfl, fun j u hu => ?_⟩⟩
  rw [add_lit0]
  unfold Fz.cell heapF
  rw [h2]
  simpa using hu
set_option maxHeartbeats 2000000 in
theorem awake5_w (w : World) : Calls Try.prog 35 #[] w fun e w' => e = .returned (.bool true) ∧ Below w.heap.size w w' := by
  have hN0 := fun (X : World) (hX : X = (w.alloc (.cells #[.int .i64 0] 3)).alloc (.cells #[.int .i64 3, .string ⟨#[112]⟩, .int .i64 0, .int .i64 0, .slice none 0 0, .int .i64 4, .string ⟨#[]⟩, .int .i64 0, .int .i64 0, .slice (some ⟨w.heap.size, 0, none⟩) 1 1] 57)) => (hX ▸ awake_nodes ((Blk.new w 3 #[.int .i64 0]).alloc _) (by have := Blk.new (w.alloc (.cells #[.int .i64 0] 3)) 57 #[.int .i64 3, .string ⟨#[112]⟩, .int .i64 0, .int .i64 0, .slice none 0 0, .int .i64 4, .string ⟨#[]⟩, .int .i64 0, .int .i64 0, .slice (some ⟨w.heap.size, 0, none⟩) 1 1]; simpa using this) : NodesF (heapF X) (some ⟨w.heap.size + 1, 0, none⟩) 2 awakeL)
  obtain ⟨N, hNe⟩ : ∃ N, N = (w.alloc (.cells #[.int .i64 0] 3)).alloc (.cells #[.int .i64 3, .string ⟨#[112]⟩, .int .i64 0, .int .i64 0, .slice none 0 0, .int .i64 4, .string ⟨#[]⟩, .int .i64 0, .int .i64 0, .slice (some ⟨w.heap.size, 0, none⟩) 1 1] 57) := ⟨_, rfl⟩
  have hN := hN0 N hNe
  have hbN : Below w.heap.size w N := hNe ▸ ((balloc _ _).alloc (by simp) _)
  have F1 := Lib.hid (fun (X : World) (h : Below N.heap.size N X) => form_w ((sat_heapF N).below h) awakeL (by decide) _ 2 2 hN _ awake_form)
  have R1 := Lib.hid (fun (X : World) (h : Below N.heap.size N X) => treg_w ((sat_heapF N).below h) awakeL (by decide) _ 2 2 hN _ awake_reg)
  have D1 := Lib.hid (fun (X : World) (h : Below N.heap.size N X) => awake_depth ▸ depth_w ((sat_heapF N).below h) awakeL (by decide) _ 2 2 hN)
  have T1 := Lib.hid (fun (X : World) (h : Below N.heap.size N X) => part_w ((sat_heapF N).below h) awakeL (by decide) _ 2 2 (by decide) hN 0 (by decide) (by decide))
  have N1 := Lib.hid (fun (X : World) (h : Below N.heap.size N X) => names_w ((sat_heapF N).below h) awakeL (by decide) _ 2 2 hN)
  have HP := Lib.hid awake_part
  have HM := Lib.hid awake_names
  have HE := Lib.hid hNe
  have hb : Below N.heap.size N N := Below.refl _ _
  clear hN0 hNe
  go_enter Try.func35, Try.ntmps35
  go_wp2_with (first
    | (go_at_call 39; rw [← HE.out]; refine (F1.out _ hb).mono ?_; rintro e w' ⟨rfl, hw'⟩; have hb := bthen hb hw')
    | (go_at_call 40; refine (R1.out _ hb).mono ?_; rintro e w' ⟨rfl, hw'⟩; have hb := bthen hb hw')
    | (go_at_call 50; refine (D1.out _ hb).mono ?_; rintro e w' ⟨rfl, hw'⟩; have hb := bthen hb hw')
    | (go_at_call 49; refine (T1.out _ hb).mono ?_; rintro e w3 ⟨A3, c3, F3, rfl, hc3, hN3, hw3, hF3, _⟩; have hb := bthen hb hw3; rw [HP.out])
    | (go_at_call 51; refine (N1.out _ hb).mono ?_; rintro e w1 ⟨B1, c1, rfl, hc1, hrd1, hw1⟩; have hb := bthen hb hw1; rw [HM.out]))
  go_ret
  exact ⟨rfl, hbN.trans (hb.mono hbN.size)⟩
theorem treeMays_c {F : Fz} {w : World} (hF : Sat F w) (l : List Nd) (A : Option Addr) (n c : Nat) (hc : n ≤ c) (hcm : c ≤ maxLen) (hl : NodesF F A n l) (i : Int) (hi1 : -9223372036854775808 ≤ i) (hi2 : i ≤ 9223372036854775807) :
    Calls Try.prog 9 #[.slice A n c, .int .i64 i] w fun e w' => e = .returned (.bool true) ∧ Below w.heap.size w w' := by
  obtain rfl := hl.1
  unfold maxLen at hcm
  by_cases h : 1000 < l.length
  · have h' : (1000 : Int) < (l.length : Int) := by omega
    go_enter Try.func9, Try.ntmps9
    go_wp2_with (go_at_call 35; refine (awake5_w _).mono ?_; rintro e w' ⟨rfl, hw'⟩)
    go_ret
    exact ⟨rfl, hw'⟩
  · have h' : decide ((1000 : Int) < (l.length : Int)) = false := decide_eq_false (by omega)
    have h2 : decide (1000 < l.length) = false := decide_eq_false h
    have HT := Lib.hid (tells_w hF l (by omega) A l.length c hc hl i hi1 hi2)
    go_enter Try.func9, Try.ntmps9
    go_wp2_with (first | (go_at_call 36; refine HT.out.mono ?_; rintro e w1 ⟨rfl, hw1⟩) | (go_at_call 35; refine (awake5_w _).mono ?_; rintro e w' ⟨rfl, hw'⟩))
    go_ret
    exact ⟨rfl, bthen hw1 hw'⟩
end Go.Proofs.Ytkffofolhckjeaa
