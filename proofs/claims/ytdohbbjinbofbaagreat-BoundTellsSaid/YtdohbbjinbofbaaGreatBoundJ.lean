/- The walks of bound.Extra and bound.Heads on any list. -/
import Derived.Test.YtdohbbjinbofbaaGreatBoundI
import Derived.Test.YtdohbbjinbofbaaGreatBoundF
import Derived.Test.YtdohbbjinbofbaaGreatBuild
set_option linter.unusedVariables false
set_option linter.unusedSimpArgs false
/-! The walks of bound.Extra and bound.Heads on any list. -/
namespace Go.Proofs.YtdohbbjinbofbaaGreat
open Go.RowKit
set_option maxRecDepth 100000 in
set_option maxHeartbeats 1000000 in
/-- bound.rest of what is no formula: noughts. -/
theorem rest0_w {F : Fz} {w : World} (hF : Sat F w) (l : List Nd) (hn : l.length ≤ 1000) (A : Option Addr) (n c : Nat) (hl : NodesF F A n l) (hb : (formL l && plainS l) = false) :
    Calls Tryz.prog 47 #[.slice A n c] w fun e w' => ∃ g gv, e = .returned (.slice (some ⟨g, 0, none⟩) n n) ∧ AtB w' g gv n (List.replicate n 0) ∧ w.heap.size ≤ g ∧ w.heap.size ≤ gv ∧ Below w.heap.size w w' := by
  have hmf : ∀ (fn : Fn) (first cap : Array Value) (w : World), (Instr.makeFunc fn first cap).run Tryz.prog w = .ok (.func fn first cap) w := fun _ _ _ _ => rfl
  have hlN := hl.cle hF.cle
  have hnl : n = l.length := hl.1.symm
  have hmk := mk49 (w := w) n (by omega)
  obtain ⟨W, hW⟩ : ∃ W, W = (w.alloc (.cells (zeros (.int .u64 0) n) 46)).alloc (.cells #[.slice (some ⟨w.heap.size, 0, none⟩) n n] 35) := ⟨_, rfl⟩
  have hbW : Below w.heap.size w W := hW ▸ (balloc w _).alloc (by simp) _
  have hB1 : Blk W w.heap.size 46 (zeros (.int .u64 0) n) := hW ▸ (Blk.new w 46 (zeros (.int .u64 0) n)).alloc _
  have hB2 : Blk W (w.heap.size + 1) 35 #[.slice (some ⟨w.heap.size, 0, none⟩) n n] := hW ▸ Blk.new2 w _ 35 #[.slice (some ⟨w.heap.size, 0, none⟩) n n]
  have hA0 : AtB W w.heap.size (w.heap.size + 1) n (List.replicate n 0) := ⟨List.length_replicate, by rw [show ((List.replicate n 0).map encU).toArray = zeros (.int .u64 0) n by simp [zeros]]; exact hB1, hB2⟩
  have HO := Lib.hid (fun v => overNo_w ((sat_heapF w).below hbW) l hn A n c hlN hb v)
  have HW := Lib.hid hW
  have HA := Lib.hid hA0
  clear hA0 hB1 hB2 hW hnl hl hlN hb
  go_enter Tryz.func47, Tryz.ntmps47
  go_wp2_with (go_at_call 48; rw [← HW.out]; refine (HO.out _).mono ?_; rintro e w3 ⟨rfl, hw3⟩; have hI := HA.out.call hw3; obtain ⟨q0, q1⟩ := blk1 hI.var)
  go_ret
  exact ⟨_, _, rfl, hI, Nat.le_refl _, Nat.le_succ _, bthen hbW hw3⟩
set_option maxRecDepth 100000 in
set_option maxHeartbeats 1000000 in
theorem bextra_w {F : Fz} {w : World} (hF : Sat F w) (l : List Nd) (hn : l.length ≤ 1000) (A : Option Addr) (n c : Nat) (hc : n ≤ c) (hl : NodesF F A n l) (R : Nat) (hR : onT extraT l = R) :
    Calls Tryz.prog 23 #[.slice A n c] w fun e w' => e = .returned (.int .i64 (R : Nat)) ∧ Below w.heap.size w w' ∧ R ≤ 1000000 := by
  have hnl : n = l.length := hl.1.symm
  have hlN := hl.cle hF.cle
  cases hb : (formL l && plainS l)
  · have h0 := onT_no (f := extraT) hb
    rw [hR] at h0
    subst h0
    refine (bextra_core hF A n c hc (by omega) (List.replicate n 0) 0 (by omega) (fun X h => rest0_w h l hn A n c hl hb) (fun X hX g gv gs gsv hg h1 h2 _ _ => (overNo_w ((sat_heapF w).below hX) l hn A n c hlN hb _).mono ?_)).mono ?_
    · rintro e w' ⟨rfl, hw⟩
      exact ⟨rfl, hw.mono hX.size⟩
    · rintro e w' ⟨rfl, hw⟩
      exact ⟨rfl, hw, by omega⟩
  obtain ⟨hf, hp, t, ht⟩ := plain_tree hb
  have hR2 := onT_yes (f := extraT) hb ht
  rw [hR] at hR2
  have hlt := tree_len ht
  have hval := tree_valid ht
  have hsz : ∀ j, j < n → (t.sub j).size ≤ 1000 := fun j hj => by
    have h2 := Tr.sub_size_le t j (by omega)
    omega
  have hrs : ∀ j, j < n → restT (t.sub j) ≤ 1000 := fun j hj => by
    have h1 := restT_le (t.sub j)
    have h2 := hsz j hj
    omega
  have hes : ∀ j, j < n → extraT (t.sub j) ≤ 1000000 := fun j hj => by
    have h1 := extraT_le (t.sub j)
    have h2 := hsz j hj
    exact Nat.le_trans h1 (Nat.le_trans (Nat.mul_le_mul h2 h2) (by omega))
  have hz : atV extraT t n 0 = List.replicate n 0 := by
    apply List.ext_getElem
    · simp [atV]
    · intro j h1 h2
      simp [atV]
  have hO := fun (X : World) (hX : Below w.heap.size w X) (g gv gs gsv : Nat) (hg : w.heap.size ≤ g) (hn1 : gs ≠ g) (hn2 : gsv ≠ g) (hAe0 : AtB X g gv n (List.replicate n 0)) (hAr : AtB X gs gsv n (atV restT t n n)) => over26_w (F := heapF w) (w := X) ((sat_heapF w).below hX) l hn A n c hc hlN hf hp ht 49 #[.pointer (some ⟨gv, 0, none⟩), .pointer (some ⟨gsv, 0, none⟩)] (enters_of Tryz.func49 (by kernel_rfl) rfl) w.heap.size heapF_lt hX.size
    (fun i X => AtB X g gv n (atV extraT t n i) ∧ AtB X gs gsv n (atV restT t n n)) (fun i => extraT (t.sub i)) (fun i X X' h hb => ⟨h.1.call hb, h.2.call hb⟩)
    (fun i hi hk X h => by
      have := get_flat_root ht i hi
      rw [this] at hk
      rw [atV_skip _ _ _ _ hk]; exact h)
    (fun i hi x hx hk X hX hB hI s Ak ck P pc Bl bn bc hR => by
      subst hx
      have hil : i < (atV restT t n n).length := by rw [atV_len]; omega
      have hget : (atV restT t n n)[i]'hil = restT (t.sub i) := by
        have h1 := atV_get restT t n n i (by omega)
        rw [List.getD, List.getElem?_eq_getElem hil] at h1
        simp only [Option.getD_some] at h1
        rw [h1, if_pos ⟨by omega, hk⟩]
      have hst := extraT_step hval i (by omega) _ rfl
      have hba := bel_at extraT hval n i (by omega) (by omega) hk
      have hbn : bn ≤ 1000 := by
        have h1 := hR.1
        simp [zs] at h1
        have h2 : (belM (t.sub i) i).length ≤ 1000 := by
          cases hx : t.sub i with
          | leaf _ => simp [belM]
          | bin _ _ _ => simp [belM]
          | un h a =>
            have h3 := Tr.sub_size_le t i (by omega)
            rw [hx] at h3
            simp only [Tr.size] at h3
            have h4 := testsT_le a
            simp only [belM]
            split
            · rw [List.length_map, length_tests]; omega
            · simp
        omega
      refine (extraF_w (t.sub i) g gv n _ hI.1 gs gsv _ hI.2 hn1 hn2 (by omega) i (by omega) (belM (t.sub i) i) (fun p hp => by have := (bel_mem hval i (by omega) hk p hp).1; omega) (fun v hv => Nat.le_trans (atV_le extraT t n i 1000000 hes v hv) (by omega)) s Ak (kidsT (t.sub i)).length ck P pc Bl bn bc hR hbn _ rfl (fun v hv => Nat.le_trans (atV_le restT t n n 1000 hrs v hv) (by omega)) hil (if (t.sub i).root.kind = 17 then restT (t.sub i) else 0) (by rw [hget]) (extraT (t.sub i)) (by rw [hba]; exact hst.symm)).mono ?_
      rintro e w' ⟨h1, h2, h4, h3⟩
      refine ⟨h1, ⟨?_, h4⟩, h3 _ hg hB⟩
      rw [atV_set _ _ _ _ (by omega) hk] at h2
      exact h2) ⟨hz ▸ hAe0, hAr⟩
  have hlast : t.sub (l.length - 1) = t := by rw [hlt]; exact Tr.sub_root t
  rw [hlast] at hO
  have heb : extraT t ≤ 1000000 := by have := hes (n - 1) (by have := t.size_pos; omega); rw [show n - 1 = l.length - 1 by omega, hlast] at this; exact this
  refine (bextra_core hF A n c hc (by omega) (atV restT t n n) R (by omega) (fun X h => rest_w h l hn A n c hc hl hb ht) (fun X hX g gv gs gsv hg h1 h2 h3 h4 => (hO X hX g gv gs gsv hg h1 h2 h3 h4).mono ?_)).mono ?_
  · rintro e w' ⟨rfl, _, hw⟩
    exact ⟨by rw [hR2], hw⟩
  · rintro e w' ⟨rfl, hw⟩
    exact ⟨rfl, hw, by omega⟩
set_option maxRecDepth 100000 in
theorem bheads_w {F : Fz} {w : World} (hF : Sat F w) (l : List Nd) (hn : l.length ≤ 1000) (A : Option Addr) (n c : Nat) (hc : n ≤ c) (hl : NodesF F A n l) (R E : Nat) (hR : onT restT l = R) (hE : onT extraT l = E) :
    Calls Tryz.prog 24 #[.slice A n c] w fun e w' => e = .returned (.int .i64 ((R + E : Nat) : Int)) ∧ Below w.heap.size w w' ∧ R ≤ 1000 ∧ E ≤ 1000000 := by
  have HR := Lib.hid (brest_w hF l hn A n c hc hl R hR)
  have HE := Lib.hid (fun (X : World) (h : Sat F X) => bextra_w h l hn A n c hc hl E hE)
  clear hR hE hl hn
  go_enter Tryz.func24, Tryz.ntmps24
  go_wp2_with (first
    | (go_at_call 22; refine HR.out.mono ?_; rintro e w2 ⟨rfl, hw2, hRb⟩)
    | (go_at_call 23; refine (HE.out _ (hF.below hw2)).mono ?_; rintro e w3 ⟨rfl, hw3, hEb⟩))
  go_ret
  exact ⟨by simp, bthen hw2 hw3, hRb, hEb⟩
end Go.Proofs.YtdohbbjinbofbaaGreat
/-! The walk of law 26's awake. -/
namespace Go.Proofs.YtdohbbjinbofbaaGreat
open Go.RowKit
/-- The formula that every program must reckon. -/
def awakeB : List Nd := [⟨18, ⟨#[]⟩, 0, 0, []⟩, ⟨3, ⟨#[112]⟩, 0, 0, []⟩, ⟨19, ⟨#[]⟩, 0, 0, [1]⟩, ⟨21, ⟨#[]⟩, 0, 0, [0, 2]⟩, ⟨17, ⟨#[]⟩, 0, -1, [3]⟩]
theorem awakeB_rest : onT restT awakeB = 2 := by kernel_rfl
theorem awakeB_extra : onT extraT awakeB = 2 := by kernel_rfl
theorem awakeB_atoms : onT atomsN awakeB = 1 := by kernel_rfl
theorem awakeB_once : onT onceT awakeB = 5 := by kernel_rfl
theorem rd_intsB {w : World} {g : Nat} {ks : List Int} (h : Blk w g 3 (ks.map (Value.int .i64)).toArray) : Rd (heapF w) 1 (some ⟨g, 0, none⟩) ks.length (ks.map (Value.int .i64)) := by
  refine ⟨by simp, fun _ => ⟨_, rfl, fun j u hu => ?_⟩⟩
  rw [add_lit0]
  unfold Fz.cell heapF
  rw [h]
  simpa using hu
def awakeBcells (g1 g2 g3 : Nat) : Array Value := #[.int .i64 18, .string ⟨#[]⟩, .int .i64 0, .int .i64 0, .slice none 0 0, .int .i64 3, .string ⟨#[112]⟩, .int .i64 0, .int .i64 0, .slice none 0 0, .int .i64 19, .string ⟨#[]⟩, .int .i64 0, .int .i64 0, .slice (some ⟨g1, 0, none⟩) 1 1, .int .i64 21, .string ⟨#[]⟩, .int .i64 0, .int .i64 0, .slice (some ⟨g2, 0, none⟩) 2 2, .int .i64 17, .string ⟨#[]⟩, .int .i64 0, .int .i64 (-1), .slice (some ⟨g3, 0, none⟩) 1 1]
theorem awakeB_nodes {w : World} {g1 g2 g3 g4 : Nat} (h1 : Blk w g1 3 #[.int .i64 1]) (h2 : Blk w g2 3 #[.int .i64 0, .int .i64 2]) (h3 : Blk w g3 3 #[.int .i64 3])
    (h4 : Blk w g4 45 (awakeBcells g1 g2 g3)) :
    NodesF (heapF w) (some ⟨g4, 0, none⟩) 5 awakeB := by
  have hk1 : Rd (heapF w) 1 (some ⟨g1, 0, none⟩) 1 ([(1 : Int)].map (Value.int .i64)) := rd_intsB (ks := [1]) h1
  have hk2 : Rd (heapF w) 1 (some ⟨g2, 0, none⟩) 2 ([(0 : Int), 2].map (Value.int .i64)) := rd_intsB (ks := [0, 2]) h2
  have hk3 : Rd (heapF w) 1 (some ⟨g3, 0, none⟩) 1 ([(3 : Int)].map (Value.int .i64)) := rd_intsB (ks := [3]) h3
  have hv : NodesV (heapF w) awakeB (awakeBcells g1 g2 g3).toList :=
    .cons _ _ none 0 _ (Nat.le_refl _) Rd.nil (.cons _ _ none 0 _ (Nat.le_refl _) Rd.nil (.cons _ _ (some ⟨g1, 0, none⟩) 1 _ (Nat.le_refl _) hk1 (.cons _ _ (some ⟨g2, 0, none⟩) 2 _ (Nat.le_refl _) hk2 (.cons _ _ (some ⟨g3, 0, none⟩) 1 [] (Nat.le_refl _) hk3 .nil))))
  refine hv.toF ⟨rfl, fun _ => ⟨_, rfl, fun j u hu => ?_⟩⟩
  rw [add_lit0]
  unfold Fz.cell heapF
  rw [h4]
  simpa using hu
theorem Blk.new4 (w : World) (o o' o'' : Obj) (t : TypeId) (cs : Array Value) : Blk ((((w.alloc o).alloc o').alloc o'').alloc (.cells cs t)) (w.heap.size + 3) t cs := by
  have := Blk.new (((w.alloc o).alloc o').alloc o'') t cs
  simpa using this
set_option maxRecDepth 100000 in
set_option maxHeartbeats 2000000 in
theorem awake26_w (w : World) : Calls Tryz.prog 6 #[] w fun e w' => e = .returned (.bool true) ∧ Below w.heap.size w w' := by
  obtain ⟨N, hN⟩ : ∃ N, N = (((w.alloc (.cells #[.int .i64 1] 3)).alloc (.cells #[.int .i64 0, .int .i64 2] 3)).alloc (.cells #[.int .i64 3] 3)).alloc (.cells (awakeBcells w.heap.size (w.heap.size + 1) (w.heap.size + 2)) 45) := ⟨_, rfl⟩
  have hb1 : Blk N w.heap.size 3 #[.int .i64 1] := hN ▸ (((Blk.new w 3 #[.int .i64 1]).alloc _).alloc _).alloc _
  have hb2 : Blk N (w.heap.size + 1) 3 #[.int .i64 0, .int .i64 2] := hN ▸ ((Blk.new2 w (.cells #[.int .i64 1] 3) 3 #[.int .i64 0, .int .i64 2]).alloc _).alloc _
  have hb3 : Blk N (w.heap.size + 2) 3 #[.int .i64 3] := hN ▸ (new3 w (.cells #[.int .i64 1] 3) (.cells #[.int .i64 0, .int .i64 2] 3) 3 #[.int .i64 3]).alloc _
  have hb4 : Blk N (w.heap.size + 3) 45 (awakeBcells w.heap.size (w.heap.size + 1) (w.heap.size + 2)) := hN ▸ Blk.new4 w (.cells #[.int .i64 1] 3) (.cells #[.int .i64 0, .int .i64 2] 3) (.cells #[.int .i64 3] 3) 45 _
  have hbl : Below w.heap.size w N := hN ▸ ((((balloc _ _).alloc (by simp) _).alloc (by simp; omega) _).alloc (by simp; omega) _)
  have hl := awakeB_nodes hb1 hb2 hb3 hb4
  have HR := Lib.hid (brest_w (sat_heapF N) awakeB (by decide) _ 5 5 (by decide) hl 2 awakeB_rest)
  have HE := Lib.hid (fun X (h : Sat (heapF N) X) => bextra_w h awakeB (by decide) _ 5 5 (by decide) hl 2 awakeB_extra)
  have HH := Lib.hid (fun X (h : Sat (heapF N) X) => bheads_w h awakeB (by decide) _ 5 5 (by decide) hl 2 2 awakeB_rest awakeB_extra)
  have HA := Lib.hid (fun X (h : Sat (heapF N) X) => batoms_w h awakeB (by decide) _ 5 5 (by decide) hl 1 awakeB_atoms)
  have HO := Lib.hid (fun X (h : Sat (heapF N) X) => bonce_w h awakeB (by decide) _ 5 5 (by decide) hl 5 awakeB_once)
  have HN := Lib.hid hN
  clear hN hb1 hb2 hb3 hb4 hl
  have hS0 : Sat (heapF N) N := sat_heapF N
  go_enter Tryz.func6, Tryz.ntmps6
  go_wp2_with (go_at_call 22; first | rw [← HN.out] | (unfold awakeBcells at HN; rw [← HN.out]))
  refine HR.out.mono ?_
  rintro e w1 ⟨rfl, hw1, _⟩
  have hS1 := hS0.below hw1
  go_wp2_with fail
  go_at_call 23
  refine (HE.out _ hS1).mono ?_
  rintro e w2 ⟨rfl, hw2, _⟩
  have hS2 := hS1.below hw2
  go_wp2_with fail
  go_at_call 24
  refine (HH.out _ hS2).mono ?_
  rintro e w3 ⟨rfl, hw3, _⟩
  have hS3 := hS2.below hw3
  go_wp2_with fail
  go_at_call 25
  refine (HA.out _ hS3).mono ?_
  rintro e w4 ⟨rfl, hw4, _⟩
  have hS4 := hS3.below hw4
  go_wp2_with fail
  go_at_call 26
  refine (HO.out _ hS4).mono ?_
  rintro e w5 ⟨rfl, hw5⟩
  go_wp2_with fail
  go_ret
  exact ⟨by first | rfl | simp [encU], bthen (bthen (bthen (bthen (bthen hbl hw1) hw2) hw3) hw4) hw5⟩
end Go.Proofs.YtdohbbjinbofbaaGreat
