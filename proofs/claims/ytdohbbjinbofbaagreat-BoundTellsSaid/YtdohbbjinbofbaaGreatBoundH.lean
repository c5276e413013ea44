/- The walks of bound.rest, Rest, Extra, Heads. -/
import Derived.Test.YtdohbbjinbofbaaGreatBoundF
set_option linter.unusedVariables false
set_option linter.unusedSimpArgs false
namespace Go.Proofs.YtdohbbjinbofbaaGreat
open Go.RowKit
/-- The values that a measure has at the nodes up to one. -/
def atV (f : Tr → Nat) (t : Tr) (n i : Nat) : List Nat := (List.range n).map fun j => if j < i ∧ (t.sub j).root.kind < 18 then f (t.sub j) else 0
theorem atV_len (f : Tr → Nat) (t : Tr) (n i : Nat) : (atV f t n i).length = n := by simp [atV]
theorem atV_get (f : Tr → Nat) (t : Tr) (n i j : Nat) (hj : j < n) : (atV f t n i).getD j 0 = if j < i ∧ (t.sub j).root.kind < 18 then f (t.sub j) else 0 := by
  rw [List.getD, atV, List.getElem?_map, List.getElem?_range hj]
  rfl
theorem atV_set (f : Tr → Nat) (t : Tr) (n i : Nat) (hi : i < n) (hk : (t.sub i).root.kind < 18) : (atV f t n i).set i (f (t.sub i)) = atV f t n (i + 1) := by
  apply List.ext_getElem?
  intro j
  rw [List.getElem?_set]
  by_cases hjn : j < n
  · unfold atV
    rw [List.getElem?_map, List.getElem?_map, List.getElem?_range hjn, List.length_map, List.length_range]
    by_cases e : i = j
    · subst e
      rw [if_pos rfl, if_pos hi]
      simp [hk]
    · rw [if_neg e]
      simp only [Option.map_some]
      congr 1
      by_cases h1 : j < i
      · by_cases h2 : (t.sub j).root.kind < 18 <;> simp [h1, h2, show j < i + 1 by omega]
      · simp [h1, show ¬ j < i + 1 by omega]
  · rw [if_neg (by omega), List.getElem?_eq_none (by rw [atV_len]; omega), List.getElem?_eq_none (by rw [atV_len]; omega)]
theorem atV_skip (f : Tr → Nat) (t : Tr) (n i : Nat) (hk : 18 ≤ (t.sub i).root.kind) : atV f t n (i + 1) = atV f t n i := by
  unfold atV
  apply List.map_congr_left
  intro j _
  by_cases e : j = i
  · subst e
    rw [if_neg (by omega), if_neg (by omega)]
  · by_cases h1 : j < i
    · by_cases h2 : (t.sub j).root.kind < 18 <;> simp [h1, h2, show j < i + 1 by omega]
    · simp [h1, show ¬ j < i + 1 by omega]
theorem atV_le (f : Tr → Nat) (t : Tr) (n i B : Nat) (h : ∀ j, j < n → f (t.sub j) ≤ B) : ∀ v ∈ atV f t n i, v ≤ B := by
  intro v hv
  unfold atV at hv
  obtain ⟨j, hj, rfl⟩ := List.mem_map.1 hv
  rw [List.mem_range] at hj
  split
  · exact h j hj
  · exact Nat.zero_le _
theorem atV_zero (f : Tr → Nat) (t : Tr) (n : Nat) : (atV f t n 0).map encU = List.replicate n (encU 0) := by
  apply List.ext_getElem
  · simp [atV]
  · intro j h1 h2
    simp [atV]
theorem bel_at (f : Tr → Nat) {t : Tr} (hv : validT t = true) (n i : Nat) (hn : n = t.size) (hi : i < n) (hk : (t.sub i).root.kind < 18) : (belM (t.sub i) i).map (fun k => (atV f t n i).getD k 0) = (belM (t.sub i) i).map fun j => f (t.sub j) := by
  apply List.map_congr_left
  intro j hj
  obtain ⟨h1, h2⟩ := bel_mem hv i (by omega) hk j hj
  rw [atV_get f t n i j (by omega), if_pos ⟨h1, h2⟩]
theorem restT_le : ∀ t : Tr, restT t ≤ t.size
  | .leaf h => by simp only [restT, Tr.size]; split <;> omega
  | .un h a => by have := restT_le a; simp only [restT, Tr.size]; split <;> omega
  | .bin h a b => by have := restT_le a; have := restT_le b; simp only [restT, Tr.size]; omega
theorem restT_step {t : Tr} (hv : validT t = true) (i : Nat) (hi : i < t.size) (hk : (t.sub i).root.kind < 18) (o : Nat) (ho : (if matchS (t.sub i).root.kind = true ∨ (kidsT (t.sub i)).length = 0 then 1 else 0) = o) : restT (t.sub i) = sumL ((belM (t.sub i) i).map fun j => restT (t.sub j)) + o := by
  have hvi := sub_valid t i hv
  rw [bel_sum restT (fun h e => by simp [restT, e]) (fun h a e => by simp [restT, e]) (fun h a e => by simp [restT, e]) (fun _ _ _ => rfl) hv i hi]
  generalize t.sub i = x at *
  cases x with
  | leaf h =>
    have hk' : h.kind < 18 := hk
    have h1 : o = 1 := ho.symm.trans (if_pos (.inr rfl))
    rw [h1]
    show (if h.kind = 18 then 0 else 1) = 0 + 1
    rw [if_neg (by omega)]
  | un h a =>
    show restT a + (if h.kind = 16 ∨ h.kind = 17 then 1 else 0) = restT a + o
    by_cases hm : h.kind = 16 ∨ h.kind = 17
    · have h1 : o = 1 := ho.symm.trans (if_pos (.inl (show matchS h.kind = true by unfold matchS; exact decide_eq_true hm)))
      rw [if_pos hm, h1]
    · have h1 : o = 0 := ho.symm.trans (if_neg (by
        rintro (e | e)
        · exact hm (of_decide_eq_true (show decide (h.kind = 16 ∨ h.kind = 17) = true from e))
        · cases e))
      rw [if_neg hm, h1]
  | bin h a b =>
    have hm : ¬ (h.kind = 16 ∨ h.kind = 17) := by
      intro e
      simp only [validT, Bool.and_eq_true, beq_iff_eq] at hvi
      have := fields_kids hvi.1.1.1.1
      rcases e with e | e <;> rw [show ({ h with kids := [0, 0] } : Nd).kind = h.kind from rfl, e] at this <;> simp [arityS] at this
    have h1 : o = 0 := ho.symm.trans (if_neg (by
      rintro (e | e)
      · exact hm (of_decide_eq_true (show decide (h.kind = 16 ∨ h.kind = 17) = true from e))
      · cases e))
    rw [h1]
    rfl
theorem mk49 {w : World} (n : Nat) (hn : n ≤ 1000) : (Instr.makeSlice 35 (.int .i64 (n : Int)) (.int .i64 (n : Int))).run Tryz.prog w = .ok (.slice (some ⟨w.heap.size, 0, none⟩) n n) (w.alloc (.cells (zeros (.int .u64 0) n) 46)) :=
  run_make1 _ _ _ 8 Tryz.underlying35 (by kernel_rfl) rfl n (by omega) (by omega) w
set_option maxRecDepth 100000 in
set_option maxHeartbeats 1000000 in
/-- bound.rest: of each node its Rest. -/
theorem rest_w {F : Fz} {w : World} (hF : Sat F w) (l : List Nd) (hn : l.length ≤ 1000) (A : Option Addr) (n c : Nat) (hc : n ≤ c) (hl : NodesF F A n l) (hb : (formL l && plainS l) = true) {t : Tr} (ht : treeS l = some t) :
    Calls Tryz.prog 47 #[.slice A n c] w fun e w' => ∃ g gv, e = .returned (.slice (some ⟨g, 0, none⟩) n n) ∧ AtB w' g gv n (atV restT t n n) ∧ w.heap.size ≤ g ∧ w.heap.size ≤ gv ∧ Below w.heap.size w w' := by
  have hmf : ∀ (fn : Fn) (first cap : Array Value) (w : World), (Instr.makeFunc fn first cap).run Tryz.prog w = .ok (.func fn first cap) w := fun _ _ _ _ => rfl
  have hlN := hl.cle hF.cle
  obtain ⟨hf, hp, _⟩ := plain_tree hb
  have hlt := tree_len ht
  have hnl : n = l.length := hl.1.symm
  have hval := tree_valid ht
  have hsub : ∀ j, j < n → restT (t.sub j) ≤ 1000 := fun j hj => by
    have h1 := restT_le (t.sub j)
    have h2 := Tr.sub_size_le t j (by omega)
    omega
  have hmk := mk49 (w := w) n (by omega)
  obtain ⟨W, hW⟩ : ∃ W, W = (w.alloc (.cells (zeros (.int .u64 0) n) 46)).alloc (.cells #[.slice (some ⟨w.heap.size, 0, none⟩) n n] 35) := ⟨_, rfl⟩
  have hbW : Below w.heap.size w W := hW ▸ (balloc w _).alloc (by simp) _
  have hB1 : Blk W w.heap.size 46 (zeros (.int .u64 0) n) := hW ▸ (Blk.new w 46 (zeros (.int .u64 0) n)).alloc _
  have hB2 : Blk W (w.heap.size + 1) 35 #[.slice (some ⟨w.heap.size, 0, none⟩) n n] := hW ▸ Blk.new2 w _ 35 #[.slice (some ⟨w.heap.size, 0, none⟩) n n]
  have hA0 : AtB W w.heap.size (w.heap.size + 1) n (atV restT t n 0) := ⟨atV_len _ _ _ _, by rw [atV_zero, show (List.replicate n (encU 0)).toArray = zeros (.int .u64 0) n by simp [zeros]]; exact hB1, hB2⟩
  have hO := over26_w (F := heapF w) (w := W) ((sat_heapF w).below hbW) l hn A n c hc hlN hf hp ht 81 #[.pointer (some ⟨w.heap.size + 1, 0, none⟩)] (enters_of Tryz.func81 (by kernel_rfl) rfl) w.heap.size heapF_lt hbW.size
    (fun i X => AtB X w.heap.size (w.heap.size + 1) n (atV restT t n i)) (fun _ => 0) (fun i X X' h hb => h.call hb)
    (fun i hi hk X h => by
      have := get_flat_root ht i hi
      rw [this] at hk
      rw [atV_skip _ _ _ _ hk]; exact h)
    (fun i hi x hx hk X hX hB hI s Ak ck P pc Bl bn bc hR => by
      subst hx
      have hst := restT_step hval i (by omega) hk _ rfl
      have hba := bel_at restT hval n i (by omega) (by omega) hk
      have hbn : bn ≤ 1000 := by
        have h1 := hR.1
        simp [zs] at h1
        have h2 : (belM (t.sub i) i).length ≤ 1000 := by
          cases hx : t.sub i with
          | leaf _ => simp [belM]
          | bin _ _ _ => simp [belM]
          | un h a =>
            have h3 := Tr.sub_size_le t i (by omega)
            rw [hx] at h3
            simp only [Tr.size] at h3
            have h4 := testsT_le a
            simp only [belM]
            split
            · rw [List.length_map, length_tests]; omega
            · simp
        omega
      refine (restF_w (t.sub i) w.heap.size (w.heap.size + 1) n _ hI (by omega) i (by omega) (belM (t.sub i) i) (fun p hp => by have := (bel_mem hval i (by omega) hk p hp).1; omega) (fun v hv => Nat.le_trans (atV_le restT t n i 1000 hsub v hv) (by omega)) s Ak (kidsT (t.sub i)).length ck P pc Bl bn bc hR hbn _ rfl _ rfl).mono ?_
      rintro e w' ⟨h1, h2, h3⟩
      refine ⟨h1, ?_, h3 _ (Nat.le_refl _) hB⟩
      rw [hba, ← hst, atV_set _ _ _ _ (by omega) hk] at h2
      exact h2) hA0
  rw [← hnl] at hO
  have HO := Lib.hid hO
  have HW := Lib.hid hW
  have hnb : n ≤ 1000 := by omega
  clear hO hb hf hp hlt hval hsub hl hlN hn hA0 hB1 hB2 hW hnl
  go_enter Tryz.func47, Tryz.ntmps47
  go_wp2_with (go_at_call 48; rw [← HW.out]; refine HO.out.mono ?_; rintro e w3 ⟨rfl, hI, hw3⟩; obtain ⟨q0, q1⟩ := blk1 hI.var)
  go_ret
  exact ⟨_, _, rfl, hI, Nat.le_refl _, Nat.le_succ _, hbW.trans hw3⟩
theorem form_root {l : List Nd} {t : Tr} (hf : formL l = true) (ht : treeS l = some t) : t.root.kind < 18 := by
  unfold formL at hf
  rw [ht] at hf
  simp [regS] at hf
  exact hf
set_option maxRecDepth 100000 in
set_option maxHeartbeats 1000000 in
theorem brest_w {F : Fz} {w : World} (hF : Sat F w) (l : List Nd) (hn : l.length ≤ 1000) (A : Option Addr) (n c : Nat) (hc : n ≤ c) (hl : NodesF F A n l) (R : Nat) (hR : onT restT l = R) :
    Calls Tryz.prog 22 #[.slice A n c] w fun e w' => e = .returned (.int .i64 (R : Nat)) ∧ Below w.heap.size w w' ∧ R ≤ 1000 := by
  cases hb : (formL l && plainS l)
  · have h0 := onT_no (f := restT) hb
    rw [hR] at h0
    subst h0
    have HFm := Lib.hid (bform_w hF l hn A n c hl false hb)
    clear hR hb hl hn
    go_enter Tryz.func22, Tryz.ntmps22
    go_wp2_with (go_at_call 46; refine HFm.out.mono ?_; rintro e w2 ⟨rfl, hw2⟩)
    go_ret
    exact ⟨rfl, hw2, by omega⟩
  · obtain ⟨hf, hp, t, ht⟩ := plain_tree hb
    have hR2 := onT_yes (f := restT) hb ht
    rw [hR] at hR2
    have hlt := tree_len ht
    have hnl : n = l.length := hl.1.symm
    have hsz := t.size_pos
    have hrl := restT_le t
    have hrk := form_root hf ht
    have hgd : ∀ h : n - 1 < (atV restT t n n).length, (atV restT t n n)[n - 1]'h = R := fun h => by
      have h1 := atV_get restT t n n (n - 1) (by omega)
      rw [List.getD, List.getElem?_eq_getElem h] at h1
      simp only [Option.getD_some] at h1
      rw [h1, show n - 1 = t.size - 1 by omega, Tr.sub_root, if_pos ⟨by omega, hrk⟩, hR2]
    have HFm := Lib.hid (bform_w hF l hn A n c hl true hb)
    have HRE := Lib.hid (fun (X : World) (h : Sat F X) => rest_w h l hn A n c hc hl hb ht)
    obtain ⟨p, rfl⟩ : ∃ p, n = p + 1 := ⟨n - 1, by omega⟩
    have hRb : R ≤ 1000 := by omega
    have hpb : p ≤ 1000 := by omega
    have HGD := Lib.hid hgd
    clear hR hb hl hn hR2 hlt hnl hsz hrl hrk hgd hf hp ht
    go_enter Tryz.func22, Tryz.ntmps22
    go_wp2_with (first
      | (go_at_call 46; refine HFm.out.mono ?_; rintro e w2 ⟨rfl, hw2⟩)
      | (go_at_call 47; refine (HRE.out _ (hF.below hw2)).mono ?_; rintro e w3 ⟨g, gv, rfl, hA, _, _, hw3⟩; obtain ⟨a0, a1⟩ := blkU_cell hA.at_ (i := p) (by rw [atV_len]; omega); rw [show (atV restT t (p + 1) (p + 1))[p]'(by rw [atV_len]; omega) = R from HGD.out _] at a0))
    go_ret
    exact ⟨rfl, bthen hw2 hw3, hRb⟩
theorem extraT_step {t : Tr} (hv : validT t = true) (i : Nat) (hi : i < t.size) (o : Nat) (ho : (if (t.sub i).root.kind = 17 then restT (t.sub i) else 0) = o) : extraT (t.sub i) = maxL ((belM (t.sub i) i).map fun j => extraT (t.sub j)) + o := by
  have hvi := sub_valid t i hv
  rw [bel_max extraT (fun h e => rfl) (fun h a e => by simp [extraT, e]) (fun h a e => by simp [extraT, e]) (fun _ _ _ => rfl) hv i hi]
  generalize t.sub i = x at *
  cases x with
  | leaf h =>
    have hk : ¬ h.kind = 17 := by
      intro e
      have := fields_kids (show fieldsS { h with kids := [] } = true from hvi)
      rw [show ({ h with kids := [] } : Nd).kind = h.kind from rfl, e] at this
      simp [arityS] at this
    have h1 : o = 0 := ho.symm.trans (if_neg hk)
    rw [h1]
    rfl
  | un h a =>
    show extraT a + (if h.kind = 17 then restT a + 1 else 0) = extraT a + o
    by_cases hk : h.kind = 17
    · have h1 : o = restT (.un h a) := ho.symm.trans (if_pos hk)
      rw [if_pos hk, h1]
      show _ = extraT a + (restT a + (if h.kind = 16 ∨ h.kind = 17 then 1 else 0))
      rw [if_pos (.inr hk)]
    · have h1 : o = 0 := ho.symm.trans (if_neg hk)
      rw [if_neg hk, h1]
  | bin h a b =>
    have hk : ¬ h.kind = 17 := by
      intro e
      simp only [validT, Bool.and_eq_true, beq_iff_eq] at hvi
      have := fields_kids hvi.1.1.1.1
      rw [show ({ h with kids := [0, 0] } : Nd).kind = h.kind from rfl, e] at this
      simp [arityS] at this
    have h1 : o = 0 := ho.symm.trans (if_neg hk)
    rw [h1]
    rfl
theorem extraT_le : ∀ t : Tr, extraT t ≤ t.size * t.size
  | .leaf _ => Nat.zero_le _
  | .un h a => by
    have h1 := extraT_le a
    have h2 := restT_le a
    have h3 : (a.size + 1) * (a.size + 1) = a.size * a.size + a.size + a.size + 1 := by rw [Nat.add_mul, Nat.mul_add]; omega
    simp only [extraT, Tr.size]
    rw [h3]
    generalize a.size * a.size = q at *
    split <;> omega
  | .bin h a b => by
    have h1 := extraT_le a
    have h2 := extraT_le b
    simp only [extraT, Tr.size]
    have h3 : a.size * a.size ≤ (a.size + b.size + 1) * (a.size + b.size + 1) := Nat.mul_le_mul (by omega) (by omega)
    have h4 : b.size * b.size ≤ (a.size + b.size + 1) * (a.size + b.size + 1) := Nat.mul_le_mul (by omega) (by omega)
    omega
end Go.Proofs.YtdohbbjinbofbaaGreat
