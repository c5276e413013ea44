/- The walk of the law TreeTurned. -/
import Derived.Test.YtkffofolhckjeaaTells
import Derived.Test.YtkffofolhckjeaaBuild
import Derived.Test.YtkffofolhckjeaaCopy
set_option linter.unusedVariables false
set_option linter.unusedSimpArgs false
namespace Go.Proofs.Ytkffofolhckjeaa
open Go.RowKit
/-- What is made by numbers. -/
theorem make_facts (ns : List Nat) (hns : ∀ k ∈ ns, k < 65536) : 0 < ((makeT false ns).flat 0).length ∧ ((makeT false ns).flat 0).length ≤ 100 ∧ ∀ x ∈ (makeT false ns).flat 0, x.kids.length ≤ 1000 := by
  obtain ⟨o1, o2⟩ := make_ok false ns hns
  obtain ⟨ff, fr, fp⟩ := ok_form o1
  have s1 : ((makeT false ns).flat 0).length ≤ 100 := by rw [Tr.length_flat]; exact (make_size false ns).1
  have s0 : 0 < ((makeT false ns).flat 0).length := by rw [Tr.length_flat]; exact Tr.size_pos _
  refine ⟨s0, s1, fun x hx => ?_⟩
  have h : (treeS ((makeT false ns).flat 0)).isSome = true := by
    unfold formL at ff
    cases h : treeS ((makeT false ns).flat 0) with
    | none => rw [h] at ff; cases ff
    | some t => rfl
  have := kids_le_two h x hx
  omega
theorem Own.blk0 {F : Fz} {w : World} {B : Nat} {e : TypeId} {size n : Nat} {v : Value} {xs : List Value} (h : Own F w B e size v n xs) (hn : 0 < n) : ∃ g cap, v = .slice (some ⟨g, 0, none⟩) n cap ∧ n ≤ cap ∧ B ≤ g ∧ F g = none ∧ BlkL w g e xs := by
  rcases h.blk with ⟨_, h0, _⟩ | h
  · omega
  · exact h
/-- A row that was stored into is frozen. -/
theorem turned {F : Fz} {w : World} {g N : Nat} {l : List Nd} {xs : List Value} (w0 : World) (hS : Sat F w) (hB : BlkL w g 57 xs) (hFg : F g = none) (hg : w0.heap.size ≤ g) (hV : NodesV F l xs) (hl : l.length = N) : ∃ F', Sat F' w ∧ NodesF F' (some ⟨g, 0, none⟩) N l := by
  obtain ⟨o, hS', hr⟩ := hB.freeze hS (n := N) (size := 5) (by rw [hV.len, hl])
  exact ⟨_, hS', (hV.cle (Fle.put (w := w0) o hFg hg).cle).toF hr⟩
theorem cells5 {w : World} {g i : Nat} {n : Nd} {A : Option Addr} {c : Nat} {xs : List Value} (hB : BlkL w g 57 xs) (h : ∀ j, j < 5 → xs[i * 5 + j]? = (ndVals n A c)[j]?) :
    w.cell? ⟨g, i * 5, none⟩ = some (.int .i64 n.kind) ∧ w.cell? ⟨g, i * 5 + 1, none⟩ = some (.string n.name) ∧ w.cell? ⟨g, i * 5 + 2, none⟩ = some (.int .i64 n.lo) ∧ w.cell? ⟨g, i * 5 + 3, none⟩ = some (.int .i64 n.hi) ∧ w.cell? ⟨g, i * 5 + 4, none⟩ = some (.slice A n.kids.length c) :=
  ⟨hB.cell (h 0 (by omega)), hB.cell (h 1 (by omega)), hB.cell (h 2 (by omega)), hB.cell (h 3 (by omega)), hB.cell (h 4 (by omega))⟩
theorem set_span {F : Fz} {l : List Nd} {xs : List Value} (h : NodesV F l xs) (x y : Int) (i : Nat) (hi : i < l.length) : NodesV F (l.set i { l[i] with lo := x, hi := y }) ((xs.set (i * 5 + 2) (.int .i64 x)).set (i * 5 + 3) (.int .i64 y)) := by
  have h1 := (h.set_lo x i hi).set_hi y i (by simpa using hi)
  rw [List.getElem_set_self, List.set_set] at h1
  exact h1
/-- The first kid of a node is stored anew. -/
theorem turned_kid {F : Fz} {w : World} {g N lo hi : Nat} {l : List Nd} {xs : List Value} (w0 : World) (hS : Sat F w) (hB : BlkL w g 57 xs) (hFg : F g = none) (hg : w0.heap.size ≤ g) (hK : NodesK F lo hi l xs) (hl : l.length = N) (i : Nat) (hi : i < l.length) (hne : l[i].kids ≠ []) (z : Int) :
    ∃ g2 c2 v, w.cell? ⟨g, i * 5 + 4, none⟩ = some (.slice (some ⟨g2, 0, none⟩) l[i].kids.length c2) ∧ l[i].kids.length ≤ c2 ∧ lo ≤ g2 ∧ w.cell? ⟨g2, 0, none⟩ = some v ∧ w.frozen? ⟨g2, 0, none⟩ = false ∧
      ∃ F', Sat F' (w.setCell ⟨g2, 0, none⟩ (.int .i64 z)) ∧ NodesF F' (some ⟨g, 0, none⟩) N (l.set i { l[i] with kids := l[i].kids.set 0 z }) := by
  obtain ⟨g2, cs, c2, e1, e2, e3, e4, e5, e6, e7⟩ := hK.store i hi hne
  have hb : Blk w g2 3 cs := hS _ _ e5
  obtain ⟨k, ks, hks⟩ := List.exists_cons_of_ne_nil hne
  have h0 := e6 0 k (by rw [hks]; rfl)
  have hgg : g ≠ g2 := fun e => by rw [e, e5] at hFg; cases hFg
  refine ⟨g2, c2, _, hB.cell e1, e2, e3, (hb.cell 0).trans h0, hb.frozen 0, ?_⟩
  have hS1 : Sat (fun b => if b = g2 then none else F b) w := fun b o h => by
    dsimp only at h
    split at h
    · cases h
    · exact hS b o h
  have hS2 := (hS1.setCell (p := ⟨g2, 0, none⟩) (by simp) (.int .i64 z)).put (hb.set_ 0 (.int .i64 z))
  have e : Fz.put (fun b => if b = g2 then none else F b) g2 (.cells (cs.setIfInBounds 0 (.int .i64 z)) 3 (0, 0)) = F.put g2 (.cells (cs.setIfInBounds 0 (.int .i64 z)) 3 (0, 0)) := by
    funext b
    unfold Fz.put
    by_cases hb2 : b = g2
    · rw [if_pos hb2, if_pos hb2]
    · rw [if_neg hb2, if_neg hb2]; exact if_neg hb2
  rw [e] at hS2
  exact turned w0 hS2 (hB.far (p := ⟨g2, 0, none⟩) hgg _) (by unfold Fz.put; rw [if_neg hgg]; exact hFg) hg (e7 z) (by rw [List.length_set, hl])
set_option maxRecDepth 100000 in
set_option maxHeartbeats 1000000 in
theorem treeTurned_0 {F : Fz} {w : World} (hF : Sat F w) (ns : List Nat) (hns : ∀ k ∈ ns, k < 65536) (A : Option Addr) (n c : Nat) (hr : Rd F 1 A n (ns.map encW)) (at_ what : Nat) (hat : at_ < 256) (hwh : what < 256) (hk : what % 6 = 0) (nd : Nd) (Ak : Option Addr) (ck : Nat) (hck : nd.kids.length ≤ ck) (hkr : Rd F 1 Ak nd.kids.length (nd.kids.map (Value.int .i64))) :
    Calls Try.prog 11 #[.slice A n c, .int .u8 at_, .int .u8 what, .agg #[.int .i64 nd.kind, .string nd.name, .int .i64 nd.lo, .int .i64 nd.hi, .slice Ak nd.kids.length ck]] w fun e w' => e = .returned (.bool true) ∧ Below w.heap.size w w' := by
  obtain ⟨m0, m1, m2⟩ := make_facts ns hns
  have hM := fun (F1 : Fz) (w1 : World) (h1 : Sat F1 w1) (hle : CLe F F1) => make_w h1 ns hns A n c (hr.cle hle) false (makeT false ns) rfl
  generalize (makeT false ns).flat 0 = lf at *
  have hBX := Blk.new w 57 #[.int .i64 nd.kind, .string nd.name, .int .i64 nd.lo, .int .i64 nd.hi, .slice Ak nd.kids.length ck]
  have HM := Lib.hid (hM F _ (hF.alloc (.cells #[.int .i64 nd.kind, .string nd.name, .int .i64 nd.lo, .int .i64 nd.hi, .slice Ak nd.kids.length ck] 57)) (fun _ _ h => h))
  have HM2 := Lib.hid m2
  obtain ⟨N, hN⟩ : ∃ N, N = lf.length := ⟨_, rfl⟩
  rw [← hN] at m0 m1
  have HN := Lib.hid hN
  obtain ⟨i, hi⟩ : ∃ i, at_ % N = i := ⟨_, rfl⟩
  have hi2 : ((at_ : Nat) : Int) % (N : Int) = (i : Int) := by omega
  have hk2 : ((what : Nat) : Int) % 6 = 0 := by omega
  have hiN : i < N := by rw [← hi]; exact Nat.mod_lt _ m0
  obtain ⟨q, hq⟩ : ∃ q, at_ / 2 = q := ⟨_, rfl⟩
  have hq2 : ((at_ : Nat) : Int) / 2 = (q : Int) := by omega
  have hil : i < lf.length := by omega
  have HIL := Lib.hid hil
  clear hM m2 hN hi hq hil
  go_enter Try.func11, Try.ntmps11
  go_wp2_with (go_at_call 37; refine HM.out.mono ?_; rintro e w1 ⟨A1, c1, F1, rfl, hc1, hN1, hb1, hF1, hle1⟩; rw [← HN.out] at hN1 hc1; rw [← HN.out])
  go_at_call 42
  refine (copy_w hF1 lf (by have := HN.out; omega) HM2.out A1 N c1 hN1).mono ?_
  rintro e w2 ⟨v, F2, xs, rfl, hO2, hK2, hb2, hF2, hle2⟩
  obtain ⟨g, cap, rfl, hcap, hg, hFg, hB⟩ := hO2.blk0 m0
  have hzz := hb1.size
  have hwz : w.heap.size < w1.heap.size := by simp at hzz; omega
  obtain ⟨f0, f1, f2, f3, f4⟩ := blk5 ((hBX.call hb1).below hb2 hwz)
  have fz := hB.frozen
  obtain ⟨A9, c9, hc9, hK9, hcs⟩ := hK2.v.at_ i HIL.out
  obtain ⟨k0, k1, k2, k3, k4⟩ := cells5 hB hcs
  have hbl : Below w.heap.size w w2 := ((balloc _ _).trans (hb1.mono (by simp))).trans (hb2.mono (by omega))
  have hb9 : Below w.heap.size w (w2.setCell ⟨g, i * 5, none⟩ (.int .i64 nd.kind)) := hbl.setCell (p := ⟨g, i * 5, none⟩) (Nat.le_trans (Nat.le_of_lt hwz) hg) _
  obtain ⟨F9, hS9, hN9⟩ := turned w1 (w := (w2.setCell ⟨g, i * 5, none⟩ (.int .i64 nd.kind))) (hF2.setCell (p := ⟨g, i * 5, none⟩) hFg _) (hB.set_ (i * 5) (.int .i64 nd.kind)) hFg hg (hK2.v.set_kind nd.kind i HIL.out) (by rw [List.length_set, ← HN.out])
  have HL9 : Hid ((lf.set i { lf[i]'HIL.out with kind := nd.kind }).length = N) := Lib.hid (by rw [List.length_set, ← HN.out])
  go_wp2_with (first
    | (go_at_call 36; refine (tells_w hS9 _ (by rw [HL9.out]; omega) _ _ _ (by omega) hN9 (i : Int) (by omega) (by omega)).mono ?_; rintro e w3 ⟨rfl, hw3⟩)
    | (go_at_call 35; refine (awake5_w _).mono ?_; rintro e w4 ⟨rfl, hw4⟩))
  go_ret
  exact ⟨rfl, bthen (bthen hb9 hw3) hw4⟩
set_option maxRecDepth 100000 in
set_option maxHeartbeats 1000000 in
theorem treeTurned_1 {F : Fz} {w : World} (hF : Sat F w) (ns : List Nat) (hns : ∀ k ∈ ns, k < 65536) (A : Option Addr) (n c : Nat) (hr : Rd F 1 A n (ns.map encW)) (at_ what : Nat) (hat : at_ < 256) (hwh : what < 256) (hk : what % 6 = 1) (nd : Nd) (Ak : Option Addr) (ck : Nat) (hck : nd.kids.length ≤ ck) (hkr : Rd F 1 Ak nd.kids.length (nd.kids.map (Value.int .i64))) :
    Calls Try.prog 11 #[.slice A n c, .int .u8 at_, .int .u8 what, .agg #[.int .i64 nd.kind, .string nd.name, .int .i64 nd.lo, .int .i64 nd.hi, .slice Ak nd.kids.length ck]] w fun e w' => e = .returned (.bool true) ∧ Below w.heap.size w w' := by
  obtain ⟨m0, m1, m2⟩ := make_facts ns hns
  have hM := fun (F1 : Fz) (w1 : World) (h1 : Sat F1 w1) (hle : CLe F F1) => make_w h1 ns hns A n c (hr.cle hle) false (makeT false ns) rfl
  generalize (makeT false ns).flat 0 = lf at *
  have hBX := Blk.new w 57 #[.int .i64 nd.kind, .string nd.name, .int .i64 nd.lo, .int .i64 nd.hi, .slice Ak nd.kids.length ck]
  have HM := Lib.hid (hM F _ (hF.alloc (.cells #[.int .i64 nd.kind, .string nd.name, .int .i64 nd.lo, .int .i64 nd.hi, .slice Ak nd.kids.length ck] 57)) (fun _ _ h => h))
  have HM2 := Lib.hid m2
  obtain ⟨N, hN⟩ : ∃ N, N = lf.length := ⟨_, rfl⟩
  rw [← hN] at m0 m1
  have HN := Lib.hid hN
  obtain ⟨i, hi⟩ : ∃ i, at_ % N = i := ⟨_, rfl⟩
  have hi2 : ((at_ : Nat) : Int) % (N : Int) = (i : Int) := by omega
  have hk2 : ((what : Nat) : Int) % 6 = 1 := by omega
  have hiN : i < N := by rw [← hi]; exact Nat.mod_lt _ m0
  obtain ⟨q, hq⟩ : ∃ q, at_ / 2 = q := ⟨_, rfl⟩
  have hq2 : ((at_ : Nat) : Int) / 2 = (q : Int) := by omega
  have hil : i < lf.length := by omega
  have HIL := Lib.hid hil
  clear hM m2 hN hi hq hil
  go_enter Try.func11, Try.ntmps11
  go_wp2_with (go_at_call 37; refine HM.out.mono ?_; rintro e w1 ⟨A1, c1, F1, rfl, hc1, hN1, hb1, hF1, hle1⟩; rw [← HN.out] at hN1 hc1; rw [← HN.out])
  go_at_call 42
  refine (copy_w hF1 lf (by have := HN.out; omega) HM2.out A1 N c1 hN1).mono ?_
  rintro e w2 ⟨v, F2, xs, rfl, hO2, hK2, hb2, hF2, hle2⟩
  obtain ⟨g, cap, rfl, hcap, hg, hFg, hB⟩ := hO2.blk0 m0
  have hzz := hb1.size
  have hwz : w.heap.size < w1.heap.size := by simp at hzz; omega
  obtain ⟨f0, f1, f2, f3, f4⟩ := blk5 ((hBX.call hb1).below hb2 hwz)
  have fz := hB.frozen
  obtain ⟨A9, c9, hc9, hK9, hcs⟩ := hK2.v.at_ i HIL.out
  obtain ⟨k0, k1, k2, k3, k4⟩ := cells5 hB hcs
  have hbl : Below w.heap.size w w2 := ((balloc _ _).trans (hb1.mono (by simp))).trans (hb2.mono (by omega))
  have hb9 : Below w.heap.size w (w2.setCell ⟨g, i * 5 + 1, none⟩ (.string nd.name)) := hbl.setCell (p := ⟨g, i * 5 + 1, none⟩) (Nat.le_trans (Nat.le_of_lt hwz) hg) _
  obtain ⟨F9, hS9, hN9⟩ := turned w1 (w := (w2.setCell ⟨g, i * 5 + 1, none⟩ (.string nd.name))) (hF2.setCell (p := ⟨g, i * 5 + 1, none⟩) hFg _) (hB.set_ (i * 5 + 1) (.string nd.name)) hFg hg (hK2.v.set_name nd.name i HIL.out) (by rw [List.length_set, ← HN.out])
  have HL9 : Hid ((lf.set i { lf[i]'HIL.out with name := nd.name }).length = N) := Lib.hid (by rw [List.length_set, ← HN.out])
  go_wp2_with (first
    | (go_at_call 36; refine (tells_w hS9 _ (by rw [HL9.out]; omega) _ _ _ (by omega) hN9 (i : Int) (by omega) (by omega)).mono ?_; rintro e w3 ⟨rfl, hw3⟩)
    | (go_at_call 35; refine (awake5_w _).mono ?_; rintro e w4 ⟨rfl, hw4⟩))
  go_ret
  exact ⟨rfl, bthen (bthen hb9 hw3) hw4⟩
set_option maxRecDepth 100000 in
set_option maxHeartbeats 1000000 in
theorem treeTurned_2 {F : Fz} {w : World} (hF : Sat F w) (ns : List Nat) (hns : ∀ k ∈ ns, k < 65536) (A : Option Addr) (n c : Nat) (hr : Rd F 1 A n (ns.map encW)) (at_ what : Nat) (hat : at_ < 256) (hwh : what < 256) (hk : what % 6 = 2) (nd : Nd) (Ak : Option Addr) (ck : Nat) (hck : nd.kids.length ≤ ck) (hkr : Rd F 1 Ak nd.kids.length (nd.kids.map (Value.int .i64))) :
    Calls Try.prog 11 #[.slice A n c, .int .u8 at_, .int .u8 what, .agg #[.int .i64 nd.kind, .string nd.name, .int .i64 nd.lo, .int .i64 nd.hi, .slice Ak nd.kids.length ck]] w fun e w' => e = .returned (.bool true) ∧ Below w.heap.size w w' := by
  obtain ⟨m0, m1, m2⟩ := make_facts ns hns
  have hM := fun (F1 : Fz) (w1 : World) (h1 : Sat F1 w1) (hle : CLe F F1) => make_w h1 ns hns A n c (hr.cle hle) false (makeT false ns) rfl
  generalize (makeT false ns).flat 0 = lf at *
  have hBX := Blk.new w 57 #[.int .i64 nd.kind, .string nd.name, .int .i64 nd.lo, .int .i64 nd.hi, .slice Ak nd.kids.length ck]
  have HM := Lib.hid (hM F _ (hF.alloc (.cells #[.int .i64 nd.kind, .string nd.name, .int .i64 nd.lo, .int .i64 nd.hi, .slice Ak nd.kids.length ck] 57)) (fun _ _ h => h))
  have HM2 := Lib.hid m2
  obtain ⟨N, hN⟩ : ∃ N, N = lf.length := ⟨_, rfl⟩
  rw [← hN] at m0 m1
  have HN := Lib.hid hN
  obtain ⟨i, hi⟩ : ∃ i, at_ % N = i := ⟨_, rfl⟩
  have hi2 : ((at_ : Nat) : Int) % (N : Int) = (i : Int) := by omega
  have hk2 : ((what : Nat) : Int) % 6 = 2 := by omega
  have hiN : i < N := by rw [← hi]; exact Nat.mod_lt _ m0
  obtain ⟨q, hq⟩ : ∃ q, at_ / 2 = q := ⟨_, rfl⟩
  have hq2 : ((at_ : Nat) : Int) / 2 = (q : Int) := by omega
  have hil : i < lf.length := by omega
  have HIL := Lib.hid hil
  clear hM m2 hN hi hq hil
  go_enter Try.func11, Try.ntmps11
  go_wp2_with (go_at_call 37; refine HM.out.mono ?_; rintro e w1 ⟨A1, c1, F1, rfl, hc1, hN1, hb1, hF1, hle1⟩; rw [← HN.out] at hN1 hc1; rw [← HN.out])
  go_at_call 42
  refine (copy_w hF1 lf (by have := HN.out; omega) HM2.out A1 N c1 hN1).mono ?_
  rintro e w2 ⟨v, F2, xs, rfl, hO2, hK2, hb2, hF2, hle2⟩
  obtain ⟨g, cap, rfl, hcap, hg, hFg, hB⟩ := hO2.blk0 m0
  have hzz := hb1.size
  have hwz : w.heap.size < w1.heap.size := by simp at hzz; omega
  obtain ⟨f0, f1, f2, f3, f4⟩ := blk5 ((hBX.call hb1).below hb2 hwz)
  have fz := hB.frozen
  obtain ⟨A9, c9, hc9, hK9, hcs⟩ := hK2.v.at_ i HIL.out
  obtain ⟨k0, k1, k2, k3, k4⟩ := cells5 hB hcs
  have hbl : Below w.heap.size w w2 := ((balloc _ _).trans (hb1.mono (by simp))).trans (hb2.mono (by omega))
  have hb9 : Below w.heap.size w ((w2.setCell ⟨g, i * 5 + 2, none⟩ (.int .i64 nd.lo)).setCell ⟨g, i * 5 + 3, none⟩ (.int .i64 nd.hi)) := (hbl.setCell (p := ⟨g, i * 5 + 2, none⟩) (Nat.le_trans (Nat.le_of_lt hwz) hg) _).setCell (p := ⟨g, i * 5 + 3, none⟩) (Nat.le_trans (Nat.le_of_lt hwz) hg) _
  obtain ⟨F9, hS9, hN9⟩ := turned w1 (w := ((w2.setCell ⟨g, i * 5 + 2, none⟩ (.int .i64 nd.lo)).setCell ⟨g, i * 5 + 3, none⟩ (.int .i64 nd.hi))) ((hF2.setCell (p := ⟨g, i * 5 + 2, none⟩) hFg _).setCell (p := ⟨g, i * 5 + 3, none⟩) hFg _) ((hB.set_ (i * 5 + 2) (.int .i64 nd.lo)).set_ (i * 5 + 3) (.int .i64 nd.hi)) hFg hg (set_span hK2.v nd.lo nd.hi i HIL.out) (by rw [List.length_set, ← HN.out])
  have HL9 : Hid ((lf.set i { lf[i]'HIL.out with lo := nd.lo, hi := nd.hi }).length = N) := Lib.hid (by rw [List.length_set, ← HN.out])
  go_wp2_with (first
    | (go_at_call 36; refine (tells_w hS9 _ (by rw [HL9.out]; omega) _ _ _ (by omega) hN9 (i : Int) (by omega) (by omega)).mono ?_; rintro e w3 ⟨rfl, hw3⟩)
    | (go_at_call 35; refine (awake5_w _).mono ?_; rintro e w4 ⟨rfl, hw4⟩))
  go_ret
  exact ⟨rfl, bthen (bthen hb9 hw3) hw4⟩
set_option maxRecDepth 100000 in
set_option maxHeartbeats 1000000 in
theorem treeTurned_3 {F : Fz} {w : World} (hF : Sat F w) (ns : List Nat) (hns : ∀ k ∈ ns, k < 65536) (A : Option Addr) (n c : Nat) (hr : Rd F 1 A n (ns.map encW)) (at_ what : Nat) (hat : at_ < 256) (hwh : what < 256) (hk : what % 6 = 3) (nd : Nd) (Ak : Option Addr) (ck : Nat) (hck : nd.kids.length ≤ ck) (hkr : Rd F 1 Ak nd.kids.length (nd.kids.map (Value.int .i64))) :
    Calls Try.prog 11 #[.slice A n c, .int .u8 at_, .int .u8 what, .agg #[.int .i64 nd.kind, .string nd.name, .int .i64 nd.lo, .int .i64 nd.hi, .slice Ak nd.kids.length ck]] w fun e w' => e = .returned (.bool true) ∧ Below w.heap.size w w' := by
  obtain ⟨m0, m1, m2⟩ := make_facts ns hns
  have hM := fun (F1 : Fz) (w1 : World) (h1 : Sat F1 w1) (hle : CLe F F1) => make_w h1 ns hns A n c (hr.cle hle) false (makeT false ns) rfl
  generalize (makeT false ns).flat 0 = lf at *
  have hBX := Blk.new w 57 #[.int .i64 nd.kind, .string nd.name, .int .i64 nd.lo, .int .i64 nd.hi, .slice Ak nd.kids.length ck]
  have HM := Lib.hid (hM F _ (hF.alloc (.cells #[.int .i64 nd.kind, .string nd.name, .int .i64 nd.lo, .int .i64 nd.hi, .slice Ak nd.kids.length ck] 57)) (fun _ _ h => h))
  have HM2 := Lib.hid m2
  obtain ⟨N, hN⟩ : ∃ N, N = lf.length := ⟨_, rfl⟩
  rw [← hN] at m0 m1
  have HN := Lib.hid hN
  obtain ⟨i, hi⟩ : ∃ i, at_ % N = i := ⟨_, rfl⟩
  have hi2 : ((at_ : Nat) : Int) % (N : Int) = (i : Int) := by omega
  have hk2 : ((what : Nat) : Int) % 6 = 3 := by omega
  have hiN : i < N := by rw [← hi]; exact Nat.mod_lt _ m0
  obtain ⟨q, hq⟩ : ∃ q, at_ / 2 = q := ⟨_, rfl⟩
  have hq2 : ((at_ : Nat) : Int) / 2 = (q : Int) := by omega
  have hil : i < lf.length := by omega
  have HIL := Lib.hid hil
  clear hM m2 hN hi hq hil
  go_enter Try.func11, Try.ntmps11
  go_wp2_with (go_at_call 37; refine HM.out.mono ?_; rintro e w1 ⟨A1, c1, F1, rfl, hc1, hN1, hb1, hF1, hle1⟩; rw [← HN.out] at hN1 hc1; rw [← HN.out])
  go_at_call 42
  refine (copy_w hF1 lf (by have := HN.out; omega) HM2.out A1 N c1 hN1).mono ?_
  rintro e w2 ⟨v, F2, xs, rfl, hO2, hK2, hb2, hF2, hle2⟩
  obtain ⟨g, cap, rfl, hcap, hg, hFg, hB⟩ := hO2.blk0 m0
  have hzz := hb1.size
  have hwz : w.heap.size < w1.heap.size := by simp at hzz; omega
  obtain ⟨f0, f1, f2, f3, f4⟩ := blk5 ((hBX.call hb1).below hb2 hwz)
  have fz := hB.frozen
  obtain ⟨A9, c9, hc9, hK9, hcs⟩ := hK2.v.at_ i HIL.out
  obtain ⟨k0, k1, k2, k3, k4⟩ := cells5 hB hcs
  have hbl : Below w.heap.size w w2 := ((balloc _ _).trans (hb1.mono (by simp))).trans (hb2.mono (by omega))
  have hb9 : Below w.heap.size w (w2.setCell ⟨g, i * 5 + 4, none⟩ (.slice Ak nd.kids.length ck)) := hbl.setCell (p := ⟨g, i * 5 + 4, none⟩) (Nat.le_trans (Nat.le_of_lt hwz) hg) _
  obtain ⟨F9, hS9, hN9⟩ := turned w1 (w := (w2.setCell ⟨g, i * 5 + 4, none⟩ (.slice Ak nd.kids.length ck))) (hF2.setCell (p := ⟨g, i * 5 + 4, none⟩) hFg _) (hB.set_ (i * 5 + 4) (.slice Ak nd.kids.length ck)) hFg hg (hK2.v.set_kids nd.kids Ak ck hck (hkr.cle (hle1.cle.trans hle2.cle)) i HIL.out) (by rw [List.length_set, ← HN.out])
  have HL9 : Hid ((lf.set i { lf[i]'HIL.out with kids := nd.kids }).length = N) := Lib.hid (by rw [List.length_set, ← HN.out])
  go_wp2_with (first
    | (go_at_call 36; refine (tells_w hS9 _ (by rw [HL9.out]; omega) _ _ _ (by omega) hN9 (i : Int) (by omega) (by omega)).mono ?_; rintro e w3 ⟨rfl, hw3⟩)
    | (go_at_call 35; refine (awake5_w _).mono ?_; rintro e w4 ⟨rfl, hw4⟩))
  go_ret
  exact ⟨rfl, bthen (bthen hb9 hw3) hw4⟩
set_option maxRecDepth 100000 in
set_option maxHeartbeats 1000000 in
theorem treeTurned_5 {F : Fz} {w : World} (hF : Sat F w) (ns : List Nat) (hns : ∀ k ∈ ns, k < 65536) (A : Option Addr) (n c : Nat) (hr : Rd F 1 A n (ns.map encW)) (at_ what : Nat) (hat : at_ < 256) (hwh : what < 256) (hk : what % 6 = 5) (nd : Nd) (Ak : Option Addr) (ck : Nat) (hck : nd.kids.length ≤ ck) (hkr : Rd F 1 Ak nd.kids.length (nd.kids.map (Value.int .i64))) :
    Calls Try.prog 11 #[.slice A n c, .int .u8 at_, .int .u8 what, .agg #[.int .i64 nd.kind, .string nd.name, .int .i64 nd.lo, .int .i64 nd.hi, .slice Ak nd.kids.length ck]] w fun e w' => e = .returned (.bool true) ∧ Below w.heap.size w w' := by
  obtain ⟨m0, m1, m2⟩ := make_facts ns hns
  have hM := fun (F1 : Fz) (w1 : World) (h1 : Sat F1 w1) (hle : CLe F F1) => make_w h1 ns hns A n c (hr.cle hle) false (makeT false ns) rfl
  generalize (makeT false ns).flat 0 = lf at *
  have hBX := Blk.new w 57 #[.int .i64 nd.kind, .string nd.name, .int .i64 nd.lo, .int .i64 nd.hi, .slice Ak nd.kids.length ck]
  have HM := Lib.hid (hM F _ (hF.alloc (.cells #[.int .i64 nd.kind, .string nd.name, .int .i64 nd.lo, .int .i64 nd.hi, .slice Ak nd.kids.length ck] 57)) (fun _ _ h => h))
  have HM2 := Lib.hid m2
  obtain ⟨N, hN⟩ : ∃ N, N = lf.length := ⟨_, rfl⟩
  rw [← hN] at m0 m1
  have HN := Lib.hid hN
  obtain ⟨i, hi⟩ : ∃ i, at_ % N = i := ⟨_, rfl⟩
  have hi2 : ((at_ : Nat) : Int) % (N : Int) = (i : Int) := by omega
  have hk2 : ((what : Nat) : Int) % 6 = 5 := by omega
  have hiN : i < N := by rw [← hi]; exact Nat.mod_lt _ m0
  obtain ⟨q, hq⟩ : ∃ q, at_ / 2 = q := ⟨_, rfl⟩
  have hq2 : ((at_ : Nat) : Int) / 2 = (q : Int) := by omega
  have hil : i < lf.length := by omega
  have HIL := Lib.hid hil
  clear hM m2 hN hi hq hil
  go_enter Try.func11, Try.ntmps11
  go_wp2_with (go_at_call 37; refine HM.out.mono ?_; rintro e w1 ⟨A1, c1, F1, rfl, hc1, hN1, hb1, hF1, hle1⟩; rw [← HN.out] at hN1 hc1; rw [← HN.out])
  go_at_call 42
  refine (copy_w hF1 lf (by have := HN.out; omega) HM2.out A1 N c1 hN1).mono ?_
  rintro e w2 ⟨v, F2, xs, rfl, hO2, hK2, hb2, hF2, hle2⟩
  obtain ⟨g, cap, rfl, hcap, hg, hFg, hB⟩ := hO2.blk0 m0
  have hzz := hb1.size
  have hwz : w.heap.size < w1.heap.size := by simp at hzz; omega
  obtain ⟨f0, f1, f2, f3, f4⟩ := blk5 ((hBX.call hb1).below hb2 hwz)
  have fz := hB.frozen
  obtain ⟨A9, c9, hc9, hK9, hcs⟩ := hK2.v.at_ i HIL.out
  obtain ⟨k0, k1, k2, k3, k4⟩ := cells5 hB hcs
  have hbl : Below w.heap.size w w2 := ((balloc _ _).trans (hb1.mono (by simp))).trans (hb2.mono (by omega))
  obtain ⟨F8, hS9, hN8⟩ := turned w1 hF2 hB hFg hg hK2.v HN.out.symm
  have hN9 := hN8.pre (k := i) (by omega)
  have HL9 : Hid ((lf.take i).length = i) := Lib.hid (List.length_take_of_le (Nat.le_of_lt HIL.out))
  have hb9 := hbl
  go_wp2_with (first
    | (go_at_call 36; refine (tells_w hS9 _ (by rw [HL9.out]; omega) _ _ _ (by omega) hN9 (i : Int) (by omega) (by omega)).mono ?_; rintro e w3 ⟨rfl, hw3⟩)
    | (go_at_call 35; refine (awake5_w _).mono ?_; rintro e w4 ⟨rfl, hw4⟩))
  go_ret
  exact ⟨rfl, bthen (bthen hb9 hw3) hw4⟩
set_option maxRecDepth 100000 in
set_option maxHeartbeats 1000000 in
theorem treeTurned_4a {F : Fz} {w : World} (hF : Sat F w) (ns : List Nat) (hns : ∀ k ∈ ns, k < 65536) (A : Option Addr) (n c : Nat) (hr : Rd F 1 A n (ns.map encW)) (at_ what : Nat) (hat : at_ < 256) (hwh : what < 256) (hk : what % 6 = 4) (nd : Nd) (Ak : Option Addr) (ck : Nat) (hkk : ∀ x, (((makeT false ns).flat 0)[at_ % ((makeT false ns).flat 0).length]?) = some x → x.kids = []) (hck : nd.kids.length ≤ ck) (hkr : Rd F 1 Ak nd.kids.length (nd.kids.map (Value.int .i64))) :
    Calls Try.prog 11 #[.slice A n c, .int .u8 at_, .int .u8 what, .agg #[.int .i64 nd.kind, .string nd.name, .int .i64 nd.lo, .int .i64 nd.hi, .slice Ak nd.kids.length ck]] w fun e w' => e = .returned (.bool true) ∧ Below w.heap.size w w' := by
  obtain ⟨m0, m1, m2⟩ := make_facts ns hns
  have hM := fun (F1 : Fz) (w1 : World) (h1 : Sat F1 w1) (hle : CLe F F1) => make_w h1 ns hns A n c (hr.cle hle) false (makeT false ns) rfl
  generalize (makeT false ns).flat 0 = lf at *
  have hBX := Blk.new w 57 #[.int .i64 nd.kind, .string nd.name, .int .i64 nd.lo, .int .i64 nd.hi, .slice Ak nd.kids.length ck]
  have HM := Lib.hid (hM F _ (hF.alloc (.cells #[.int .i64 nd.kind, .string nd.name, .int .i64 nd.lo, .int .i64 nd.hi, .slice Ak nd.kids.length ck] 57)) (fun _ _ h => h))
  have HM2 := Lib.hid m2
  obtain ⟨N, hN⟩ : ∃ N, N = lf.length := ⟨_, rfl⟩
  rw [← hN] at m0 m1
  have HN := Lib.hid hN
  obtain ⟨i, hi⟩ : ∃ i, at_ % N = i := ⟨_, rfl⟩
  have hi2 : ((at_ : Nat) : Int) % (N : Int) = (i : Int) := by omega
  have hk2 : ((what : Nat) : Int) % 6 = 4 := by omega
  have hiN : i < N := by rw [← hi]; exact Nat.mod_lt _ m0
  obtain ⟨q, hq⟩ : ∃ q, at_ / 2 = q := ⟨_, rfl⟩
  have hq2 : ((at_ : Nat) : Int) / 2 = (q : Int) := by omega
  have hil : i < lf.length := by omega
  have HIL := Lib.hid hil
  have HKI : Hid ((lf[i]'HIL.out).kids.length = 0) := Lib.hid (by rw [hkk _ (by rw [show at_ % lf.length = i by rw [← hN]; exact hi]; exact List.getElem?_eq_getElem HIL.out)]; rfl)
  clear hM m2 hN hi hq hil hkk
  go_enter Try.func11, Try.ntmps11
  go_wp2_with (go_at_call 37; refine HM.out.mono ?_; rintro e w1 ⟨A1, c1, F1, rfl, hc1, hN1, hb1, hF1, hle1⟩; rw [← HN.out] at hN1 hc1; rw [← HN.out])
  go_at_call 42
  refine (copy_w hF1 lf (by have := HN.out; omega) HM2.out A1 N c1 hN1).mono ?_
  rintro e w2 ⟨v, F2, xs, rfl, hO2, hK2, hb2, hF2, hle2⟩
  obtain ⟨g, cap, rfl, hcap, hg, hFg, hB⟩ := hO2.blk0 m0
  have hzz := hb1.size
  have hwz : w.heap.size < w1.heap.size := by simp at hzz; omega
  obtain ⟨f0, f1, f2, f3, f4⟩ := blk5 ((hBX.call hb1).below hb2 hwz)
  have fz := hB.frozen
  obtain ⟨A9, c9, hc9, hK9, hcs⟩ := hK2.v.at_ i HIL.out
  obtain ⟨k0, k1, k2, k3, k4⟩ := cells5 hB hcs
  have hbl : Below w.heap.size w w2 := ((balloc _ _).trans (hb1.mono (by simp))).trans (hb2.mono (by omega))
  have k5 : w2.cell? ⟨g, i * 5 + 4, none⟩ = some (.slice A9 0 c9) := (by rw [k4, HKI.out])
  clear k4
  obtain ⟨F9, hS9, hN9⟩ := turned w1 hF2 hB hFg hg hK2.v HN.out.symm
  have HL9 : Hid (lf.length = N) := Lib.hid HN.out.symm
  have hb9 := hbl
  go_wp2_with (first
    | (go_at_call 36; refine (tells_w hS9 _ (by rw [HL9.out]; omega) _ _ _ (by omega) hN9 (i : Int) (by omega) (by omega)).mono ?_; rintro e w3 ⟨rfl, hw3⟩)
    | (go_at_call 35; refine (awake5_w _).mono ?_; rintro e w4 ⟨rfl, hw4⟩))
  go_ret
  exact ⟨rfl, bthen (bthen hb9 hw3) hw4⟩
set_option maxRecDepth 100000 in
set_option maxHeartbeats 1000000 in
theorem treeTurned_4b {F : Fz} {w : World} (hF : Sat F w) (ns : List Nat) (hns : ∀ k ∈ ns, k < 65536) (A : Option Addr) (n c : Nat) (hr : Rd F 1 A n (ns.map encW)) (at_ what : Nat) (hat : at_ < 256) (hwh : what < 256) (hk : what % 6 = 4) (nd : Nd) (Ak : Option Addr) (ck : Nat) (hkk : ∀ x, (((makeT false ns).flat 0)[at_ % ((makeT false ns).flat 0).length]?) = some x → x.kids ≠ []) (hck : nd.kids.length ≤ ck) (hkr : Rd F 1 Ak nd.kids.length (nd.kids.map (Value.int .i64))) :
    Calls Try.prog 11 #[.slice A n c, .int .u8 at_, .int .u8 what, .agg #[.int .i64 nd.kind, .string nd.name, .int .i64 nd.lo, .int .i64 nd.hi, .slice Ak nd.kids.length ck]] w fun e w' => e = .returned (.bool true) ∧ Below w.heap.size w w' := by
  obtain ⟨m0, m1, m2⟩ := make_facts ns hns
  have hM := fun (F1 : Fz) (w1 : World) (h1 : Sat F1 w1) (hle : CLe F F1) => make_w h1 ns hns A n c (hr.cle hle) false (makeT false ns) rfl
  generalize (makeT false ns).flat 0 = lf at *
  have hBX := Blk.new w 57 #[.int .i64 nd.kind, .string nd.name, .int .i64 nd.lo, .int .i64 nd.hi, .slice Ak nd.kids.length ck]
  have HM := Lib.hid (hM F _ (hF.alloc (.cells #[.int .i64 nd.kind, .string nd.name, .int .i64 nd.lo, .int .i64 nd.hi, .slice Ak nd.kids.length ck] 57)) (fun _ _ h => h))
  have HM2 := Lib.hid m2
  obtain ⟨N, hN⟩ : ∃ N, N = lf.length := ⟨_, rfl⟩
  rw [← hN] at m0 m1
  have HN := Lib.hid hN
  obtain ⟨i, hi⟩ : ∃ i, at_ % N = i := ⟨_, rfl⟩
  have hi2 : ((at_ : Nat) : Int) % (N : Int) = (i : Int) := by omega
  have hk2 : ((what : Nat) : Int) % 6 = 4 := by omega
  have hiN : i < N := by rw [← hi]; exact Nat.mod_lt _ m0
  obtain ⟨q, hq⟩ : ∃ q, at_ / 2 = q := ⟨_, rfl⟩
  have hq2 : ((at_ : Nat) : Int) / 2 = (q : Int) := by omega
  have hil : i < lf.length := by omega
  have HIL := Lib.hid hil
  have HKI : Hid ((lf[i]'HIL.out).kids ≠ []) := Lib.hid (hkk _ (by rw [show at_ % lf.length = i by rw [← hN]; exact hi]; exact List.getElem?_eq_getElem HIL.out))
  have HKP : Hid (0 < (lf[i]'HIL.out).kids.length) := Lib.hid (List.length_pos_iff.2 HKI.out)
  clear hM m2 hN hi hq hil hkk
  go_enter Try.func11, Try.ntmps11
  go_wp2_with (go_at_call 37; refine HM.out.mono ?_; rintro e w1 ⟨A1, c1, F1, rfl, hc1, hN1, hb1, hF1, hle1⟩; rw [← HN.out] at hN1 hc1; rw [← HN.out])
  go_at_call 42
  refine (copy_w hF1 lf (by have := HN.out; omega) HM2.out A1 N c1 hN1).mono ?_
  rintro e w2 ⟨v, F2, xs, rfl, hO2, hK2, hb2, hF2, hle2⟩
  obtain ⟨g, cap, rfl, hcap, hg, hFg, hB⟩ := hO2.blk0 m0
  have hzz := hb1.size
  have hwz : w.heap.size < w1.heap.size := by simp at hzz; omega
  obtain ⟨f0, f1, f2, f3, f4⟩ := blk5 ((hBX.call hb1).below hb2 hwz)
  have fz := hB.frozen
  obtain ⟨A9, c9, hc9, hK9, hcs⟩ := hK2.v.at_ i HIL.out
  obtain ⟨k0, k1, k2, k3, k4⟩ := cells5 hB hcs
  have hbl : Below w.heap.size w w2 := ((balloc _ _).trans (hb1.mono (by simp))).trans (hb2.mono (by omega))
  obtain ⟨g2, c2, v2, j1, j2, j3, j4, j5, F9, hS9, hN9⟩ := turned_kid w1 hF2 hB hFg hg hK2 HN.out.symm i HIL.out HKI.out (q : Int)
  have HL9 : Hid ((lf.set i { lf[i]'HIL.out with kids := (lf[i]'HIL.out).kids.set 0 (q : Int) }).length = N) := Lib.hid (by rw [List.length_set, ← HN.out])
  have hkp := HKP.out
  clear k4
  generalize (lf[i]'HIL.out).kids.length = KL at j1 j2 hkp
  have hkI : (0 : Int) < (KL : Int) := (by omega)
  have hb9 : Below w.heap.size w (w2.setCell ⟨g2, 0, none⟩ (.int .i64 (q : Int))) := hbl.setCell (p := ⟨g2, 0, none⟩) (Nat.le_trans (Nat.le_of_lt hwz) j3) _
  go_wp2_with (first
    | (go_at_call 36; refine (tells_w hS9 _ (by rw [HL9.out]; omega) _ _ _ (by omega) hN9 (i : Int) (by omega) (by omega)).mono ?_; rintro e w3 ⟨rfl, hw3⟩)
    | (go_at_call 35; refine (awake5_w _).mono ?_; rintro e w4 ⟨rfl, hw4⟩))
  go_ret
  exact ⟨rfl, bthen (bthen hb9 hw3) hw4⟩
theorem treeTurned_c {F : Fz} {w : World} (hF : Sat F w) (ns : List Nat) (hns : ∀ k ∈ ns, k < 65536) (A : Option Addr) (n c : Nat) (hr : Rd F 1 A n (ns.map encW)) (at_ what : Nat) (hat : at_ < 256) (hwh : what < 256) (nd : Nd) (Ak : Option Addr) (ck : Nat) (hck : nd.kids.length ≤ ck) (hkr : Rd F 1 Ak nd.kids.length (nd.kids.map (Value.int .i64))) :
    Calls Try.prog 11 #[.slice A n c, .int .u8 at_, .int .u8 what, .agg #[.int .i64 nd.kind, .string nd.name, .int .i64 nd.lo, .int .i64 nd.hi, .slice Ak nd.kids.length ck]] w fun e w' => e = .returned (.bool true) ∧ Below w.heap.size w w' := by
  have h6 : what % 6 = 0 ∨ what % 6 = 1 ∨ what % 6 = 2 ∨ what % 6 = 3 ∨ what % 6 = 4 ∨ what % 6 = 5 := by omega
  rcases h6 with h | h | h | h | h | h
  · exact treeTurned_0 hF ns hns A n c hr at_ what hat hwh h nd Ak ck hck hkr
  · exact treeTurned_1 hF ns hns A n c hr at_ what hat hwh h nd Ak ck hck hkr
  · exact treeTurned_2 hF ns hns A n c hr at_ what hat hwh h nd Ak ck hck hkr
  · exact treeTurned_3 hF ns hns A n c hr at_ what hat hwh h nd Ak ck hck hkr
  · by_cases hk : ∀ x, ((makeT false ns).flat 0)[at_ % ((makeT false ns).flat 0).length]? = some x → x.kids = []
    · exact treeTurned_4a hF ns hns A n c hr at_ what hat hwh h nd Ak ck hk hck hkr
    · refine treeTurned_4b hF ns hns A n c hr at_ what hat hwh h nd Ak ck (fun x hx e => hk fun y hy => ?_) hck hkr
      rw [hx] at hy
      injection hy with hy
      rw [← hy]
      exact e
  · exact treeTurned_5 hF ns hns A n c hr at_ what hat hwh h nd Ak ck hck hkr
end Go.Proofs.Ytkffofolhckjeaa
