/- The statement BoundTells: of any list of nodes, any formula that may be, any names and any room how much is kept at most is told as the document has it; no condition. -/
import Derived.Test.YtdohbbjinbofbaaGreatNeedC
import Derived.Test.YtdohbbjinbofbaaGreatNeed
import Derived.Test.YtdohbbjinbofbaaGreatNeedA
import Derived.Test.YtdohbbjinbofbaaGreatBoundZ
import Derived.Test.YtdohbbjinbofbaaGreatRowN
set_option linter.unusedVariables false
set_option linter.unusedSimpArgs false
/-! The reference's need, of each formula in a formula. -/
namespace Go.Proofs.YtdohbbjinbofbaaGreat
open Go.RowKit
theorem plain_kind {l : List Nd} (hp : plainS l = true) {t : Tr} (ht : treeS l = some t) (i : Nat) (hi : i < l.length) : sugarS (t.sub i).root.kind = false := by
  unfold plainS at hp
  rw [Bool.and_eq_true, Bool.not_eq_true'] at hp
  have h1 := get_flat_root ht i hi
  have h2 : l[i].kind = (t.sub i).root.kind := by rw [h1]
  cases hs : sugarS (t.sub i).root.kind
  · rfl
  · exfalso
    have h3 : (l.any fun n => sugarS n.kind) = true := List.any_eq_true.2 ⟨l[i], List.getElem_mem hi, by rw [h2, hs]⟩
    rw [h3] at hp
    cases hp.2
theorem need_leaf {h : Nd} (hv : validT (.leaf h) = true) (hk : h.kind < 18) : h.kind = 1 ∨ h.kind = 2 ∨ h.kind = 3 := by
  have := fields_kids (show fieldsS { h with kids := [] } = true from hv)
  have e : ({ h with kids := [] } : Nd).kind = h.kind := rfl
  rw [e] at this
  have ha : (0 : Int) = arityS h.kind := this
  unfold arityS at ha
  clear this
  repeat' split at ha
  all_goals omega
theorem need_un {h : Nd} {a : Tr} (hv : validT (.un h a) = true) (hk : h.kind < 18) (hs : sugarS h.kind = false) : h.kind = 4 ∨ h.kind = 16 ∨ h.kind = 17 := by
  simp only [validT, Bool.and_eq_true, beq_iff_eq] at hv
  have := fields_kids hv.1.1
  have e : ({ h with kids := [0] } : Nd).kind = h.kind := rfl
  rw [e] at this
  have ha : (1 : Int) = arityS h.kind := this
  unfold arityS at ha
  unfold sugarS at hs
  simp at hs
  clear this
  repeat' split at ha
  all_goals omega
theorem need_bin {h : Nd} {a b : Tr} (hv : validT (.bin h a b) = true) (hk : h.kind < 18) (hs : sugarS h.kind = false) : h.kind = 5 ∨ h.kind = 6 := by
  simp only [validT, Bool.and_eq_true, beq_iff_eq] at hv
  have := fields_kids hv.1.1.1.1
  have e : ({ h with kids := [0, 0] } : Nd).kind = h.kind := rfl
  rw [e] at this
  have ha : (2 : Int) = arityS h.kind := this
  unfold arityS at ha
  unfold sugarS at hs
  simp at hs
  clear this
  repeat' split at ha
  all_goals omega
theorem need_w {F : Fz} (l : List Nd) (hn : l.length ≤ 1000) (A : Option Addr) (n c : Nat) (hc : n ≤ c) (hl : NodesF F A n l) {t : Tr} (ht : treeS l = some t) (hp : plainS l = true) (C : Nat) (hC : C ≤ 4096) :
    ∀ (m i : Nat), i < m → i < l.length → (t.sub i).root.kind < 18 → ∀ X, Sat F X → Calls Tryz.prog 54 #[.slice A n c, .int .i64 (i : Nat), .int .i64 (C : Nat)] X (RetNeed (restT (t.sub i)) (extraT (t.sub i)) (stayT C (t.sub i)) (fleetT C (t.sub i)) X) := by
  intro m
  induction m with
  | zero => intro i h; omega
  | succ m ih =>
    intro i him hi hk X hX
    have hlen := tree_len ht
    have hit : i < t.size := by omega
    have hv := tree_valid ht
    have hvi := sub_valid t i hv
    have hsi := plain_kind hp ht i hi
    have hroot := get_flat_root ht i hi
    have hkk := get_kids ht i hi
    have hsub := Tr.sub_size_le t i hit
    have hb : ∀ j, j < l.length → validT (t.sub j) = true ∧ (t.sub j).size ≤ 1000 := fun j hj => ⟨sub_valid t j hv, by have := Tr.sub_size_le t j (by omega); omega⟩
    have hkind : l[i].kind = (t.sub i).root.kind := by rw [hroot]
    have hlo : l[i].lo = (t.sub i).root.lo := by rw [hroot]
    have hhi : l[i].hi = (t.sub i).root.hi := by rw [hroot]
    cases hx : t.sub i with
    | leaf h =>
      rw [hx] at hvi hk hkind
      have hk3 := need_leaf hvi hk
      have := needLeaf_w hX l A n c hl i hi (by rw [hkind]; exact hk3) (C : Int)
      have e : restT (.leaf h) = 1 := by simp only [restT]; rw [if_neg]; have : h.kind < 18 := hk; omega
      rw [e]
      exact this
    | un h a =>
      rw [hx] at hvi hk hkind hsi hkk hlo hhi hsub
      obtain ⟨hs1, hs2, hs3⟩ := sub_un_kid hit hx
      have hap := a.size_pos
      have hkk' : l[i].kids = [(i : Int) - 1] := by
        rw [hkk]
        show [((i + 1 - (a.size + 1) + a.size : Nat) : Int) - 1] = [(i : Int) - 1]
        simp only [List.cons.injEq, and_true]; omega
      have hk3 := need_un hvi hk hsi
      by_cases h4 : h.kind = 4
      · have e1 : restT (.un h a) = restT (t.sub (i - 1)) := by rw [hs2]; simp only [restT]; rw [if_neg (by omega)]; rfl
        have e2 : extraT (.un h a) = extraT (t.sub (i - 1)) := by rw [hs2]; simp only [extraT]; rw [if_neg (by omega)]; rfl
        have e3 : stayT C (.un h a) = stayT C (t.sub (i - 1)) := by rw [hs2]; simp only [stayT]; rw [if_neg (by omega), if_neg (by omega)]; rfl
        have e4 : fleetT C (.un h a) = fleetT C (t.sub (i - 1)) := by rw [hs2]; simp only [fleetT]; rw [if_neg (by omega)]; rfl
        rw [e1, e2, e3, e4]
        simp only [validT, Bool.and_eq_true, beq_iff_eq] at hvi
        have hka : (t.sub (i - 1)).root.kind < 18 := by rw [hs2]; exact form_kid hvi.1.2 hk (by rw [h4]; decide)
        refine needNot_w hX l A n c hl i hi (by rw [hkind]; exact h4) (C : Int) ((i - 1 : Nat) : Int) (by rw [hkk']; simp only [List.cons.injEq, and_true]; omega) _ _ _ _ (fun Y hY => ih (i - 1) (by omega) (by omega) hka Y hY)
      · have hm : h.kind = 16 ∨ h.kind = 17 := by omega
        obtain ⟨h', a', ex', _, hra, _, hspan, _⟩ := match_un ht i hi (by rw [hx]; exact hm)
        rw [hx] at ex'
        injection ex' with ex1 ex2
        subst ex1 ex2
        obtain ⟨hpart, hst, htt, hql, hsb, htb⟩ := part_steps26 hn ht i hi h a hx hra
        have hwide := (node_bounds hn ht i hi).1 h a hx hm
        have hbel : belM (t.sub i) i = (testsL a (i - a.size)).map (· - 1) := by rw [hx]; simp only [belM]; rw [if_pos hm]
        have hmem := bel_mem hv i hit (by rw [hx]; exact hk)
        have hPL : (belM (t.sub i) i).length = testsT a := by rw [hbel, List.length_map, length_tests]
        obtain ⟨ps, hps⟩ : ∃ ps, belM (t.sub i) i = ps := ⟨_, rfl⟩
        have hR := restT_step hv i hit (by rw [hx]; exact hk) 1 (by rw [hx, if_pos (.inl (matchS_iff.2 hm))])
        have hE := fun o ho => extraT_step hv i hit o ho
        have hS := stayT_step C hv i hit
        have hFl := fleetT_step C hv i hit
        rw [hps] at hmem hPL hR hS hFl
        simp only [hps] at hE
        rw [hbel] at hps
        rw [hx] at hR hS hFl
        simp only [hx] at hE
        rw [stayO_un hm] at hS
        have hpt := fun Y (hY : Sat F Y) => rpart_w hY l hn A n c hc hl ((i : Int) - 1) (by omega) (by omega)
        rw [hpart] at hpt
        have hW : wideN h ≤ 10000 := hwide.2.1
        have hsz := fun Y (G : Fz) (hY : Sat G Y) (B : Option Addr) (m e : Nat) (hB : NodesF G B m (a.flat 0)) => size26_w hY (a.flat 0) hql B m e hB (stepsN a) (testsT a) hst htt hsb htb
        have hpa := fun Y (hY : Sat F Y) => parts26_w hY l hn A n c hc hl ht i hi h a hx hra hkk'
        rw [hps] at hpa
        have hmul := memoN_le (C := C) hC (a := a) (by omega)
        have hsum : ∀ (f : Nat → Nat) (j : Nat) (hj : j < ps.length), sumL ((ps.take (j + 1)).map f) = sumL ((ps.take j).map f) + f (ps.getD j 0) := fun f j hj => by
          rw [List.take_succ_eq_append_getElem hj, List.map_append, List.map_cons, List.map_nil, sumL_snoc, List.getD_eq_getElem?_getD, List.getElem?_eq_getElem hj]; rfl
        have hmax : ∀ (f : Nat → Nat) (j : Nat) (hj : j < ps.length), maxL ((ps.take (j + 1)).map f) = max (maxL ((ps.take j).map f)) (f (ps.getD j 0)) := fun f j hj => by
          rw [List.take_succ_eq_append_getElem hj, List.map_append, List.map_cons, List.map_nil, maxL_snoc, List.getD_eq_getElem?_getD, List.getElem?_eq_getElem hj]; rfl
        have hfb : ∀ j, j < ps.length → restT (t.sub (ps.getD j 0)) ≤ 1000 ∧ extraT (t.sub (ps.getD j 0)) ≤ 1000000 ∧ stayT C (t.sub (ps.getD j 0)) ≤ 1000000000 ∧ fleetT C (t.sub (ps.getD j 0)) ≤ 1000000000000 := fun j hj => by
          have hjm : ps.getD j 0 ∈ ps := by rw [List.getD_eq_getElem?_getD, List.getElem?_eq_getElem hj]; exact List.getElem_mem hj
          have h1 := hmem _ hjm
          obtain ⟨h2, h3⟩ := hb (ps.getD j 0) (by omega)
          generalize t.sub (ps.getD j 0) = y at *
          have h4 := restT_le y
          have h5 := extraT_le y
          have h6 := stayT_le hC y h2 h3
          have h7 := fleetT_le hC y h2 h3
          have h8 : y.size * y.size ≤ 1000000 := Nat.le_trans (Nat.mul_le_mul h3 h3) (by omega)
          omega
        have hN1 : ps.length ≤ 1000 := by omega
        have hSb : ∀ (f : Nat → Nat) (B : Nat), (∀ j, j < ps.length → f (ps.getD j 0) ≤ B) → ∀ j, j ≤ ps.length → sumL ((ps.take j).map f) ≤ j * B := fun f B hf j => by
          induction j with
          | zero => intro _; simp [sumL]
          | succ j ihj => intro hj; rw [hsum f j (by omega)]; have := ihj (by omega); have := hf j (by omega); rw [Nat.succ_mul]; omega
        have hMb : ∀ (f : Nat → Nat) (B : Nat), (∀ j, j < ps.length → f (ps.getD j 0) ≤ B) → ∀ j, j ≤ ps.length → maxL ((ps.take j).map f) ≤ B := fun f B hf j => by
          induction j with
          | zero => intro _; simp [maxL]
          | succ j ihj => intro hj; rw [hmax f j (by omega)]; have := ihj (by omega); have := hf j (by omega); omega
        have hall : ∀ f : Nat → Nat, (ps.take ps.length).map f = ps.map f := fun f => by rw [List.take_length]
        have key := needMatch_core hX l A n c hl i hi (by omega) h.kind hkind hm hkk' C hC (a.flat 0) (stW a) ((testsT a + 63) / 64) (memoN C a) rfl (by have := (stW_le (a := a) (by omega)).2; omega) (by omega) (wideN h) hW
          ps.length hN1 (zs ps) (length_zs ps) (fun j => ps.getD j 0) (fun j hj => by simp [zs, List.getElem?_eq_getElem hj, List.getD_eq_getElem?_getD])
          (fun j => restT (t.sub (ps.getD j 0))) (fun j => extraT (t.sub (ps.getD j 0))) (fun j => stayT C (t.sub (ps.getD j 0))) (fun j => fleetT C (t.sub (ps.getD j 0)))
          (fun j => 1 + sumL ((ps.take j).map fun k => restT (t.sub k))) (fun j => maxL ((ps.take j).map fun k => extraT (t.sub k))) (fun j => memoN C a + sumL ((ps.take j).map fun k => stayT C (t.sub k))) (fun j => maxL ((ps.take j).map fun k => fleetT C (t.sub k)))
          ⟨by simp [sumL], by simp [maxL], by simp [sumL], by simp [maxL]⟩
          (fun j hj => ⟨by rw [hsum _ j hj]; omega, hmax _ j hj, by rw [hsum _ j hj]; omega, hmax _ j hj⟩)
          (fun j hj => by
            have b1 := hSb (fun k => restT (t.sub k)) 1000 (fun j hj => (hfb j hj).1) j hj
            have b2 := hMb (fun k => extraT (t.sub k)) 1000000 (fun j hj => (hfb j hj).2.1) j hj
            have b3 := hSb (fun k => stayT C (t.sub k)) 1000000000 (fun j hj => (hfb j hj).2.2.1) j hj
            have b4 := hMb (fun k => fleetT C (t.sub k)) 1000000000000 (fun j hj => (hfb j hj).2.2.2) j hj
            refine ⟨?_, b2, ?_, b4⟩ <;> omega)
          hpt hsz hpa (fun Y => by rw [hlo, hhi]; exact rwide1_w h hspan Y) (fun j hj Y hY => by
            have hjm : ps.getD j 0 ∈ ps := by rw [List.getD_eq_getElem?_getD, List.getElem?_eq_getElem hj]; exact List.getElem_mem hj
            have h1 := hmem _ hjm
            exact ih _ (by omega) (by omega) h1.2 Y hY)
        simp only [hall] at key
        have eR : 1 + sumL (ps.map fun k => restT (t.sub k)) = restT (.un h a) := by rw [hR]; omega
        rw [eR] at key
        by_cases h17 : h.kind = 17
        · rw [if_pos h17, if_pos h17, if_pos h17] at key
          have eE := hE (restT (.un h a)) (by show (if h.kind = 17 then _ else _) = _; rw [if_pos h17])
          rw [if_neg (by omega)] at hS
          unfold fleetO at hFl
          rw [if_pos (show (Tr.un h a).root.kind = 17 from h17), show stepsM (.un h a) = stepsN a from by simp only [stepsM]; rw [if_pos hm]] at hFl
          have eS : memoN C a + sumL (ps.map fun k => stayT C (t.sub k)) = stayT C (.un h a) := by rw [← hS]; omega
          rw [eS, show 1 + stW a = 1 + (stepsN a / 64 + 1) from rfl, hFl, ← eE] at key
          exact key
        · have h16 : h.kind = 16 := by omega
          rw [if_neg h17, if_neg h17, if_neg h17] at key
          have eE := hE 0 (by show (if h.kind = 17 then _ else _) = _; rw [if_neg h17])
          rw [if_pos h16] at hS
          unfold fleetO at hFl
          rw [if_neg (show ¬ (Tr.un h a).root.kind = 17 from h17)] at hFl
          have eS : memoN C a + sumL (ps.map fun k => stayT C (t.sub k)) + wideN h * (1 + stW a) = stayT C (.un h a) := by rw [← hS]; omega
          rw [eS] at key
          rw [eE, ← hFl]
          exact key
    | bin h a b =>
      rw [hx] at hvi hk hkind hsi hkk
      obtain ⟨hs1, hs2, hs3⟩ := sub_bin_kids hit hx
      have hap := a.size_pos
      have hbp := b.size_pos
      have hk3 := need_bin hvi hk hsi
      simp only [validT, Bool.and_eq_true, beq_iff_eq] at hvi
      have hkk' : l[i].kids = [((i - 1 - b.size : Nat) : Int), ((i - 1 : Nat) : Int)] := by
        rw [hkk]
        show [((i + 1 - (a.size + b.size + 1) + a.size : Nat) : Int) - 1, ((i + 1 - (a.size + b.size + 1) + a.size + b.size : Nat) : Int) - 1] = _
        simp only [List.cons.injEq, and_true]
        constructor <;> omega
      have hka : (t.sub (i - 1 - b.size)).root.kind < 18 := by rw [hs3]; exact form_kid hvi.1.1.1.2 hk (by rcases hk3 with e | e <;> rw [e] <;> decide)
      have hkb : (t.sub (i - 1)).root.kind < 18 := by rw [hs2]; exact form_kid hvi.1.1.2 hk (by rcases hk3 with e | e <;> rw [e] <;> decide)
      have hra := restT_le a
      have hrb := restT_le b
      have hszs : a.size ≤ 1000 ∧ b.size ≤ 1000 := by omega
      have hsa := stayT_le hC a hvi.1.2 hszs.1
      have hsb := stayT_le hC b hvi.2 hszs.2
      have := needBin_w hX l A n c hl i hi (by rw [hkind]; exact hk3) (C : Int) _ _ hkk' (restT a) (extraT a) (stayT C a) (fleetT C a) (restT b) (extraT b) (stayT C b) (fleetT C b) (by omega) (by omega)
        (fun Y hY => by have := ih (i - 1 - b.size) (by omega) (by omega) hka Y hY; rw [hs3] at this; exact this) (fun Y hY => by have := ih (i - 1) (by omega) (by omega) hkb Y hY; rw [hs2] at this; exact this)
      exact this
end Go.Proofs.YtdohbbjinbofbaaGreat
/-! The walks of the reference's Needs and Cells, and of the law BoundTells. -/
namespace Go.Proofs.YtdohbbjinbofbaaGreat
open Go.RowKit
set_option maxRecDepth 100000 in
set_option maxHeartbeats 2000000 in
theorem needs_w {F : Fz} {w : World} (hF : Sat F w) (l : List Nd) (hn : l.length ≤ 1000) (A : Option Addr) (n c : Nat) (hc : n ≤ c) (hl : NodesF F A n l) (room : Int) (C : Nat) (hC : min (max room 1) 4096 = (C : Int)) (R E S Fl : Nat) (hR : onT restT l = R) (hE : onT extraT l = E) (hS : onT (stayT C) l = S) (hFl : onT (fleetT C) l = Fl) :
    Calls Tryz.prog 27 #[.slice A n c, .int .i64 room] w (RetNeed R E S Fl w) := by
  have hb2 := balloc w (.cells #[.int .i64 0, .int .i64 0, .int .i64 0, .int .i64 0] 49)
  have hF2 := hF.below hb2
  cases hb : (formL l && plainS l)
  · have h1 := onT_no (f := restT) hb
    have h2 := onT_no (f := extraT) hb
    have h3 := onT_no (f := stayT C) hb
    have h4 := onT_no (f := fleetT C) hb
    rw [hR] at h1
    rw [hE] at h2
    rw [hS] at h3
    rw [hFl] at h4
    subst h1 h2 h3 h4
    have HP := Lib.hid (plain26_w hF2 l hn A n c hl false hb)
    have HB := Lib.hid (Blk.new w 49 #[.int .i64 0, .int .i64 0, .int .i64 0, .int .i64 0])
    clear hR hE hS hFl hb hl hn hC
    go_enter Tryz.func27, Tryz.ntmps27
    go_wp2_with (go_at_call 35; refine HP.out.mono ?_; rintro e w1 ⟨rfl, hw1⟩; obtain ⟨r0, r1, r2, r3, f0, f1, f2, f3⟩ := blk4 (HB.out.call hw1))
    obtain ⟨q0, q1, q2, q3, _, _, _, _⟩ := blk4 (set4 (HB.out.call hw1) (.int .i64 0) (.int .i64 0) (.int .i64 0) (.int .i64 0))
    exact bodyPost_ret (v := needV 0 0 0 0) (by simp [results, Tryz.results27, go_sem, needV, q0, q1, q2, q3]) rfl ⟨rfl, bel4 (bthen hb2 hw1) (Nat.le_refl _) _ _ _ _⟩
  · obtain ⟨hf, hp, t, ht⟩ := plain_tree hb
    have h1 := onT_yes (f := restT) hb ht
    have h2 := onT_yes (f := extraT) hb ht
    have h3 := onT_yes (f := stayT C) hb ht
    have h4 := onT_yes (f := fleetT C) hb ht
    rw [hR] at h1
    rw [hE] at h2
    rw [hS] at h3
    rw [hFl] at h4
    have hlt := tree_len ht
    have hp1 := t.size_pos
    have hsr := Tr.sub_root t
    have hrk : t.root.kind < 18 := by
      unfold formL at hf
      rw [ht] at hf
      simp [regS] at hf
      exact hf
    have HN := Lib.hid (fun (X : World) (h : Sat F X) => need_w (F := F) l hn A n c hc hl ht hp C (by omega) (t.size) (t.size - 1) (by omega) (by omega) (by rw [hsr]; exact hrk) X h)
    rw [hsr, ← h1, ← h2, ← h3, ← h4] at HN
    have hnl : n = l.length := hl.1.symm
    obtain ⟨p, hpp⟩ : ∃ p, t.size - 1 = p := ⟨_, rfl⟩
    rw [hpp] at HN
    have hpI : IntKind.i64.wrap ((n : Int) - 1) = (p : Int) := by rw [show (n : Int) - 1 = (p : Int) by omega]; exact wrap_i (by omega) (by omega)
    have hpI2 : (n : Int) - 1 = (p : Int) := by omega
    have HC := Lib.hid hC
    have hnb : n ≤ 1000 := by omega
    have hn1 : 1 ≤ n := by omega
    have HP := Lib.hid (plain26_w hF2 l hn A n c hl true hb)
    have HB := Lib.hid (Blk.new w 49 #[.int .i64 0, .int .i64 0, .int .i64 0, .int .i64 0])
    have HPI := Lib.hid hpI2
    clear hpI2 hpp hnl h1 h2 h3 h4 hsr hrk hlt hp1 ht hf hp hR hE hS hFl hb hl hn hC
    go_enter Tryz.func27, Tryz.ntmps27
    go_wp2_with (first
      | (go_at_call 35; refine HP.out.mono ?_; rintro e w1 ⟨rfl, hw1⟩; obtain ⟨r0, r1, r2, r3, f0, f1, f2, f3⟩ := blk4 (HB.out.call hw1))
      | (go_at_call 54; (try rw [HC.out]); (try rw [HPI.out]); refine (HN.out _ (hF2.below hw1)).mono ?_; rintro e w5 ⟨rfl, hw5⟩; unfold needV; obtain ⟨r0, r1, r2, r3, f0, f1, f2, f3⟩ := blk4 (HB.out.call (bthen hw1 hw5))))
    obtain ⟨q0, q1, q2, q3, _, _, _, _⟩ := blk4 (set4 (HB.out.call (bthen hw1 hw5)) (.int .i64 (R : Nat)) (.int .i64 (E : Nat)) (.int .i64 (S : Nat)) (.int .i64 (Fl : Nat)))
    exact bodyPost_ret (v := needV R E S Fl) (by simp [results, Tryz.results27, go_sem, needV, q0, q1, q2, q3]) rfl ⟨rfl, bel4 (bthen hb2 (bthen hw1 hw5)) (Nat.le_refl _) _ _ _ _⟩
theorem wrapN (n : Nat) (h : n < 9223372036854775808) : wrap64 (n : Int) = (n : Int) := IntWalk.wrap64_in _ ⟨by omega, by omega⟩
set_option maxRecDepth 100000 in
set_option maxHeartbeats 2000000 in
theorem cells26_core {F : Fz} {w : World} (hF : Sat F w) (A : Option Addr) (n c : Nat) (props room : Int) (P : Nat) (hP : min (max props 0) 64 = (P : Int)) (R E S Fl Q : Nat) (hQ : (R + E) * (3 + P) + S + Fl = Q) (hRb : R ≤ 1000) (hEb : E ≤ 1000000) (hSb : S ≤ 1000000000) (hFb : Fl ≤ 1000000000000)
    (hN : ∀ X, Sat F X → Calls Tryz.prog 27 #[.slice A n c, .int .i64 room] X (RetNeed R E S Fl X)) :
    Calls Tryz.prog 29 #[.slice A n c, .int .i64 props, .int .i64 room] w fun e w' => e = .returned (encU Q) ∧ Below w.heap.size w w' := by
  have HN := Lib.hid hN
  have HP := Lib.hid hP
  have hPb : P ≤ 64 := by omega
  obtain ⟨T1, hT1⟩ : ∃ T1, R + E = T1 := ⟨_, rfl⟩
  obtain ⟨T2, hT2⟩ : ∃ T2, 3 + P = T2 := ⟨_, rfl⟩
  obtain ⟨T3, hT3⟩ : ∃ T3, T1 * T2 = T3 := ⟨_, rfl⟩
  obtain ⟨T4, hT4⟩ : ∃ T4, T3 + S = T4 := ⟨_, rfl⟩
  rw [hT1, hT2, hT3, hT4] at hQ
  have hT3b : T3 ≤ 100000000 := by rw [← hT3]; exact Nat.le_trans (Nat.mul_le_mul (show T1 ≤ 1001000 by omega) (show T2 ≤ 67 by omega)) (by omega)
  have x1 : IntKind.i64.wrap ((R : Int) + (E : Int)) = (T1 : Int) := by rw [show (R : Int) + (E : Int) = (T1 : Int) by omega]; exact wrap_i (by omega) (by omega)
  have x2 : IntKind.i64.wrap (3 + (P : Int)) = (T2 : Int) := by rw [show 3 + (P : Int) = (T2 : Int) by omega]; exact wrap_i (by omega) (by omega)
  have x3 : IntKind.i64.wrap ((T1 : Int) * (T2 : Int)) = (T3 : Int) := by rw [show (T1 : Int) * (T2 : Int) = (T3 : Int) by rw [← hT3, Int.natCast_mul]]; exact wrap_i (by omega) (by omega)
  have x4 : IntKind.i64.wrap ((T3 : Int) + (S : Int)) = (T4 : Int) := by rw [show (T3 : Int) + (S : Int) = (T4 : Int) by omega]; exact wrap_i (by omega) (by omega)
  have x5 : IntKind.i64.wrap ((T4 : Int) + (Fl : Int)) = (Q : Int) := by rw [show (T4 : Int) + (Fl : Int) = (Q : Int) by omega]; exact wrap_i (by omega) (by omega)
  have x6 : IntKind.u64.wrap (Q : Int) = (Q : Int) := wrap_u (by omega) (by omega)
  have y2 : min (max props 0) 64 = (P : Int) := hP
  have hT4b : T4 ≤ 2000000000 := by omega
  have hQb : Q ≤ 2000000000000 := by omega
  have y1 : (R : Int) + (E : Int) = (T1 : Int) := by omega
  have y4 : (T3 : Int) + (S : Int) = (T4 : Int) := by omega
  have y5 : (T4 : Int) + (Fl : Int) = (Q : Int) := by omega
  have y6 : 3 + (P : Int) = (T2 : Int) := by omega
  have y3 : (T1 : Int) * (T2 : Int) = (T3 : Int) := by rw [← hT3, Int.natCast_mul]
  have Y1 := Lib.hid y1
  have Y2 := Lib.hid y2
  have Y3 := Lib.hid y3
  have Y4 := Lib.hid y4
  have Y5 := Lib.hid y5
  have Y6 := Lib.hid y6
  clear hN hP hQ hT1 hT2 hT3 hT4 y1 y2 y3 y4 y5 y6
  go_enter Tryz.func29, Tryz.ntmps29
  go_wp2_with (go_at_call 27; refine (HN.out _ hF).mono ?_; rintro e w1 ⟨rfl, hw1⟩; unfold needV; have hbA := hw1.alloc hw1.size (.cells #[.int .i64 (R : Nat), .int .i64 (E : Nat), .int .i64 (S : Nat), .int .i64 (Fl : Nat)] 49))
  go_ret
  refine ⟨?_, hbA⟩
  simp only [Y1.out, Y2.out, Y3.out, Y6.out, wrapN T3 (by omega), Y4.out, wrapN T4 (by omega), Y5.out, wrapN Q (by omega), x6]
  rfl
theorem cells26_w {F : Fz} {w : World} (hF : Sat F w) (l : List Nd) (hn : l.length ≤ 1000) (A : Option Addr) (n c : Nat) (hc : n ≤ c) (hl : NodesF F A n l) (props room : Int) (P C : Nat) (hP : min (max props 0) 64 = (P : Int)) (hC : min (max room 1) 4096 = (C : Int)) (Q : Nat) (hQ : onT (cellsT P C) l = Q) :
    Calls Tryz.prog 29 #[.slice A n c, .int .i64 props, .int .i64 room] w fun e w' => e = .returned (encU Q) ∧ Below w.heap.size w w' := by
  refine cells26_core hF A n c props room P hP (onT restT l) (onT extraT l) (onT (stayT C) l) (onT (fleetT C) l) Q ?_ ?_ ?_ ?_ ?_ (fun X hX => needs_w hX l hn A n c hc hl room C hC _ _ _ _ rfl rfl rfl rfl)
  all_goals
    cases hb : (formL l && plainS l)
    · simp only [onT_no hb] at hQ ⊢
      try (first | omega | (rw [← hQ]; simp))
  · obtain ⟨_, _, t, ht⟩ := plain_tree hb
    simp only [onT_yes hb ht] at hQ ⊢
    exact hQ
  all_goals
    obtain ⟨_, _, t, ht⟩ := plain_tree hb
    have hs : t.size ≤ 1000 := by rw [← tree_len ht]; exact hn
    have h1 := restT_le t
    have h2 := extraT_le t
    have h3 := stayT_le (C := C) (by omega) t (tree_valid ht) hs
    have h4 := fleetT_le (C := C) (by omega) t (tree_valid ht) hs
    have h5 : t.size * t.size ≤ 1000000 := Nat.le_trans (Nat.mul_le_mul hs hs) (by omega)
    simp only [onT_yes hb ht]
    omega
set_option maxRecDepth 100000 in
set_option maxHeartbeats 4000000 in
theorem tells26_w {F : Fz} {w : World} (hF : Sat F w) (l : List Nd) (hn : l.length ≤ 1000) (A : Option Addr) (n c : Nat) (hc : n ≤ c) (hl : NodesF F A n l) (props room : Int) :
    Calls Tryz.prog 7 #[.slice A n c, .int .i64 props, .int .i64 room] w fun e w' => e = .returned (.bool true) ∧ Below w.heap.size w w' := by
  obtain ⟨P, hP⟩ : ∃ P : Nat, min (max props 0) 64 = (P : Int) := ⟨(min (max props 0) 64).toNat, by omega⟩
  obtain ⟨C, hC⟩ : ∃ C : Nat, min (max room 1) 4096 = (C : Int) := ⟨(min (max room 1) 4096).toNat, by omega⟩
  have HNd := Lib.hid (needs_w hF l hn A n c hc hl room C hC _ _ _ _ rfl rfl rfl rfl)
  have H1 := Lib.hid (fun (X : World) (h : Sat F X) => brest_w h l hn A n c hc hl _ rfl)
  have H2 := Lib.hid (fun (X : World) (h : Sat F X) => bextra_w h l hn A n c hc hl _ rfl)
  have H3 := Lib.hid (fun (X : World) (h : Sat F X) => bheads_w h l hn A n c hc hl _ _ rfl rfl)
  have H4 := Lib.hid (fun (X : World) (h : Sat F X) => bcells_w h l hn A n c hc hl props room P C hP hC _ rfl)
  have H5 := Lib.hid (fun (X : World) (h : Sat F X) => cells26_w h l hn A n c hc hl props room P C hP hC _ rfl)
  have H6 := Lib.hid (fun (X : World) (h : Sat F X) => batoms_w h l hn A n c hc hl _ rfl)
  have H7 := Lib.hid (fun (X : World) (h : Sat F X) => atoms26_w h l hn A n c hc hl _ rfl)
  have H8 := Lib.hid (fun (X : World) (h : Sat F X) => bonce_w h l hn A n c hc hl _ rfl)
  have H9 := Lib.hid (fun (X : World) (h : Sat F X) => once26_w h l hn A n c hc hl _ rfl)
  have hRb : onT restT l ≤ 1000 := by
    cases hb : (formL l && plainS l)
    · rw [onT_no hb]; omega
    · obtain ⟨_, _, t, ht⟩ := plain_tree hb
      have := restT_le t
      have hs : t.size ≤ 1000 := by rw [← tree_len ht]; exact hn
      rw [onT_yes hb ht]; omega
  have hEb : onT extraT l ≤ 1000000 := by
    cases hb : (formL l && plainS l)
    · rw [onT_no hb]; omega
    · obtain ⟨_, _, t, ht⟩ := plain_tree hb
      have := extraT_le t
      have hs : t.size ≤ 1000 := by rw [← tree_len ht]; exact hn
      have h5 : t.size * t.size ≤ 1000000 := Nat.le_trans (Nat.mul_le_mul hs hs) (by omega)
      rw [onT_yes hb ht]; omega
  generalize onT restT l = R at *
  generalize onT extraT l = E at *
  generalize onT (stayT C) l = S at *
  generalize onT (fleetT C) l = Fl at *
  generalize onT (cellsT P C) l = Q at *
  generalize onT atomsN l = NA at *
  generalize onT onceT l = NO at *
  obtain ⟨T1, hT1⟩ : ∃ T1, R + E = T1 := ⟨_, rfl⟩
  rw [hT1] at H3
  have x1 : IntKind.i64.wrap ((R : Int) + (E : Int)) = (T1 : Int) := by rw [show (R : Int) + (E : Int) = (T1 : Int) by omega]; exact wrap_i (by omega) (by omega)
  have hbR : ((R : Int) == (R : Int)) = true := by simp
  have hbE : ((E : Int) == (E : Int)) = true := by simp
  have hbT : ((T1 : Int) == (T1 : Int)) = true := by simp
  have hbQ : ((Q : Int) == (Q : Int)) = true := by simp
  have hbA : ((NA : Int) == (NA : Int)) = true := by simp
  have hbO : ((NO : Int) == (NO : Int)) = true := by simp
  clear hP hC hl hn hc hT1 hRb hEb
  go_enter Tryz.func7, Tryz.ntmps7
  go_wp2_with (go_at_call 27; refine HNd.out.mono ?_; rintro e w0 ⟨rfl, hw0⟩; unfold needV)
  have hb0 := hw0.alloc hw0.size (.cells #[.int .i64 (R : Nat), .int .i64 (E : Nat), .int .i64 (S : Nat), .int .i64 (Fl : Nat)] 49)
  have hkN := Blk.new w0 49 #[.int .i64 (R : Nat), .int .i64 (E : Nat), .int .i64 (S : Nat), .int .i64 (Fl : Nat)]
  obtain ⟨W, hW⟩ : ∃ W, w0.alloc (.cells #[.int .i64 (R : Nat), .int .i64 (E : Nat), .int .i64 (S : Nat), .int .i64 (Fl : Nat)] 49) = W := ⟨_, rfl⟩
  rw [hW] at hb0 hkN ⊢
  obtain ⟨k0, k1, _, _, _, _, _, _⟩ := blk4 hkN
  have hkl := hkN.lt
  have hFW := hF.below hb0
  have hbW := Below.refl W.heap.size W
  clear hW hkN hw0 HNd hF
  go_region_held3 (fun w' => w'.cell? ⟨w0.heap.size, 0, none⟩ = some (.int .i64 (R : Nat)) ∧ w'.cell? ⟨w0.heap.size, 1, none⟩ = some (.int .i64 (E : Nat))) (go_keep)
    (first
      | (go_at_call 22; refine (H1.out _ ?sx).mono ?_; (case sx => (first | exact hFW.below hbW | exact (hFW.below hbW).drew)); rintro e w1 ⟨rfl, hw1, _⟩; have hbW : Below W.heap.size W w1 := (by first | exact hbW.trans (Below.mono hw1 hbW.size) | exact hbW.trans ((und hw1).mono hbW.size)); have s0 := (hbW.cell (p := ⟨w0.heap.size, 0, none⟩) hkl).trans k0; have s1 := (hbW.cell (p := ⟨w0.heap.size, 1, none⟩) hkl).trans k1)
      | (go_at_call 23; refine (H2.out _ ?sx).mono ?_; (case sx => (first | exact hFW.below hbW | exact (hFW.below hbW).drew)); rintro e w2 ⟨rfl, hw2, _⟩; have hbW : Below W.heap.size W w2 := (by first | exact hbW.trans (Below.mono hw2 hbW.size) | exact hbW.trans ((und hw2).mono hbW.size)); have s0 := (hbW.cell (p := ⟨w0.heap.size, 0, none⟩) hkl).trans k0; have s1 := (hbW.cell (p := ⟨w0.heap.size, 1, none⟩) hkl).trans k1)
      | (go_at_call 24; refine (H3.out _ ?sx).mono ?_; (case sx => (first | exact hFW.below hbW | exact (hFW.below hbW).drew)); rintro e w3 ⟨rfl, hw3, _, _⟩; have hbW : Below W.heap.size W w3 := (by first | exact hbW.trans (Below.mono hw3 hbW.size) | exact hbW.trans ((und hw3).mono hbW.size)); have s0 := (hbW.cell (p := ⟨w0.heap.size, 0, none⟩) hkl).trans k0; have s1 := (hbW.cell (p := ⟨w0.heap.size, 1, none⟩) hkl).trans k1)
      | (go_at_call 28; refine (H4.out _ ?sx).mono ?_; (case sx => (first | exact hFW.below hbW | exact (hFW.below hbW).drew)); rintro e w4 ⟨rfl, hw4, _⟩; have hbW : Below W.heap.size W w4 := (by first | exact hbW.trans (Below.mono hw4 hbW.size) | exact hbW.trans ((und hw4).mono hbW.size)); have s0 := (hbW.cell (p := ⟨w0.heap.size, 0, none⟩) hkl).trans k0; have s1 := (hbW.cell (p := ⟨w0.heap.size, 1, none⟩) hkl).trans k1)
      | (go_at_call 29; refine (H5.out _ ?sx).mono ?_; (case sx => (first | exact hFW.below hbW | exact (hFW.below hbW).drew)); rintro e w5 ⟨rfl, hw5⟩; have hbW : Below W.heap.size W w5 := (by first | exact hbW.trans (Below.mono hw5 hbW.size) | exact hbW.trans ((und hw5).mono hbW.size)); have s0 := (hbW.cell (p := ⟨w0.heap.size, 0, none⟩) hkl).trans k0; have s1 := (hbW.cell (p := ⟨w0.heap.size, 1, none⟩) hkl).trans k1)
      | (go_at_call 25; refine (H6.out _ ?sx).mono ?_; (case sx => (first | exact hFW.below hbW | exact (hFW.below hbW).drew)); rintro e w6 ⟨rfl, hw6, _⟩; have hbW : Below W.heap.size W w6 := (by first | exact hbW.trans (Below.mono hw6 hbW.size) | exact hbW.trans ((und hw6).mono hbW.size)); have s0 := (hbW.cell (p := ⟨w0.heap.size, 0, none⟩) hkl).trans k0; have s1 := (hbW.cell (p := ⟨w0.heap.size, 1, none⟩) hkl).trans k1)
      | (go_at_call 12; refine (H7.out _ ?sx).mono ?_; (case sx => (first | exact hFW.below hbW | exact (hFW.below hbW).drew)); rintro e w7 ⟨rfl, hw7⟩; have hbW : Below W.heap.size W w7 := (by first | exact hbW.trans (Below.mono hw7 hbW.size) | exact hbW.trans ((und hw7).mono hbW.size)); have s0 := (hbW.cell (p := ⟨w0.heap.size, 0, none⟩) hkl).trans k0; have s1 := (hbW.cell (p := ⟨w0.heap.size, 1, none⟩) hkl).trans k1)
      | (go_at_call 26; refine (H8.out _ ?sx).mono ?_; (case sx => (first | exact hFW.below hbW | exact (hFW.below hbW).drew)); rintro e w8 ⟨rfl, hw8⟩; have hbW : Below W.heap.size W w8 := (by first | exact hbW.trans (Below.mono hw8 hbW.size) | exact hbW.trans ((und hw8).mono hbW.size)); have s0 := (hbW.cell (p := ⟨w0.heap.size, 0, none⟩) hkl).trans k0; have s1 := (hbW.cell (p := ⟨w0.heap.size, 1, none⟩) hkl).trans k1)
      | (go_at_call 30; refine (H9.out _ ?sx).mono ?_; (case sx => (first | exact hFW.below hbW | exact (hFW.below hbW).drew)); rintro e w9 ⟨rfl, hw9⟩; have hbW : Below W.heap.size W w9 := (by first | exact hbW.trans (Below.mono hw9 hbW.size) | exact hbW.trans ((und hw9).mono hbW.size)); have s0 := (hbW.cell (p := ⟨w0.heap.size, 0, none⟩) hkl).trans k0; have s1 := (hbW.cell (p := ⟨w0.heap.size, 1, none⟩) hkl).trans k1)
      | fail)
  all_goals
    go_wp2_with fail
    go_ret
    exact ⟨rfl, hb0.trans (hbW.mono hb0.size)⟩
set_option maxRecDepth 100000 in
set_option maxHeartbeats 2000000 in
theorem boundTells_c {F : Fz} {w : World} (hF : Sat F w) (l : List Nd) (A : Option Addr) (n c : Nat) (hc : n ≤ c) (hcm : c ≤ maxLen) (hl : NodesF F A n l) (ns : List Nat) (hns : ∀ k ∈ ns, k < 65536) (B : Option Addr) (m d : Nat) (hr : Rd F 1 B m (ns.map encW)) (plain : Bool) (props room : Int) :
    Calls Tryz.prog 3 #[.slice A n c, .slice B m d, .bool plain, .int .i64 props, .int .i64 room] w fun e w' => e = .returned (.bool true) ∧ Below w.heap.size w w' := by
  obtain rfl := hl.1
  unfold maxLen at hcm
  by_cases h : 1000 < l.length
  · have h' : (1000 : Int) < (l.length : Int) := by omega
    clear hr hns
    go_enter Tryz.func3, Tryz.ntmps3
    go_wp2_with (go_at_call 6; refine (awake26_w _).mono ?_; rintro e w' ⟨rfl, hw'⟩)
    go_ret
    exact ⟨rfl, hw'⟩
  · have h' : decide ((1000 : Int) < (l.length : Int)) = false := decide_eq_false (by omega)
    have h2 : decide (1000 < l.length) = false := decide_eq_false h
    have HM := Lib.hid (fun (X : World) (h : Sat F X) => make_w h ns hns B m d hr plain (makeT plain ns) rfl)
    have HR := Lib.hid (fun (X : World) (h : Sat F X) => reg5_w h ns hns B m d hr plain (regT plain ns) rfl)
    have s1 : ((makeT plain ns).flat 0).length ≤ 1000 := by rw [Tr.length_flat]; have := (make_size plain ns).1; omega
    have s2 : ((regT plain ns).flat 0).length ≤ 1000 := by rw [Tr.length_flat]; have := (make_size plain ns).2; omega
    generalize (makeT plain ns).flat 0 = lf at *
    generalize (regT plain ns).flat 0 = lr at *
    have HT := Lib.hid (tells26_w hF l (by omega) A l.length c hc hl props room)
    have HT2 := Lib.hid (fun (G : Fz) (X : World) (h : Sat G X) (q : List Nd) (hq : q.length ≤ 1000) (D : Option Addr) (e : Nat) (he : q.length ≤ e) (hD : NodesF G D q.length q) => tells26_w h q hq D q.length e he hD props room)
    have S1 := Lib.hid s1
    have S2 := Lib.hid s2
    clear hr hns s1 s2 hl hcm hc
    go_enter Tryz.func3, Tryz.ntmps3
    go_wp2_with fail
    go_at_call 7
    refine HT.out.mono ?_
    rintro e w1 ⟨rfl, hw1⟩
    go_wp2_with fail
    go_at_call 8
    refine (HM.out _ (hF.below hw1)).mono ?_
    rintro e w2 ⟨A2, c2, F2, rfl, hc2, hN2, hw2, hF2, _⟩
    go_wp2_with fail
    go_at_call 7
    refine (HT2.out F2 _ hF2 lf S1.out A2 c2 hc2 hN2).mono ?_
    rintro e w3 ⟨rfl, hw3⟩
    have hb3 := bthen (bthen hw1 hw2) hw3
    clear hc2 hN2 hF2 hw1 hw2 hw3
    go_wp2_with fail
    go_at_call 9
    refine (HR.out _ (hF.below hb3)).mono ?_
    rintro e w4 ⟨A4, c4, F4, rfl, hc4, hN4, hw4, hF4, _⟩
    go_wp2_with fail
    go_at_call 7
    refine (HT2.out F4 _ hF4 lr S2.out A4 c4 hc4 hN4).mono ?_
    rintro e w5 ⟨rfl, hw5⟩
    go_wp2_with (go_at_call 6; refine (awake26_w _).mono ?_; rintro e w6 ⟨rfl, hw6⟩)
    go_ret
    exact ⟨rfl, bthen (bthen (bthen hb3 hw4) hw5) hw6⟩
end Go.Proofs.YtdohbbjinbofbaaGreat
/-! The statement BoundTells: of any list of nodes, any formula that may be, any names and any room how much is kept at most is told as the document has it; no condition. -/
namespace Go.Proofs.YtdohbbjinbofbaaGreat
open Go.ChangeShapes Go.WideShapes Go.ChangeAt Go.RowKit

set_option maxRecDepth 100000 in
theorem boundTells_lifted (os : Os) (started : os.Started) (H : Type) (enc : TypeId × Value → H) :
    ReturnsInHanded {} Tryz.checked os 3 .any (Rows.boundTellsSpec.pre6 enc Tryz.prog Tryz.f3 Rows.boundTellsRow.domain false) (Rows.boundTellsSpec.post enc Tryz.prog Tryz.f3 false true false false) := by
  refine returnsInHanded_of_change (C := Tryz.checked) Tryz.own started (by kernel_rfl) Tryz.func3
    (ChangeSpec.witness6 (enc := enc) (C := Tryz.checked) false ⟨#[], #[.slice none 0 0, .slice none 0 0, .bool false, .int .i64 0, .int .i64 0], []⟩ 8 (by kernel_rfl) (by kernel_rfl) (by kernel_rfl) (by kernel_rfl)) ?_
  intro W base args ds gs before hval0 hW hcnd _
  have hval : ∀ (j : Nat) t v, Tryz.f3.params[j]? = some t → args[j]? = some v → Value.okWide Tryz.prog W .any base t v := hval0
  have hW' := hW
  obtain ⟨p, q, hA0, hV, rfl, hfz, hnd⟩ := hW
  have hA : DataW.TrodAll enc Tryz.prog W 0 (fun _ => true) true Tryz.f3.params.toList args.toList ds p := hA0
  have hA1 := hA
  rw [Tryz.params3] at hA hval
  obtain ⟨v0, vs0, d0, ds0, p0, q0, hvs, rfl, rfl, h0, r0⟩ := trodAll_cons hA
  obtain ⟨v1, vs1, d1, ds1, p1, q1, rfl, rfl, rfl, h1, r1⟩ := trodAll_cons r0
  obtain ⟨v2, vs2, d2, ds2, p2, q2, rfl, rfl, rfl, h2, r2⟩ := trodAll_cons r1
  obtain ⟨v3, vs3, d3, ds3, p3, q3, rfl, rfl, rfl, h3, r3⟩ := trodAll_cons r2
  obtain ⟨v4, vs4, d4, ds4, p4, q4, rfl, rfl, rfl, h4, r4⟩ := trodAll_cons r3
  obtain ⟨rfl, rfl, rfl⟩ := trodAll_nil r4
  obtain rfl : args = #[v0, v1, v2, v3, v4] := Array.toList_inj.1 hvs
  obtain ⟨rfl, rfl⟩ := trodVars_none hV
  obtain ⟨A, n, c, l, rfl, hcl, hml, hl⟩ := open_nodes (hval 0 22 v0 rfl rfl) h0
  obtain ⟨B, m, d, ns, rfl, hns, hr⟩ := open_u16s Tryz.underlying23 Tryz.underlying84 (by kernel_rfl) (hval 1 23 v1 rfl rfl) h1
  obtain ⟨plain, rfl, rfl, rfl⟩ := open_bool Tryz.underlying4 (hval 2 4 v2 rfl rfl) h2
  obtain ⟨props, rfl, rfl, rfl, w3⟩ := open_int Tryz.underlying3 (hval 3 3 v3 rfl rfl) h3
  obtain ⟨room, rfl, rfl, rfl, w4⟩ := open_int Tryz.underlying3 (hval 4 3 v4 rfl rfl) h4
  clear hA0 hval0
  rw [List.append_nil] at hW'
  have hC : Calls Tryz.prog 3 #[.slice A n c, .slice B m d, .bool plain, .int .i64 props, .int .i64 room] W fun e w' => e = .returned (.bool true) ∧ Below W.heap.size W w' := by
    exact boundTells_c (sat_heapF W) l A n c hcl hml hl ns hns B m d hr plain props room
  refine hC.mono fun e W' ⟨he, hb⟩ => ?_
  subst he
  exact ⟨_, rfl, law_post (T := 4) Tryz.laidOut rfl hW' hA1 (by rw [Tryz.params3]; decide +kernel) (by kernel_rfl) Tryz.underlying4 rfl hb⟩

theorem boundTells_holds : Rows.BoundTellsSaid :=
  OpenClaim.holds_of_wide 3 Tryz.f3 rfl rfl rfl rfl rfl rfl rfl ⟨rfl, rfl, rfl, rfl, rfl⟩ rfl rfl rfl rfl rfl (by kernel_rfl) Tryz.func3 (by kernel_rfl)
    (of_decide_eq_true (by kernel_rfl)) (by unfold Func.isWrapper; first | (rw [if_pos (by decide +kernel)]; kernel_rfl) | (rw [if_neg (by decide +kernel)]; exact ⟨rfl, rfl⟩))
    (fun os started H enc _ => boundTells_lifted os started H enc)
#print axioms boundTells_holds
end Go.Proofs.YtdohbbjinbofbaaGreat
