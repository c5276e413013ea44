/- The walk of slices.Reverse. -/
import Derived.Test.YtedeppgipciblaaTurnS
import Derived.Test.YtedeppgipciblaaWords
import Derived.Test.YtedeppgipciblaaPart
import Derived.Test.YtedeppgipciblaaJoin
import Derived.Test.YtedeppgipciblaaPileM
import Derived.Test.YtedeppgipciblaaOwn
set_option linter.unusedVariables false
set_option linter.unusedSimpArgs false
/-! The walk of slices.Reverse. -/
/-! slices.Reverse. -/
namespace Go.Proofs.Ytedeppgipciblaa
open Go.RowKit
def sliceV (u : Value) : Prop := ∃ A m c, u = .slice A m c
def boolV (u : Value) : Prop := ∃ b, u = .bool b
set_option maxRecDepth 100000 in
set_option maxHeartbeats 2000000 in
theorem reverseR_w {F : Fz} {w : World} {B : Nat} {v : Value} {n : Nat} {xs : List Value} (hO : Own F w B 22 1 v n xs) (hF : Sat F w) (hB : B ≤ w.heap.size) (hn : n ≤ 1000000) (hv : ∀ u ∈ xs, sliceV u) :
    Calls Try.prog 39 #[v] w fun e w' => e = .returned (.tuple #[]) ∧ Own F w' B 22 1 v n xs.reverse ∧ Below B w w' ∧ Sat F w' := by
  rcases hO.blk with ⟨rfl, rfl, rfl⟩ | ⟨g, cap, rfl, hcap, hBg, hFg, _⟩
  · have HO := Lib.hid hO
    clear hO
    go_enter Try.func39, Try.ntmps39
    go_wp2_with fail
    go_loop [2, 3] (fun a b => a = .int .i64 0 ∧ b = .int .i64 (-1)) (fun _ _ => 0)
    case atStart => exact ⟨rfl, rfl⟩
    case round =>
      obtain ⟨rfl, rfl⟩ := hrel
      go_wp2_with fail
      go_end0
      exact ⟨rfl, HO.out, Below.refl _ _, hF⟩
  · have hlen : xs.length = n := by have := hO.1.1; omega
    have HL := Lib.hid hlen
    clear hlen
    go_enter Try.func39, Try.ntmps39
    go_wp2_with fail
    go_loopw [2, 3] (fun a b wr => ∃ (i : Nat) (J : Int) (ys : List Value), a = .int .i64 i ∧ b = .int .i64 J ∧ J = (n : Int) - 1 - i ∧ i ≤ n ∧ Hid (ys.length = n) ∧ Hid (∀ k, k < n → ys[k]? = if k < i ∨ n ≤ k + i then xs[n - 1 - k]? else xs[k]?) ∧ Own F wr B 22 1 (.slice (some ⟨g, 0, none⟩) n cap) n ys ∧ Below B w wr ∧ Sat F wr) (fun a _ _ => n - (intOf a).toNat)
    case atStart => exact ⟨0, (n : Int) - 1, xs, rfl, rfl, by omega, Nat.zero_le _, HL, Lib.hid (fun k hk => by rw [if_neg (by omega)]), hO, Below.refl _ _, hF⟩
    case round =>
      obtain ⟨i, J, ys, rfl, rfl, hJ, hi, HY, HE, hOy, hbl, hFr⟩ := hrel
      by_cases hlt : (i : Int) < J
      · obtain ⟨j, hj⟩ : ∃ j : Nat, n = j + 1 + i := ⟨n - 1 - i, by omega⟩
        obtain rfl : J = (j : Int) := by omega
        have hij : i < j := by omega
        have hin : (i : Int) < (n : Int) := by omega
        have hjn : (j : Int) < (n : Int) := by omega
        obtain ⟨ci, fi, _⟩ := hOy.cellAt (i := i) (by omega)
        obtain ⟨cj, fj, _⟩ := hOy.cellAt (i := j) (by omega)
        have hyl := HY.out
        rw [List.getElem?_eq_getElem (show i < ys.length by omega)] at ci
        rw [List.getElem?_eq_getElem (show j < ys.length by omega)] at cj
        have hxi : ys[i]? = some (ys[i]'(by omega)) := List.getElem?_eq_getElem (by omega)
        have hxj : ys[j]? = some (ys[j]'(by omega)) := List.getElem?_eq_getElem (by omega)
        generalize ys[i]'(by omega) = yi at *
        generalize ys[j]'(by omega) = yj at *
        have hmi : yi ∈ xs := by
          have := HE.out i (by omega)
          rw [if_neg (by omega), hxi] at this
          exact List.mem_of_getElem? this.symm
        have hmj : yj ∈ xs := by
          have := HE.out j (by omega)
          rw [if_neg (by omega), hxj] at this
          exact List.mem_of_getElem? this.symm
        have hO2 := (hOy.store (i := i) (by omega) yj).store (i := j) (by omega) yi
        have hb2 := (hbl.setCell (p := ⟨g, i, none⟩) hBg yj).setCell (p := ⟨g, j, none⟩) hBg yi
        have hF2 := (hFr.setCell (p := ⟨g, i, none⟩) hFg yj).setCell (p := ⟨g, j, none⟩) hFg yi
        have HN : Hid (∀ k, k < n → ((ys.set i yj).set j yi)[k]? = if k < i + 1 ∨ n ≤ k + (i + 1) then xs[n - 1 - k]? else xs[k]?) := Lib.hid (fun k hk => by
          rw [List.getElem?_set, List.length_set]
          by_cases e1 : j = k
          · subst e1
            rw [if_pos rfl, if_pos (by omega), if_pos (by omega)]
            have := HE.out i (by omega)
            rw [if_neg (by omega), hxi] at this
            rw [this]; congr 1; omega
          · rw [if_neg e1, List.getElem?_set]
            by_cases e2 : i = k
            · subst e2
              rw [if_pos rfl, if_pos (by omega), if_pos (by omega)]
              have := HE.out j (by omega)
              rw [if_neg (by omega), hxj] at this
              rw [this]; congr 1; omega
            · rw [if_neg e2, HE.out k hk]
              by_cases e3 : k < i ∨ n ≤ k + i
              · rw [if_pos e3, if_pos (by omega)]
              · rw [if_neg e3, if_neg (by omega)])
        have HYL : Hid (((ys.set i yj).set j yi).length = n) := Lib.hid (by simpa using hyl)
        have HJ2 : Hid ((j : Int) - 1 = (n : Int) - 1 - ((i + 1 : Nat) : Int)) := Lib.hid (by omega)
        have hne : ¬ (i = j) := by omega
        clear hxi hxj hyl hj hJ
        have hvi := hv yi hmi
        have hvj := hv yj hmj
        clear hmi hmj
        obtain ⟨_,_,_,rfl⟩ := hvi
        obtain ⟨_,_,_,rfl⟩ := hvj
        go_wp2_with fail
        go_region
        all_goals
          go_wp2_with fail
          go_roundw
          case rel => exact ⟨i + 1, (j : Int) - 1, _, by go_num, rfl, HJ2.out, by omega, HYL, HN, hO2.drew, hb2.drew, hF2.drew⟩
          case measure => simp [intOf]; omega
      · have hdec : decide ((i : Int) < J) = false := decide_eq_false hlt
        have HR : Hid (ys = xs.reverse) := Lib.hid (by
          have h1 := HY.out
          have h2 := HL.out
          apply List.ext_getElem?
          intro k
          by_cases hk : k < n
          · rw [HE.out k hk, List.getElem?_reverse (by omega), h2]
            by_cases e : k < i ∨ n ≤ k + i
            · rw [if_pos e]
            · rw [if_neg e]; congr 1; omega
          · rw [List.getElem?_eq_none (by omega), List.getElem?_eq_none (by simp; omega)])
        go_wp2_with fail
        go_end0
        exact ⟨rfl, by rw [← HR.out]; exact hOy, hbl, hFr⟩
set_option maxRecDepth 100000 in
set_option maxHeartbeats 2000000 in
theorem reverseB_w {F : Fz} {w : World} {B : Nat} {v : Value} {n : Nat} {xs : List Value} (hO : Own F w B 4 1 v n xs) (hF : Sat F w) (hB : B ≤ w.heap.size) (hn : n ≤ 1000000) (hv : ∀ u ∈ xs, boolV u) :
    Calls Try.prog 32 #[v] w fun e w' => e = .returned (.tuple #[]) ∧ Own F w' B 4 1 v n xs.reverse ∧ Below B w w' ∧ Sat F w' := by
  rcases hO.blk with ⟨rfl, rfl, rfl⟩ | ⟨g, cap, rfl, hcap, hBg, hFg, _⟩
  · have HO := Lib.hid hO
    clear hO
    go_enter Try.func32, Try.ntmps32
    go_wp2_with fail
    go_loop [2, 3] (fun a b => a = .int .i64 0 ∧ b = .int .i64 (-1)) (fun _ _ => 0)
    case atStart => exact ⟨rfl, rfl⟩
    case round =>
      obtain ⟨rfl, rfl⟩ := hrel
      go_wp2_with fail
      go_end0
      exact ⟨rfl, HO.out, Below.refl _ _, hF⟩
  · have hlen : xs.length = n := by have := hO.1.1; omega
    have HL := Lib.hid hlen
    clear hlen
    go_enter Try.func32, Try.ntmps32
    go_wp2_with fail
    go_loopw [2, 3] (fun a b wr => ∃ (i : Nat) (J : Int) (ys : List Value), a = .int .i64 i ∧ b = .int .i64 J ∧ J = (n : Int) - 1 - i ∧ i ≤ n ∧ Hid (ys.length = n) ∧ Hid (∀ k, k < n → ys[k]? = if k < i ∨ n ≤ k + i then xs[n - 1 - k]? else xs[k]?) ∧ Own F wr B 4 1 (.slice (some ⟨g, 0, none⟩) n cap) n ys ∧ Below B w wr ∧ Sat F wr) (fun a _ _ => n - (intOf a).toNat)
    case atStart => exact ⟨0, (n : Int) - 1, xs, rfl, rfl, by omega, Nat.zero_le _, HL, Lib.hid (fun k hk => by rw [if_neg (by omega)]), hO, Below.refl _ _, hF⟩
    case round =>
      obtain ⟨i, J, ys, rfl, rfl, hJ, hi, HY, HE, hOy, hbl, hFr⟩ := hrel
      by_cases hlt : (i : Int) < J
      · obtain ⟨j, hj⟩ : ∃ j : Nat, n = j + 1 + i := ⟨n - 1 - i, by omega⟩
        obtain rfl : J = (j : Int) := by omega
        have hij : i < j := by omega
        have hin : (i : Int) < (n : Int) := by omega
        have hjn : (j : Int) < (n : Int) := by omega
        obtain ⟨ci, fi, _⟩ := hOy.cellAt (i := i) (by omega)
        obtain ⟨cj, fj, _⟩ := hOy.cellAt (i := j) (by omega)
        have hyl := HY.out
        rw [List.getElem?_eq_getElem (show i < ys.length by omega)] at ci
        rw [List.getElem?_eq_getElem (show j < ys.length by omega)] at cj
        have hxi : ys[i]? = some (ys[i]'(by omega)) := List.getElem?_eq_getElem (by omega)
        have hxj : ys[j]? = some (ys[j]'(by omega)) := List.getElem?_eq_getElem (by omega)
        generalize ys[i]'(by omega) = yi at *
        generalize ys[j]'(by omega) = yj at *
        have hmi : yi ∈ xs := by
          have := HE.out i (by omega)
          rw [if_neg (by omega), hxi] at this
          exact List.mem_of_getElem? this.symm
        have hmj : yj ∈ xs := by
          have := HE.out j (by omega)
          rw [if_neg (by omega), hxj] at this
          exact List.mem_of_getElem? this.symm
        have hO2 := (hOy.store (i := i) (by omega) yj).store (i := j) (by omega) yi
        have hb2 := (hbl.setCell (p := ⟨g, i, none⟩) hBg yj).setCell (p := ⟨g, j, none⟩) hBg yi
        have hF2 := (hFr.setCell (p := ⟨g, i, none⟩) hFg yj).setCell (p := ⟨g, j, none⟩) hFg yi
        have HN : Hid (∀ k, k < n → ((ys.set i yj).set j yi)[k]? = if k < i + 1 ∨ n ≤ k + (i + 1) then xs[n - 1 - k]? else xs[k]?) := Lib.hid (fun k hk => by
          rw [List.getElem?_set, List.length_set]
          by_cases e1 : j = k
          · subst e1
            rw [if_pos rfl, if_pos (by omega), if_pos (by omega)]
            have := HE.out i (by omega)
            rw [if_neg (by omega), hxi] at this
            rw [this]; congr 1; omega
          · rw [if_neg e1, List.getElem?_set]
            by_cases e2 : i = k
            · subst e2
              rw [if_pos rfl, if_pos (by omega), if_pos (by omega)]
              have := HE.out j (by omega)
              rw [if_neg (by omega), hxj] at this
              rw [this]; congr 1; omega
            · rw [if_neg e2, HE.out k hk]
              by_cases e3 : k < i ∨ n ≤ k + i
              · rw [if_pos e3, if_pos (by omega)]
              · rw [if_neg e3, if_neg (by omega)])
        have HYL : Hid (((ys.set i yj).set j yi).length = n) := Lib.hid (by simpa using hyl)
        have HJ2 : Hid ((j : Int) - 1 = (n : Int) - 1 - ((i + 1 : Nat) : Int)) := Lib.hid (by omega)
        have hne : ¬ (i = j) := by omega
        clear hxi hxj hyl hj hJ
        have hvi := hv yi hmi
        have hvj := hv yj hmj
        clear hmi hmj
        obtain ⟨_,rfl⟩ := hvi
        obtain ⟨_,rfl⟩ := hvj
        go_wp2_with fail
        go_region
        all_goals
          go_wp2_with fail
          go_roundw
          case rel => exact ⟨i + 1, (j : Int) - 1, _, by go_num, rfl, HJ2.out, by omega, HYL, HN, hO2.drew, hb2.drew, hF2.drew⟩
          case measure => simp [intOf]; omega
      · have hdec : decide ((i : Int) < J) = false := decide_eq_false hlt
        have HR : Hid (ys = xs.reverse) := Lib.hid (by
          have h1 := HY.out
          have h2 := HL.out
          apply List.ext_getElem?
          intro k
          by_cases hk : k < n
          · rw [HE.out k hk, List.getElem?_reverse (by omega), h2]
            by_cases e : k < i ∨ n ≤ k + i
            · rw [if_pos e]
            · rw [if_neg e]; congr 1; omega
          · rw [List.getElem?_eq_none (by omega), List.getElem?_eq_none (by simp; omega)])
        go_wp2_with fail
        go_end0
        exact ⟨rfl, by rw [← HR.out]; exact hOy, hbl, hFr⟩
end Go.Proofs.Ytedeppgipciblaa
/-! The walk of turn.Turn. -/
/-! The walk of turn.Turn. -/
namespace Go.Proofs.Ytedeppgipciblaa
open Go.RowKit
theorem RowsV.reverse {F : Fz} {ls : List (List Nd)} {xs : List Value} (h : RowsV F ls xs) : RowsV F ls.reverse xs.reverse := by
  induction h with
  | nil => exact .nil
  | cons l ls A c xs hc hl _ ih => rw [List.reverse_cons, List.reverse_cons]; exact ih.append (RowsV.one hc hl)
theorem RowsV.sliceV {F : Fz} {ls : List (List Nd)} {xs : List Value} (h : RowsV F ls xs) : ∀ u ∈ xs, Go.Proofs.Ytedeppgipciblaa.sliceV u := by
  induction h with
  | nil => intro u hu; cases hu
  | cons l ls A c xs hc hl _ ih =>
    intro u hu
    rcases List.mem_cons.1 hu with rfl | hu
    · exact ⟨_, _, _, rfl⟩
    · exact ih u hu
theorem OwnR.freezeN {F : Fz} {w : World} {B : Nat} {v : Value} {ls : List (List Nd)} (h : OwnR F w B v ls) (hF : Sat F w) (w0 : World) (hB : w0.heap.size ≤ B) : ∃ F' A c, v = .slice A ls.length c ∧ RowsN F' A ls.length ls ∧ Sat F' w ∧ Fle w0 F F' := by
  obtain ⟨xs, h1, h2⟩ := h
  obtain ⟨F', A, c, e, hc, hr, hs, hle, hb⟩ := h1.freeze hF w0 hB
  exact ⟨F', A, c, e, (h2.cle hle.cle).toN hr, hs, hle⟩
theorem joinL_kids (n n' : Nd) (k : List Int) (h : n' = { n with kids := k }) (ls : List (List Nd)) : joinL n' ls = joinL n ls := by
  subst h
  rfl
/-- What is turned round is Join of its root and its kids turned round. -/
theorem join_turn {l : List Nd} {t : Tr} (ht : treeS l = some t) : joinL (rootN t) ((kidsT (turnT t)).map fun x => x.flat 0) = (turnT t).flat 0 := by
  have hv := valid_turn (tree_valid ht)
  have hne : ∀ t : Tr, (t.flat 0).length ≠ 0 := fun t => by rw [Tr.length_flat]; have := t.size_pos; omega
  have hraw : rawJ (rootN t) ((kidsT (turnT t)).map fun x => x.flat 0) = (turnT t).flat 0 := by
    have e : rawJ (rootN t) ((kidsT (turnT t)).map fun x => x.flat 0) = rawJ (turnT t).root ((kidsT (turnT t)).map fun x => x.flat 0) := by
      rw [root_turn]
      rfl
    rw [e]
    generalize turnT t = s
    cases s with
    | leaf n => rfl
    | un n a => exact (raw1 _ _ (hne a)).trans (over_un _ a)
    | bin n a b => exact (raw2 _ _ _ (hne a) (hne b)).trans (over_bin _ a b)
  unfold joinL
  rw [hraw, if_pos]
  refine ⟨?_, may_valid hv⟩
  rw [List.all_eq_true]
  intro x hx
  obtain ⟨s, hs, rfl⟩ := List.mem_map.1 hx
  exact may_valid (kidsT_valid hv s hs)
set_option maxRecDepth 100000 in
set_option maxHeartbeats 1000000 in
theorem turnK_w {F : Fz} {w : World} (hF : Sat F w) (l : List Nd) (hn : l.length ≤ 1000) (A : Option Addr) (n c : Nat) (hc : n ≤ c) (hl : NodesF F A n l) {t : Tr} (ht : treeS l = some t) (hr : regS t.root.kind = true)
    (ks : List (List Nd)) (hks : ks.length = (kidsT t).length) (hsum : (ks.map List.length).sum ≤ 999)
    (hA : ∀ (q : Nat) (hq : q < ks.length) (hq2 : q < (kidsT t).length), if t.root.kind = 19 then ks[q] = (kidsT t)[q].flat 0 else
      ∀ G X, Sat G X → ∀ B m d, m ≤ d → NodesF G B m ((kidsT t)[q].flat 0) → Calls Try.prog 13 #[.slice B m d] X (RetN G X ks[q])) :
    Calls Try.prog 13 #[.slice A n c] w (RetN F w (joinL (rootN t) (if t.root.kind = 21 then ks.reverse else ks))) := by
  have hreg : regL l = true := by unfold regL; rw [ht]; exact hr
  have HR := Lib.hid (treg_w hF l hn A n c hl true hreg)
  have hP := fun (X : World) (G : Fz) (h : Sat G X) (hle : CLe F G) (k : Nat) (hk : k < l.length) => part_w h l hn A n c hc (hl.cle hle) (k : Int) (by omega) (by omega)
  obtain ⟨hl0, hlast⟩ := root_last ht
  have hkid := fun j hj => kid_part ht j hj
  have hkl := rootKids_len t
  have hrk : (rootN t).kind = t.root.kind := rfl
  rw [← hrk] at hA ⊢
  obtain ⟨hlen, hl2⟩ := hl
  obtain ⟨p, rfl⟩ : ∃ p, n = p + 1 := ⟨n - 1, by omega⟩
  obtain ⟨ad, rfl, hL⟩ := hl2 (by omega)
  obtain ⟨Ak, ck, hck0, hK, hd⟩ := hL (l.length - 1) (by omega)
  have hgl : l[l.length - 1]'(by omega) = rootN t := by rw [List.getElem?_eq_getElem (by omega)] at hlast; injection hlast
  rw [hgl] at hK hd
  have hpe : l.length - 1 = p := by omega
  rw [hpe] at hd
  generalize rootN t = nd at *
  obtain ⟨R, hR⟩ : ∃ R, R = joinL nd (if nd.kind = 21 then ks.reverse else ks) := ⟨_, rfl⟩
  rw [← hR]
  obtain ⟨kind, name, lo, hi', kids⟩ := nd
  dsimp only at hA hK hd hkl hR
  have HRES := Lib.hid hR
  have HA := Lib.hid hA
  have HP := Lib.hid hP
  have HKID := Lib.hid hkid
  have HKS := Lib.hid hks
  have HSUM := Lib.hid hsum
  have HKL := Lib.hid hkl
  have hk2 : kids.length ≤ 2 := by rw [hkl]; exact kidsT_len t
  clear hR hA hP hkid hks hsum hreg hr ht hkl hrk hlast hgl hL hpe hl0 hl2 hck0
  have HLEN := Lib.hid hlen
  go_enter Try.func13, Try.ntmps13
  go_wp2_with (go_at_call 18; refine HR.out.mono ?_; rintro e w1 ⟨rfl, hw1⟩; obtain ⟨c0, c1, c2, c3, c4⟩ := hd.sat (hF.below hw1); dsimp only at c0 c1 c2 c3 c4)
  have hb0 := bthen hw1 (balloc w1 (.cells #[.int .i64 kind, .string name, .int .i64 lo, .int .i64 hi', .slice Ak kids.length ck] 66))
  have hB0 := Blk.new w1 66 #[.int .i64 kind, .string name, .int .i64 lo, .int .i64 hi', .slice Ak kids.length ck]
  have hsz : (w1.alloc (.cells #[.int .i64 kind, .string name, .int .i64 lo, .int .i64 hi', .slice Ak kids.length ck] 66)).heap.size = w1.heap.size + 1 := by simp
  clear c0 c1 c2 c3 c4
  generalize w1.alloc (.cells #[.int .i64 kind, .string name, .int .i64 lo, .int .i64 hi', .slice Ak kids.length ck] 66) = W at *
  have hw1z := hw1.size
  go_loopw [4, 6, 7, 20] (fun v4 _ _ v20 wr => ∃ (j : Nat) (F' : Fz) (A4 : Option Addr) (n4 c4 : Nat), j ≤ kids.length ∧ v20 = .int .i64 j ∧ v4 = .slice A4 n4 c4 ∧ n4 ≤ c4 ∧ Hid (n4 = (ks.take j).length) ∧ OwnR F' wr (w1.heap.size + 1) (.slice A4 n4 c4) (ks.take j) ∧ Sat F' wr ∧ Fle w F F' ∧ Below W.heap.size W wr) (fun _ _ _ v20 _ => kids.length - (intOf v20).toNat)
  case atStart => exact ⟨0, F, none, 0, 0, Nat.zero_le _, rfl, rfl, Nat.le_refl _, Lib.hid rfl, OwnR.nil _ _ _, hF.below hb0, Fle.refl _ _, Below.refl _ _⟩
  case round =>
    obtain ⟨j, F', A4, n4, c4, hj, rfl, rfl, hc4, H4, hO, hF', hle, hbW⟩ := hrel
    have hbl := bthen hb0 hbW
    have hFr := hF.below hbl
    have hBr := hB0.call hbW
    have hzW := hbW.size
    obtain ⟨k0, k1, k2, k3, k4⟩ := blk5 hBr
    by_cases hlt : j < kids.length
    · have hjr : j < (kidsT t).length := by rw [← HKL.out]; exact hlt
      have hjk : j < ks.length := by rw [HKS.out]; exact hjr
      obtain ⟨k, hkk, hkl, hkp⟩ := HKID.out j hjr
      obtain ⟨Akd, v, rfl, hv, hcell⟩ := hK.at1 hlt
      have hv2 : Value.int .i64 (k : Int) = v := by
        rw [List.getElem?_map, hkk] at hv
        simpa using hv
      subst hv2
      have hcz := hFr.cell hcell
      have hjI : (j : Int) < (kids.length : Int) := by omega
      have hpart := HP.out wr F' hF' hle.cle k hkl
      rw [hkp] at hpart
      have htk : ks.take (j + 1) = ks.take j ++ [ks[j]] := List.take_succ_eq_append_getElem hjk
      have hA1 := HA.out j hjk hjr
      obtain ⟨kl, hkl2⟩ : ∃ kl, (kidsT t)[j].flat 0 = kl := ⟨_, rfl⟩
      rw [hkl2] at hpart hA1
      obtain ⟨r, hr⟩ : ∃ r, ks[j] = r := ⟨_, rfl⟩
      rw [hr] at hA1 htk
      have HTK := Lib.hid htk
      have HPA := Lib.hid hpart
      have hn4 : n4 ≤ 2 := by have := H4.out; simp at this; omega
      have H41 : Hid (n4 + 1 = (ks.take (j + 1)).length) := Lib.hid (by rw [htk, List.length_append, ← H4.out]; rfl)
      have hln : (ks.take j).length + 1 ≤ 1000000 := by rw [← H4.out]; omega
      clear htk hpart hr hkl2 hkk hkl hkp hv hcell
      by_cases h19 : kind = 19
      · have h19b : (kind != 19) = false := by rw [h19]; rfl
        rw [if_pos h19] at hA1
        subst hA1
        clear h19
        go_wp2_with (first
          | (go_at_call 21; refine HPA.out.mono ?_; rintro e w3 ⟨A3, c3, F3, rfl, hc3, hN3, hw3, hF3, hle3⟩; have hO3 := (hO.le hle3).call hw3; have hRN := rd_one (Blk.new w3 22 #[.slice A3 r.length c3]); have hB2 := hBr.call hw3; obtain ⟨m0, m1, m2, m3, m4⟩ := blk5 hB2)
          | (at_builtin; refine wpList_allR rfl (.tmp 32) (.tmp 34) rfl (hO3.alloc _) (hF3.alloc _) (by rfl) (some ⟨w3.heap.size, 0, none⟩) 1 1 [r] [.slice A3 r.length c3] (by rfl) (sat_heapF _) hRN (RowsV.one hc3 hN3) hln (by have := hw3.size; simp; omega) ?_; intro v5 w5 hO5 hF5 hb5 hg5 hat5))
        rw [← HTK.out] at hO5
        obtain ⟨A5, c5, e5, hc5⟩ := hO5.shape
        rw [← H41.out] at e5 hc5
        subst e5
        have hb5' : Below W.heap.size W w5 := ((bthen hbW hw3).trans ((balloc w3 _).mono (by have := hw3.size; omega))).trans (hb5.mono (by omega))
        go_roundw
        case rel => exact ⟨j + 1, F3, A5, n4 + 1, c5, by omega, by go_num, rfl, hc5, H41, hO5, hF5, hle.trans hle3 (by have := hbl.size; omega), hb5'⟩
        case measure => simp [intOf]; omega
      · have h19b : (kind != 19) = true := by rw [bne_iff_ne]; exact h19
        rw [if_neg h19] at hA1
        have HA1 := Lib.hid hA1
        clear h19 hA1
        go_wp2_with (first
          | (go_at_call 21; refine HPA.out.mono ?_; rintro e w2 ⟨A2, c2, F2, rfl, hc2, hN2, hw2, hF2, hle2⟩; have hB2 := hBr.call hw2; obtain ⟨m0, m1, m2, m3, m4⟩ := blk5 hB2)
          | (go_at_call 13; refine (HA1.out F2 w2 hF2 A2 kl.length c2 hc2 hN2).mono ?_; rintro e w3 ⟨A3, c3, F3, rfl, hc3, hN3, hw3, hF3, hle3⟩; have hO3 := (((hO.le hle2).call hw2).le hle3).call hw3; have hRN := rd_one (Blk.new w3 22 #[.slice A3 r.length c3]); have hw23 := bthen hw2 hw3)
          | (at_builtin; refine wpList_allR rfl (.tmp 32) (.tmp 34) rfl (hO3.alloc _) (hF3.alloc _) (by rfl) (some ⟨w3.heap.size, 0, none⟩) 1 1 [r] [.slice A3 r.length c3] (by rfl) (sat_heapF _) hRN (RowsV.one hc3 hN3) hln (by have := hw23.size; simp; omega) ?_; intro v5 w5 hO5 hF5 hb5 hg5 hat5))
        rw [← HTK.out] at hO5
        obtain ⟨A5, c5, e5, hc5⟩ := hO5.shape
        rw [← H41.out] at e5 hc5
        subst e5
        have hb5' : Below W.heap.size W w5 := ((bthen hbW hw23).trans ((balloc w3 _).mono (by have := hw23.size; omega))).trans (hb5.mono (by omega))
        go_roundw
        case rel => exact ⟨j + 1, F3, A5, n4 + 1, c5, by omega, by go_num, rfl, hc5, H41, hO5, hF5, (hle.trans hle2 (by have := hbl.size; omega)).trans hle3 (by have := hbl.size; have := hw2.size; omega), hb5'⟩
        case measure => simp [intOf]; omega
    · obtain rfl : j = kids.length := by omega
      have hdec : decide ((kids.length : Int) < (kids.length : Int)) = false := decide_eq_false (by omega)
      have htl : ks.take kids.length = ks := by rw [HKL.out, ← HKS.out, List.take_length]
      rw [htl] at hO H4
      clear htl
      have hn4 : n4 ≤ 2 := by rw [H4.out, HKS.out]; exact kidsT_len t
      have hks2 : ks.length ≤ 1000 := by rw [← H4.out]; omega
      have hz := hbl.size
      by_cases h21 : kind = 21
      · obtain ⟨xs, hO1, hV⟩ := hO
        have hrev := reverseR_w hO1 hF' (by omega) (by rw [← H4.out]; omega) hV.sliceV
        have HREV := Lib.hid hrev
        subst h21
        clear hrev hO1
        go_wp2_with (go_at_call 39; refine HREV.out.mono ?_; rintro e w3 ⟨rfl, hO3, hb3, hF3⟩; have hB3 : Blk w3 w1.heap.size 66 #[.int .i64 21, .string name, .int .i64 lo, .int .i64 hi', .slice Ak kids.length ck] := hBr.below hb3 (by omega); obtain ⟨m0, m1, m2, m3, m4⟩ := blk5 hB3)
        have hO4 : OwnR F' w3 (w1.heap.size + 1) (.slice A4 n4 c4) ks.reverse := ⟨_, by rw [List.length_reverse]; exact hO3, hV.reverse⟩
        obtain ⟨G, A9, c9, e9, hRN, hG, hGle⟩ := hO4.freezeN hF3 w (by omega)
        rw [List.length_reverse, ← H4.out] at e9
        injection e9 with e91 _ e93
        subst e91 e93
        rw [List.length_reverse, ← H4.out] at hRN
        have hbl3 := hbl.trans (hb3.mono (by omega))
        have hJ := join_w hG ⟨21, name, lo, hi', kids⟩ Ak kids.length ck ks.reverse (by rw [List.map_reverse, List.sum_reverse]; exact HSUM.out) (by rw [List.length_reverse]; exact hks2) A4 n4 c4 hRN
        have HJ := Lib.hid hJ
        clear hJ
        go_wp2_with (go_at_call 40; refine HJ.out.mono ?_; rintro e w5 ⟨A6, c6, F6, rfl, hc6, hN6, hw6, hF6, hle6⟩)
        go_ret
        have hfin := HRES.out
        rw [if_pos trivial] at hfin
        rw [hfin]
        exact ⟨A6, c6, F6, rfl, hc6, hN6, bthen hbl3 hw6, hF6, (hle.trans hGle (Nat.le_refl _)).trans hle6 hbl3.size⟩
      · have h21b : (kind == 21) = false := by rw [beq_eq_false_iff_ne]; exact h21
        obtain ⟨G, A9, c9, e9, hRN, hG, hGle⟩ := hO.freezeN hF' w (by omega)
        rw [← H4.out] at e9 hRN
        injection e9 with e91 _ e93
        subst e91 e93
        have hJ := join_w hG ⟨kind, name, lo, hi', kids⟩ Ak kids.length ck ks HSUM.out hks2 A4 n4 c4 hRN
        have HJ := Lib.hid hJ
        have H21 := Lib.hid h21
        clear hJ h21
        go_wp2_with (go_at_call 40; refine HJ.out.mono ?_; rintro e w5 ⟨A6, c6, F6, rfl, hc6, hN6, hw6, hF6, hle6⟩)
        go_ret
        have hfin := HRES.out
        rw [if_neg H21.out] at hfin
        rw [hfin]
        exact ⟨A6, c6, F6, rfl, hc6, hN6, bthen hbl hw6, hF6, (hle.trans hGle (Nat.le_refl _)).trans hle6 hbl.size⟩
/-- A kid's list turned round. -/
theorem turnL_flat {a : Tr} (hv : validT a = true) (hr : regS a.root.kind = true) : turnL (a.flat 0) = (turnT a).flat 0 := by
  obtain ⟨t', h1, h2, h3, h4, _⟩ := fold_flat a [] hv
  have e : treeS (a.flat 0) = some t' := by
    unfold treeS parseS
    rw [show (Tr.flat a 0) = Tr.flat a (total []) from rfl, h1]
  rw [(turn_yes e (by rw [h3]; exact hr)).1]
  exact flat_of_eq (eq_turn (eq_of_flat _ _ 0 (h4 0))) 0
theorem turn_w : ∀ (N : Nat) (l : List Nd), l.length ≤ N → l.length ≤ 1000 → ∀ (F : Fz) (w : World), Sat F w → ∀ (A : Option Addr) (n c : Nat), n ≤ c → NodesF F A n l →
    Calls Try.prog 13 #[.slice A n c] w (RetN F w (turnL l))
  | N, l, hN, hn, F, w, hF, A, n, c, hc, hl => by
    cases hreg : regL l with
    | false =>
      have HR := Lib.hid (treg_w hF l hn A n c hl false hreg)
      have HE := Lib.hid (turn_no hreg).1
      clear hreg hl hN hn
      go_enter Try.func13, Try.ntmps13
      go_wp2_with (go_at_call 18; refine HR.out.mono ?_; rintro e w1 ⟨rfl, hw⟩)
      go_ret
      rw [HE.out]
      exact retN_nil hw hF
    | true =>
      obtain ⟨t, ht, hr, _⟩ := ownS_yes hreg
      have hv := tree_valid ht
      have hV := regV_of hv hr
      have htl := tree_len ht
      have hsum : ∀ x : Tr, (x.flat 0).length = x.size := fun x => Tr.length_flat x 0
      cases N with
      | zero => have := t.size_pos; omega
      | succ N =>
        cases t with
        | leaf h =>
          have hk : h.kind = 18 := hV
          have hres : joinL (rootN (.leaf h)) (if (Tr.leaf h).root.kind = 21 then ([] : List (List Nd)).reverse else []) = turnL l := by
            rw [(turn_yes ht hr).1, ← join_turn ht, if_neg (by show ¬ h.kind = 21; omega)]
            rfl
          rw [← hres]
          exact turnK_w hF l hn A n c hc hl ht hr [] rfl (by simp) (fun q hq => by simp at hq)
        | un h a =>
          have hsz : a.size + 1 = l.length := by rw [htl]; rfl
          by_cases h19 : h.kind = 19
          · have hres : joinL (rootN (.un h a)) (if (Tr.un h a).root.kind = 21 then [a.flat 0].reverse else [a.flat 0]) = turnL l := by
              rw [(turn_yes ht hr).1, ← join_turn ht, if_neg (by show ¬ h.kind = 21; omega)]
              simp [turnT, h19, kidsT]
            rw [← hres]
            refine turnK_w hF l hn A n c hc hl ht hr [a.flat 0] rfl (by simp [hsum]; omega) (fun q hq hq2 => ?_)
            obtain rfl : q = 0 := by simpa using hq
            rw [if_pos (show (Tr.un h a).root.kind = 19 from h19)]
            rfl
          · obtain ⟨h22, hva⟩ := hV.elim (fun e => absurd e h19) id
            simp only [validT, Bool.and_eq_true] at hv
            have hra : regS a.root.kind = true := by
              have := hv.1.2
              simp only [beq_iff_eq] at this
              rw [this, h22]; rfl
            have hres : joinL (rootN (.un h a)) (if (Tr.un h a).root.kind = 21 then [turnL (a.flat 0)].reverse else [turnL (a.flat 0)]) = turnL l := by
              rw [(turn_yes ht hr).1, ← join_turn ht, if_neg (by show ¬ h.kind = 21; omega), turnL_flat hv.2 hra]
              simp [turnT, h19, kidsT]
            rw [← hres]
            have hle := turnL_len (a.flat 0)
            rw [hsum] at hle
            refine turnK_w hF l hn A n c hc hl ht hr [turnL (a.flat 0)] rfl (by simp; omega) (fun q hq hq2 => ?_)
            obtain rfl : q = 0 := by simpa using hq
            rw [if_neg (show ¬ (Tr.un h a).root.kind = 19 from h19)]
            intro G X hG B m d hm hB
            exact turn_w N (a.flat 0) (by rw [hsum]; omega) (by rw [hsum]; omega) G X hG B m d hm hB
        | bin h a b =>
          have hsz : a.size + b.size + 1 = l.length := by rw [htl]; rfl
          obtain ⟨hk, hva, hvb⟩ := hV
          simp only [validT, Bool.and_eq_true, beq_iff_eq] at hv
          have hw : wantsS h.kind = true := by rcases hk with e | e <;> rw [e] <;> rfl
          have hra : regS a.root.kind = true := by rw [hv.1.1.1.2, hw]
          have hrb : regS b.root.kind = true := by rw [hv.1.1.2, hw]
          have hres : joinL (rootN (.bin h a b)) (if (Tr.bin h a b).root.kind = 21 then [turnL (a.flat 0), turnL (b.flat 0)].reverse else [turnL (a.flat 0), turnL (b.flat 0)]) = turnL l := by
            rw [(turn_yes ht hr).1, ← join_turn ht, turnL_flat hv.1.2 hra, turnL_flat hv.2 hrb]
            by_cases h21 : h.kind = 21
            · simp [turnT, h21, kidsT, Tr.root]
            · simp [turnT, h21, kidsT, Tr.root]
          rw [← hres]
          have hla := turnL_len (a.flat 0)
          have hlb := turnL_len (b.flat 0)
          rw [hsum] at hla hlb
          refine turnK_w hF l hn A n c hc hl ht hr [turnL (a.flat 0), turnL (b.flat 0)] rfl (by simp; omega) (fun q hq hq2 => ?_)
          rw [if_neg (show ¬ (Tr.bin h a b).root.kind = 19 from by show ¬ h.kind = 19; omega)]
          intro G X hG B m d hm hB
          rcases (show q = 0 ∨ q = 1 by simp at hq; omega) with rfl | rfl
          · exact turn_w N (a.flat 0) (by rw [hsum]; omega) (by rw [hsum]; omega) G X hG B m d hm hB
          · exact turn_w N (b.flat 0) (by rw [hsum]; omega) (by rw [hsum]; omega) G X hG B m d hm hB
end Go.Proofs.Ytedeppgipciblaa
