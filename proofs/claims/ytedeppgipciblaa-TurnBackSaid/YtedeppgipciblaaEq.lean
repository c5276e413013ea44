/- The walks of slices.Equal on ints, alike, EqualFunc, tree.Same, and of the reference's SameNodes. -/
import Derived.Test.YtedeppgipciblaaMay
set_option linter.unusedVariables false
set_option linter.unusedSimpArgs false
/-! The walks of slices.Equal on ints, alike, EqualFunc, tree.Same, and of the reference's SameNodes. -/
namespace Go.Proofs.Ytedeppgipciblaa
open Go.RowKit

theorem take_sameI {xs ys : List Int} {k : Nat} (h : xs.take k = ys.take k) (hx : k < xs.length) (hy : k < ys.length) (e : xs[k] = ys[k]) : xs.take (k + 1) = ys.take (k + 1) := by
  rw [List.take_succ_eq_append_getElem hx, List.take_succ_eq_append_getElem hy, h, e]
theorem equalInts_w {F : Fz} {w : World} (hF : Sat F w) (fs gs : List Int) (A B : Option Addr) (n n' c d : Nat) (hn : fs.length ≤ 100000) (hf : Rd F 1 A n (fs.map (Value.int .i64))) (hg : Rd F 1 B n' (gs.map (Value.int .i64))) :
    Calls Try.prog 14 #[.slice A n c, .slice B n' d] w fun e w' => e = .returned (.bool (decide (fs = gs))) ∧ ∃ q, w' = w.drewN q := by
  obtain rfl := rdS_len hf
  obtain rfl := rdS_len hg
  by_cases hl : fs.length = gs.length
  · have hne : ((fs.length : Int) != (gs.length : Int)) = false := by rw [hl]; simp
    have HL := Lib.hid hl
    clear hl
    go_enter Try.func14, Try.ntmps14
    go_wp2
    go_loopw [13] (fun i wr => ∃ k : Nat, k ≤ fs.length ∧ i = .int .i64 k ∧ fs.take k = gs.take k ∧ ∃ q, wr = w.drewN q) (fun i _ => fs.length - (intOf i).toNat)
    case atStart => exact ⟨0, Nat.zero_le _, rfl, rfl, 0, rfl⟩
    case round =>
      obtain ⟨k, hk, rfl, hsame, q, rfl⟩ := hrel
      have HS := Lib.hid hsame
      clear hsame
      by_cases hlt : k < fs.length
      · have hlt' : k < gs.length := by have := HL.out; omega
        obtain ⟨ad, v, rfl, hv, hcell⟩ := hf.at1 hlt
        obtain ⟨bd, v', rfl, hv', hcell'⟩ := hg.at1 hlt'
        obtain rfl : Value.int .i64 fs[k] = v := by simpa [hlt] using hv
        obtain rfl : Value.int .i64 gs[k] = v' := by simpa [hlt'] using hv'
        have hc := hF.cell hcell
        have hc' := hF.cell hcell'
        clear hv hv' hcell hcell'
        have hI : (k : Int) < (gs.length : Int) := by omega
        by_cases he : fs[k] = gs[k]
        · have hee : (fs[k] != gs[k]) = false := by rw [he]; simp
          have HE := Lib.hid he
          clear he
          go_wp2
          go_quiet (fail)
          go_wp2
          go_roundw
          case rel => exact ⟨k + 1, by omega, by go_num, take_sameI HS.out hlt hlt' HE.out, _, rfl⟩
          case measure => simp [intOf]; omega
        · have hee : (fs[k] != gs[k]) = true := by rw [bne_iff_ne]; exact he
          have hfin : decide (fs = gs) = false := decide_eq_false (fun e => he (by subst e; rfl))
          have HFin := Lib.hid hfin
          clear he hfin
          go_wp2
          go_quiet (fail)
          go_wp2
          go_ret
          exact ⟨by rw [HFin.out]; rfl, _, World.drewN_drewN _ _ _⟩
      · have hfin : decide (fs = gs) = true := by
          have h1 := HS.out
          have h2 := HL.out
          rw [List.take_of_length_le (by omega), List.take_of_length_le (by omega)] at h1
          exact decide_eq_true h1
        have HFin := Lib.hid hfin
        clear hfin
        have hltI : decide ((k : Int) < (fs.length : Int)) = false := decide_eq_false (by omega)
        go_wp2
        go_ret
        exact ⟨by rw [HFin.out]; rfl, _, rfl⟩
  · have hne : ((fs.length : Int) != (gs.length : Int)) = true := by rw [bne_iff_ne]; omega
    have HFin := Lib.hid (show decide (fs = gs) = false from decide_eq_false (fun e => hl (by rw [e])))
    go_enter Try.func14, Try.ntmps14
    go_wp2
    go_ret
    exact ⟨by rw [HFin.out]; rfl, 0, rfl⟩
/-- Are two nodes alike? -/
def ndB (a b : Nd) : Bool := a.kind == b.kind && eqS a.name b.name && spEq a.lo a.hi b.lo b.hi && decide (a.kids = b.kids)
theorem ndB_iff (a b : Nd) : ndB a b = true ↔ a = b := by
  unfold ndB spEq
  obtain ⟨k, n, lo, hi, ks⟩ := a
  obtain ⟨k', n', lo', hi', ks'⟩ := b
  simp only [Bool.and_eq_true, beq_iff_eq, eqS_iff, decide_eq_true_eq, Nd.mk.injEq]
  constructor
  · rintro ⟨⟨⟨h1, h2⟩, h3, h4⟩, h5⟩; exact ⟨h1, h2, h3, h4, h5⟩
  · rintro ⟨h1, h2, h3, h4, h5⟩; exact ⟨⟨⟨h1, h2⟩, h3, h4⟩, h5⟩
attribute [local go_sem ↓] span_eq
theorem alike_w {F : Fz} {w : World} (hF : Sat F w) (a b : Nd) (A B : Option Addr) (c d : Nat) (hk : a.kids.length ≤ 1000) (ha : Rd F 1 A a.kids.length (a.kids.map (Value.int .i64))) (hb : Rd F 1 B b.kids.length (b.kids.map (Value.int .i64))) (r : Bool) (hr : ndB a b = r) :
    Calls Try.prog 47 #[.agg #[.int .i64 a.kind, .string a.name, .int .i64 a.lo, .int .i64 a.hi, .slice A a.kids.length c], .agg #[.int .i64 b.kind, .string b.name, .int .i64 b.lo, .int .i64 b.hi, .slice B b.kids.length d]] w
      fun e w' => e = .returned (.bool r) ∧ Below w.heap.size w w' := by
  obtain ⟨k, n, lo, hi, ks⟩ := a
  obtain ⟨k', n', lo', hi', ks'⟩ := b
  dsimp only at ha hb hk ⊢
  have hE := fun (W : World) (h : Sat F W) => equalInts_w h ks ks' A B _ _ c d (by omega) ha hb
  have hR : r = (k == k' && eqS n n' && spEq lo hi lo' hi' && decide (ks = ks')) := hr.symm
  clear hr
  cases h1 : (k == k')
  · rw [h1] at hR
    have HR := Lib.hid hR
    clear hR
    go_enter Try.func47, Try.ntmps47
    go_wp2_with fail
    go_ret
    exact ⟨by rw [HR.out] <;> rfl, (balloc _ _).alloc (by simp) _⟩
  · rw [h1, Bool.true_and] at hR
    cases h2 : (n.toList == n'.toList)
    · have h2' : eqS n n' = false := h2
      rw [h2', Bool.false_and] at hR
      have HR := Lib.hid hR
      clear hR h2'
      go_enter Try.func47, Try.ntmps47
      go_wp2_with fail
      go_ret
      exact ⟨by rw [HR.out] <;> rfl, (balloc _ _).alloc (by simp) _⟩
    · have h2' : eqS n n' = true := h2
      rw [h2', Bool.true_and] at hR
      cases h3 : spEq lo hi lo' hi'
      · rw [h3, Bool.false_and] at hR
        have HR := Lib.hid hR
        clear hR h2'
        go_enter Try.func47, Try.ntmps47
        go_wp2_with fail
        go_ret
        exact ⟨by rw [HR.out] <;> rfl, (balloc _ _).alloc (by simp) _⟩
      · rw [h3, Bool.true_and] at hR
        have HR := Lib.hid hR
        have HE := Lib.hid hE
        clear hR h2' hE
        go_enter Try.func47, Try.ntmps47
        go_wp2_with (go_at_call 14; refine (HE.out _ ((hF.alloc _).alloc _)).mono ?_; rintro e w1 ⟨rfl, q, rfl⟩)
        go_ret
        exact ⟨by rw [HR.out] <;> rfl, below_drewN ((balloc _ _).alloc (by simp) _) q⟩
end Go.Proofs.Ytedeppgipciblaa
/-! The walks of EqualFunc, tree.Same, and of the reference's SameNodes. -/
namespace Go.Proofs.Ytedeppgipciblaa
open Go.RowKit

theorem take_same_nd {xs ys : List Nd} {k : Nat} (h : xs.take k = ys.take k) (hx : k < xs.length) (hy : k < ys.length) (e : xs[k] = ys[k]) : xs.take (k + 1) = ys.take (k + 1) := by
  rw [List.take_succ_eq_append_getElem hx, List.take_succ_eq_append_getElem hy, h, e]
theorem equalFunc_w {F : Fz} {w : World} (hF : Sat F w) (xs ys : List Nd) (A B : Option Addr) (n n' c d : Nat) (hn : xs.length ≤ 1000) (hx : NodesF F A n xs) (hy : NodesF F B n' ys) (hkids : ∀ x ∈ xs, x.kids.length ≤ 1000) (r : Bool) (hr : r = true ↔ xs = ys) :
    Calls Try.prog 46 #[.slice A n c, .slice B n' d, .func (.func 47) #[] #[]] w fun e w' => e = .returned (.bool r) ∧ Below w.heap.size w w' := by
  obtain ⟨rfl, hX⟩ := hx
  obtain ⟨rfl, hY⟩ := hy
  by_cases hl : xs.length = ys.length
  · have hne : ((xs.length : Int) != (ys.length : Int)) = false := by rw [hl]; simp
    have HL := Lib.hid hl
    clear hl
    go_enter Try.func46, Try.ntmps46
    go_wp2_with fail
    go_loopw [7, 8, 9, 17] (fun _ _ _ i wr => ∃ k : Nat, k ≤ xs.length ∧ i = .int .i64 k ∧ Hid (xs.take k = ys.take k) ∧ Below w.heap.size w wr) (fun _ _ _ i _ => xs.length - (intOf i).toNat)
    case atStart => exact ⟨0, Nat.zero_le _, rfl, Lib.hid rfl, Below.refl _ _⟩
    case round =>
      obtain ⟨k, hk, rfl, HS, hb⟩ := hrel
      by_cases hlt : k < xs.length
      · have hlt' : k < ys.length := by have := HL.out; omega
        obtain ⟨ad, rfl, hLx⟩ := hX (by omega)
        obtain ⟨bd, rfl, hLy⟩ := hY (by omega)
        obtain ⟨Ak, ck, _, hKa, hda⟩ := hLx k hlt
        obtain ⟨Bk, dk, _, hKb, hdb⟩ := hLy k hlt'
        have hFr := hF.below hb
        obtain ⟨c0, c1, c2, c3, c4⟩ := hda.sat hFr
        obtain ⟨d0, d1, d2, d3, d4⟩ := (hdb.sat (hFr.alloc (.cells #[.int .i64 xs[k].kind, .string xs[k].name, .int .i64 xs[k].lo, .int .i64 xs[k].hi, .slice Ak xs[k].kids.length ck] 66)))
        have hkk := hkids xs[k] (List.getElem_mem hlt)
        have hI : (k : Int) < (ys.length : Int) := by omega
        have hI' : (k : Int) < (xs.length : Int) := by omega
        have hE := fun (W : World) (h : Sat F W) (r : Bool) (hr : ndB xs[k] ys[k] = r) => alike_w h xs[k] ys[k] Ak Bk ck dk hkk hKa hKb r hr
        cases hnd : ndB xs[k] ys[k]
        · have hne2 : xs[k] ≠ ys[k] := fun e => by rw [(ndB_iff _ _).2 e] at hnd; cases hnd
          have HR : Hid (r = false) := Lib.hid (by
            cases r with
            | false => rfl
            | true => exact absurd (by have := hr.1 rfl; subst this; rfl) hne2)
          have HE := Lib.hid (fun W h => hE W h _ hnd)
          clear hE hnd hne2 hda hdb hkk
          generalize xs[k] = xk at *
          generalize ys[k] = yk at *
          go_wp2_with (go_at_call 47; refine (HE.out _ ((hFr.alloc _).alloc _)).mono ?_; rintro e w1 ⟨rfl, hw1⟩)
          go_ret
          exact ⟨by rw [HR.out] <;> rfl, bthen hb (bthen (bthen (balloc _ _) (balloc _ _)) hw1)⟩
        · have HS2 := Lib.hid (take_same_nd HS.out hlt hlt' ((ndB_iff _ _).1 hnd))
          have HE := Lib.hid (fun W h => hE W h _ hnd)
          clear hE hnd hda hdb hkk
          generalize xs[k] = xk at *
          generalize ys[k] = yk at *
          go_wp2_with (go_at_call 47; refine (HE.out _ ((hFr.alloc _).alloc _)).mono ?_; rintro e w1 ⟨rfl, hw1⟩)
          go_roundw
          case rel => exact ⟨k + 1, by omega, by go_num, HS2, bthen hb (bthen (bthen (balloc _ _) (balloc _ _)) hw1)⟩
          case measure => simp [intOf] <;> omega
      · have HR : Hid (r = true) := Lib.hid (hr.2 (by
          have h1 := HS.out
          have h2 := HL.out
          rwa [List.take_of_length_le (by omega), List.take_of_length_le (by omega)] at h1))
        have hltI : decide ((k : Int) < (xs.length : Int)) = false := decide_eq_false (by omega)
        go_wp2_with fail
        go_ret
        exact ⟨by rw [HR.out] <;> rfl, hb⟩
  · have hne : ((xs.length : Int) != (ys.length : Int)) = true := by rw [bne_iff_ne]; omega
    have HR : Hid (r = false) := Lib.hid (by
      cases r with
      | false => rfl
      | true => exact absurd (by rw [hr.1 rfl]) hl)
    go_enter Try.func46, Try.ntmps46
    go_wp2_with fail
    go_ret
    exact ⟨by rw [HR.out] <;> rfl, Below.refl _ _⟩
theorem kids_le_two {l : List Nd} (h : (treeS l).isSome = true) : ∀ x ∈ l, x.kids.length ≤ 2 := by
  obtain ⟨t, ht⟩ := Option.isSome_iff_exists.1 h
  rw [tree_flat ht]
  generalize 0 = o
  clear h ht
  induction t generalizing o with
  | leaf h => intro x hx; simp [Tr.flat] at hx; simp [hx]
  | un h a ih =>
    intro x hx
    simp only [Tr.flat, List.mem_append, List.mem_singleton] at hx
    rcases hx with hx | hx
    · exact ih _ x hx
    · simp [hx]
  | bin h a b ih ih2 =>
    intro x hx
    simp only [Tr.flat, List.mem_append, List.mem_singleton] at hx
    rcases hx with (hx | hx) | hx
    · exact ih _ x hx
    · exact ih2 _ x hx
    · simp [hx]
theorem same_w {F : Fz} {w : World} (hF : Sat F w) (xs ys : List Nd) (A B : Option Addr) (n n' c d : Nat) (hn : xs.length ≤ 1000) (hx : NodesF F A n xs) (hy : NodesF F B n' ys) (r : Bool) (hr : r = true ↔ mayS xs = true ∧ xs = ys) :
    Calls Try.prog 20 #[.slice A n c, .slice B n' d] w fun e w' => e = .returned (.bool r) ∧ Below w.heap.size w w' := by
  cases hm : mayS xs
  · have HM := Lib.hid (may_w hF xs hn A n c hx _ hm)
    have HR : Hid (r = false) := Lib.hid (by
      cases r with
      | false => rfl
      | true => have := (hr.1 rfl).1; rw [hm] at this; cases this)
    clear hm hr
    go_enter Try.func20, Try.ntmps20
    go_wp2_with (go_at_call 44; refine HM.out.mono ?_; rintro e w' ⟨rfl, hw⟩)
    go_ret
    exact ⟨by rw [HR.out] <;> rfl, hw⟩
  · have HM := Lib.hid (may_w hF xs hn A n c hx _ hm)
    have HE := Lib.hid (fun (w' : World) (h : Sat F w') => equalFunc_w h xs ys A B n n' c d hn hx hy (fun x hx => by have := kids_le_two hm x hx; omega) r (by rw [hr]; exact ⟨fun h => h.2, fun h => ⟨hm, h⟩⟩))
    clear hm hr
    go_enter Try.func20, Try.ntmps20
    go_wp2_with (first | (go_at_call 44; refine HM.out.mono ?_; rintro e w' ⟨rfl, hw⟩) | (go_at_call 46; refine (HE.out _ (hF.below hw)).mono ?_; rintro e w'' ⟨rfl, hw2⟩))
    go_ret
    exact ⟨rfl, bthen hw hw2⟩
end Go.Proofs.Ytedeppgipciblaa
/-! The walk of the reference's SameNodes. -/
namespace Go.Proofs.Ytedeppgipciblaa
open Go.RowKit
attribute [local go_sem ↓] span_eq

theorem below_drew {B : Nat} {a w : World} (h : Below B a w) : Below B a w.drew := ⟨h.os, h.tape, h.output, h.size, h.block⟩
set_option maxRecDepth 100000 in
set_option maxHeartbeats 4000000 in
theorem sameNodes_w {F : Fz} {w : World} (hF : Sat F w) (xs ys : List Nd) (A B : Option Addr) (n n' c d : Nat) (hn : xs.length ≤ 100000) (hx : NodesF F A n xs) (hy : NodesF F B n' ys) (hkids : ∀ x ∈ xs, x.kids.length ≤ 1000) (r : Bool) (hr : r = true ↔ xs = ys) :
    Calls Try.prog 12 #[.slice A n c, .slice B n' d] w fun e w' => e = .returned (.bool r) ∧ Below w.heap.size w w' := by
  obtain ⟨rfl, hX⟩ := hx
  obtain ⟨rfl, hY⟩ := hy
  by_cases hl : xs.length = ys.length
  · have hne : ((xs.length : Int) != (ys.length : Int)) = false := by rw [hl]; simp
    have HL := Lib.hid hl
    clear hl
    go_enter Try.func12, Try.ntmps12
    go_wp2_with fail
    go_loopw [5, 6, 7, 15] (fun _ _ _ i wr => ∃ k : Nat, k ≤ xs.length ∧ i = .int .i64 k ∧ Hid (xs.take k = ys.take k) ∧ Below w.heap.size w wr) (fun _ _ _ i _ => xs.length - (intOf i).toNat)
    case atStart => exact ⟨0, Nat.zero_le _, rfl, Lib.hid rfl, Below.refl _ _⟩
    case round =>
      obtain ⟨k, hk, rfl, HS, hb⟩ := hrel
      by_cases hlt : k < xs.length
      · have hlt' : k < ys.length := by have := HL.out; omega
        obtain ⟨ad, rfl, hLx⟩ := hX (by omega)
        obtain ⟨bd, rfl, hLy⟩ := hY (by omega)
        obtain ⟨Ak, ck, _, hKa, hda⟩ := hLx k hlt
        obtain ⟨Bk, dk, _, hKb, hdb⟩ := hLy k hlt'
        have hFr := hF.below hb
        obtain ⟨c0, c1, c2, c3, c4⟩ := hda.sat hFr
        obtain ⟨d0, d1, d2, d3, d4⟩ := hdb.sat hFr
        have hla := hFr.clt hda.1
        have hlb := hFr.clt hdb.1
        have hI : (k : Int) < (ys.length : Int) := by omega
        have hI' : (k : Int) < (xs.length : Int) := by omega
        have hkk := hkids xs[k] (List.getElem_mem hlt)
        have hE := fun (W : World) (h : Sat F W) => equalInts_w h xs[k].kids ys[k].kids Ak Bk _ _ ck dk (by omega) hKa hKb
        have hyes : ndB xs[k] ys[k] = true → xs.take (k + 1) = ys.take (k + 1) := fun h => take_same_nd HS.out hlt hlt' ((ndB_iff _ _).1 h)
        have hno : ndB xs[k] ys[k] = false → r = false := fun h => by
          cases r with
          | false => rfl
          | true =>
            have e := hr.1 rfl
            have e' : xs[k] = ys[k] := by subst e; rfl
            rw [(ndB_iff _ _).2 e'] at h
            cases h
        have hND : ndB xs[k] ys[k] = (xs[k].kind == ys[k].kind && eqS xs[k].name ys[k].name && spEq xs[k].lo xs[k].hi ys[k].lo ys[k].hi && decide (xs[k].kids = ys[k].kids)) := rfl
        clear hda hdb hkk
        generalize xs[k] = xk at *
        generalize ys[k] = yk at *
        cases h1 : (xk.kind == yk.kind)
        · have h1' : (xk.kind != yk.kind) = true := by rw [bne, h1]; rfl
          have HR := Lib.hid (hno (by rw [hND, h1]; rfl))
          clear hyes hno hND hE
          go_wp2_with fail
          go_region
          all_goals
            go_wp2_with fail
            go_ret
            exact ⟨by rw [HR.out] <;> rfl, bthen hb (below_drew (bthen (balloc _ _) (balloc _ _)))⟩
        · have h1' : (xk.kind != yk.kind) = false := by rw [bne, h1]; rfl
          cases h2 : (xk.name.toList == yk.name.toList)
          · have h2' : eqS xk.name yk.name = false := h2
            have HR := Lib.hid (hno (by rw [hND, h1, h2']; rfl))
            clear hyes hno hND hE h2'
            go_wp2_with fail
            go_region
            all_goals
              go_wp2_with fail
              go_ret
              exact ⟨by rw [HR.out] <;> rfl, bthen hb (below_drew (bthen (balloc _ _) (balloc _ _)))⟩
          · have h2' : eqS xk.name yk.name = true := h2
            cases h3 : spEq xk.lo xk.hi yk.lo yk.hi
            · have HR := Lib.hid (hno (by rw [hND, h1, h2', h3]; rfl))
              clear hyes hno hND hE h2'
              go_wp2_with fail
              go_region
              all_goals
                go_wp2_with fail
                go_ret
                exact ⟨by rw [HR.out] <;> rfl, bthen hb (below_drew (bthen (balloc _ _) (balloc _ _)))⟩
            · have hND' : ndB xk yk = decide (xk.kids = yk.kids) := by rw [hND, h1, h2', h3]; rfl
              rw [hND'] at hyes hno
              have HE := Lib.hid hE
              clear hND hND' hE h2'
              generalize decide (xk.kids = yk.kids) = dk2 at *
              cases dk2
              · have HR := Lib.hid (hno rfl)
                clear hyes hno
                go_wp2_with fail
                go_region
                all_goals
                  go_wp2_with (go_at_call 14; refine (HE.out _ ((hFr.alloc _).alloc _).drew).mono ?_; rintro e w1 ⟨rfl, q, rfl⟩)
                  go_ret
                  exact ⟨by rw [HR.out] <;> rfl, bthen hb (below_drewN (bthen (balloc _ _) (balloc _ _)) _)⟩
              · have HS2 := Lib.hid (hyes rfl)
                clear hyes hno
                go_wp2_with fail
                go_region
                all_goals
                  go_wp2_with (go_at_call 14; refine (HE.out _ ((hFr.alloc _).alloc _).drew).mono ?_; rintro e w1 ⟨rfl, q, rfl⟩)
                  go_roundw
                  case rel => exact ⟨k + 1, by omega, by go_num, HS2, bthen hb (below_drewN (bthen (balloc _ _) (balloc _ _)) _)⟩
                  case measure => simp [intOf] <;> omega
      · have HR : Hid (r = true) := Lib.hid (hr.2 (by
          have h1 := HS.out
          have h2 := HL.out
          rwa [List.take_of_length_le (by omega), List.take_of_length_le (by omega)] at h1))
        have hltI : decide ((k : Int) < (xs.length : Int)) = false := decide_eq_false (by omega)
        go_wp2_with fail
        go_ret
        exact ⟨by rw [HR.out] <;> rfl, hb⟩
  · have hne : ((xs.length : Int) != (ys.length : Int)) = true := by rw [bne_iff_ne]; omega
    have HR : Hid (r = false) := Lib.hid (by
      cases r with
      | false => rfl
      | true => exact absurd (by rw [hr.1 rfl]) hl)
    go_enter Try.func12, Try.ntmps12
    go_wp2_with fail
    go_ret
    exact ⟨by rw [HR.out] <;> rfl, Below.refl _ _⟩
end Go.Proofs.Ytedeppgipciblaa
