/- The walks of slices.Equal on ints, alike, EqualFunc, tree.Same, and of the reference's SameNodes. -/
import Derived.Test.YtkffofolhckjeaaMay
namespace Go.Proofs.Ytkffofolhckjeaa
open Go.RowKit

theorem take_sameI {xs ys : List Int} {k : Nat} (h : xs.take k = ys.take k) (hx : k < xs.length) (hy : k < ys.length) (e : xs[k] = ys[k]) : xs.take (k + 1) = ys.take (k + 1) := by
  rw [List.take_succ_eq_append_getElem hx, List.take_succ_eq_append_getElem hy, h, e]
theorem equalInts_w {F : Fz} {w : World} (hF : Sat F w) (fs gs : List Int) (A B : Option Addr) (n n' c d : Nat) (hn : fs.length ≤ 100000) (hf : Rd F 1 A n (fs.map (Value.int .i64))) (hg : Rd F 1 B n' (gs.map (Value.int .i64))) :
    Calls Try.prog 69 #[.slice A n c, .slice B n' d] w fun e w' => e = .returned (.bool (decide (fs = gs))) ∧ ∃ q, w' = w.drewN q := by
  obtain rfl := rdS_len hf
  obtain rfl := rdS_len hg
  by_cases hl : fs.length = gs.length
  · have hne : ((fs.length : Int) != (gs.length : Int)) = false := by rw [hl]; simp
    have HL := Lib.hid hl
    clear hl
    go_enter Try.func69, Try.ntmps69
    go_wp2
    go_loopw [13] (fun i wr => ∃ k : Nat, k ≤ fs.length ∧ i = .int .i64 k ∧ fs.take k = gs.take k ∧ ∃ q, wr = w.drewN q) (fun i _ => fs.length - (intOf i).toNat)
    case atStart => exact ⟨0, Nat.zero_le _, rfl, rfl, 0, rfl⟩
    case round =>
      obtain ⟨k, hk, rfl, hsame, q, rfl⟩ := hrel
      have HS := Lib.hid hsame
      clear hsame
      by_cases hlt : k < fs.length
      · have hlt' : k < gs.length := by have := HL.out; omega
        obtain ⟨ad, v, rfl, hv, hcell⟩ := hf.at1 hlt
        obtain ⟨bd, v', rfl, hv', hcell'⟩ := hg.at1 hlt'
        obtain rfl : Value.int .i64 fs[k] = v := by simpa [hlt] using hv
        obtain rfl : Value.int .i64 gs[k] = v' := by simpa [hlt'] using hv'
        have hc := hF.cell hcell
        have hc' := hF.cell hcell'
        clear hv hv' hcell hcell'
        have hI : (k : Int) < (gs.length : Int) := by omega
        by_cases he : fs[k] = gs[k]
        · have hee : (fs[k] != gs[k]) = false := by rw [he]; simp
          have HE := Lib.hid he
          clear he
          go_wp2
          go_quiet (fail)
          go_wp2
          go_roundw
          case rel => exact ⟨k + 1, by omega, by go_num, take_sameI HS.out hlt hlt' HE.out, _, rfl⟩
          case measure => simp [intOf]; omega
        · have hee : (fs[k] != gs[k]) = true := by rw [bne_iff_ne]; exact he
          have hfin : decide (fs = gs) = false := decide_eq_false (fun e => he (by subst e; rfl))
          have HFin := Lib.hid hfin
          clear he hfin
          go_wp2
          go_quiet (fail)
          go_wp2
          go_ret
          exact ⟨by rw [HFin.out]; rfl, _, World.drewN_drewN _ _ _⟩
      · have hfin : decide (fs = gs) = true := by
          have h1 := HS.out
          have h2 := HL.out
          rw [List.take_of_length_le (by omega), List.take_of_length_le (by omega)] at h1
          exact decide_eq_true h1
        have HFin := Lib.hid hfin
        clear hfin
        have hltI : decide ((k : Int) < (fs.length : Int)) = false := decide_eq_false (by omega)
        go_wp2
        go_ret
        exact ⟨by rw [HFin.out]; rfl, _, rfl⟩
  · have hne : ((fs.length : Int) != (gs.length : Int)) = true := by rw [bne_iff_ne]; omega
    have HFin := Lib.hid (show decide (fs = gs) = false from decide_eq_false (fun e => hl (by rw [e])))
    go_enter Try.func69, Try.ntmps69
    go_wp2
    go_ret
    exact ⟨by rw [HFin.out]; rfl, 0, rfl⟩
/-- Are two nodes alike? -/
def ndB (a b : Nd) : Bool := a.kind == b.kind && eqS a.name b.name && spEq a.lo a.hi b.lo b.hi && decide (a.kids = b.kids)
theorem ndB_iff (a b : Nd) : ndB a b = true ↔ a = b := by
  unfold ndB spEq
  obtain ⟨k, n, lo, hi, ks⟩ := a
  obtain ⟨k', n', lo', hi', ks'⟩ := b
  simp only [Bool.and_eq_true, beq_iff_eq, eqS_iff, decide_eq_true_eq, Nd.mk.injEq]
  constructor
  · rintro ⟨⟨⟨h1, h2⟩, h3, h4⟩, h5⟩; exact ⟨h1, h2, h3, h4, h5⟩
  · rintro ⟨h1, h2, h3, h4, h5⟩; exact ⟨⟨⟨h1, h2⟩, h3, h4⟩, h5⟩
attribute [local go_sem ↓] span_eq
theorem alike_w {F : Fz} {w : World} (hF : Sat F w) (a b : Nd) (A B : Option Addr) (c d : Nat) (hk : a.kids.length ≤ 1000) (ha : Rd F 1 A a.kids.length (a.kids.map (Value.int .i64))) (hb : Rd F 1 B b.kids.length (b.kids.map (Value.int .i64))) (r : Bool) (hr : ndB a b = r) :
    Calls Try.prog 74 #[.agg #[.int .i64 a.kind, .string a.name, .int .i64 a.lo, .int .i64 a.hi, .slice A a.kids.length c], .agg #[.int .i64 b.kind, .string b.name, .int .i64 b.lo, .int .i64 b.hi, .slice B b.kids.length d]] w
      fun e w' => e = .returned (.bool r) ∧ Below w.heap.size w w' := by
  obtain ⟨k, n, lo, hi, ks⟩ := a
  obtain ⟨k', n', lo', hi', ks'⟩ := b
  dsimp only at ha hb hk ⊢
  have hE := fun (W : World) (h : Sat F W) => equalInts_w h ks ks' A B _ _ c d (by omega) ha hb
  have hR : r = (k == k' && eqS n n' && spEq lo hi lo' hi' && decide (ks = ks')) := hr.symm
  clear hr
  cases h1 : (k == k')
  · rw [h1] at hR
    have HR := Lib.hid hR
    clear hR
    go_enter Try.func74, Try.ntmps74
    go_wp2_with fail
    go_ret
    exact ⟨by rw [HR.out] <;> rfl, (balloc _ _).alloc (by simp) _⟩
  · rw [h1, Bool.true_and] at hR
    cases h2 : (n.toList == n'.toList)
    · have h2' : eqS n n' = false := h2
      rw [h2', Bool.false_and] at hR
      have HR := Lib.hid hR
      clear hR h2'
      go_enter Try.func74, Try.ntmps74
      go_wp2_with fail
      go_ret
      exact ⟨by rw [HR.out] <;> rfl, (balloc _ _).alloc (by simp) _⟩
    · have h2' : eqS n n' = true := h2
      rw [h2', Bool.true_and] at hR
      cases h3 : spEq lo hi lo' hi'
      · rw [h3, Bool.false_and] at hR
        have HR := Lib.hid hR
        clear hR h2'
        go_enter Try.func74, Try.ntmps74
        go_wp2_with fail
        go_ret
        exact ⟨by rw [HR.out] <;> rfl, (balloc _ _).alloc (by simp) _⟩
      · rw [h3, Bool.true_and] at hR
        have HR := Lib.hid hR
        have HE := Lib.hid hE
        clear hR h2' hE
        go_enter Try.func74, Try.ntmps74
        go_wp2_with (go_at_call 69; refine (HE.out _ ((hF.alloc _).alloc _)).mono ?_; rintro e w1 ⟨rfl, q, rfl⟩)
        go_ret
        exact ⟨by rw [HR.out] <;> rfl, below_drewN ((balloc _ _).alloc (by simp) _) q⟩
end Go.Proofs.Ytkffofolhckjeaa
