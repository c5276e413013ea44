/- The walks of EqualFunc, tree.Same, and of the reference's SameNodes. -/
import Derived.Test.YtkffofolhckjeaaEq
namespace Go.Proofs.Ytkffofolhckjeaa
open Go.RowKit

theorem take_same_nd {xs ys : List Nd} {k : Nat} (h : xs.take k = ys.take k) (hx : k < xs.length) (hy : k < ys.length) (e : xs[k] = ys[k]) : xs.take (k + 1) = ys.take (k + 1) := by
  rw [List.take_succ_eq_append_getElem hx, List.take_succ_eq_append_getElem hy, h, e]
theorem equalFunc_w {F : Fz} {w : World} (hF : Sat F w) (xs ys : List Nd) (A B : Option Addr) (n n' c d : Nat) (hn : xs.length ≤ 1000) (hx : NodesF F A n xs) (hy : NodesF F B n' ys) (hkids : ∀ x ∈ xs, x.kids.length ≤ 1000) (r : Bool) (hr : r = true ↔ xs = ys) :
    Calls Try.prog 73 #[.slice A n c, .slice B n' d, .func (.func 74) #[] #[]] w fun e w' => e = .returned (.bool r) ∧ Below w.heap.size w w' := by
  obtain ⟨rfl, hX⟩ := hx
  obtain ⟨rfl, hY⟩ := hy
  by_cases hl : xs.length = ys.length
  · have hne : ((xs.length : Int) != (ys.length : Int)) = false := by rw [hl]; simp
    have HL := Lib.hid hl
    clear hl
    go_enter Try.func73, Try.ntmps73
    go_wp2_with fail
    go_loopw [7, 8, 9, 17] (fun _ _ _ i wr => ∃ k : Nat, k ≤ xs.length ∧ i = .int .i64 k ∧ Hid (xs.take k = ys.take k) ∧ Below w.heap.size w wr) (fun _ _ _ i _ => xs.length - (intOf i).toNat)
    case atStart => exact ⟨0, Nat.zero_le _, rfl, Lib.hid rfl, Below.refl _ _⟩
    case round =>
      obtain ⟨k, hk, rfl, HS, hb⟩ := hrel
      by_cases hlt : k < xs.length
      · have hlt' : k < ys.length := by have := HL.out; omega
        obtain ⟨ad, rfl, hLx⟩ := hX (by omega)
        obtain ⟨bd, rfl, hLy⟩ := hY (by omega)
        obtain ⟨Ak, ck, _, hKa, hda⟩ := hLx k hlt
        obtain ⟨Bk, dk, _, hKb, hdb⟩ := hLy k hlt'
        have hFr := hF.below hb
        obtain ⟨c0, c1, c2, c3, c4⟩ := hda.sat hFr
        obtain ⟨d0, d1, d2, d3, d4⟩ := (hdb.sat (hFr.alloc (.cells #[.int .i64 xs[k].kind, .string xs[k].name, .int .i64 xs[k].lo, .int .i64 xs[k].hi, .slice Ak xs[k].kids.length ck] 57)))
        have hkk := hkids xs[k] (List.getElem_mem hlt)
        have hI : (k : Int) < (ys.length : Int) := by omega
        have hI' : (k : Int) < (xs.length : Int) := by omega
        have hE := fun (W : World) (h : Sat F W) (r : Bool) (hr : ndB xs[k] ys[k] = r) => alike_w h xs[k] ys[k] Ak Bk ck dk hkk hKa hKb r hr
        cases hnd : ndB xs[k] ys[k]
        · have hne2 : xs[k] ≠ ys[k] := fun e => by rw [(ndB_iff _ _).2 e] at hnd; cases hnd
          have HR : Hid (r = false) := Lib.hid (by
            cases r with
            | false => rfl
            | true => exact absurd (by have := hr.1 rfl; subst this; rfl) hne2)
          have HE := Lib.hid (fun W h => hE W h _ hnd)
          clear hE hnd hne2 hda hdb hkk
          generalize xs[k] = xk at *
          generalize ys[k] = yk at *
          go_wp2_with (go_at_call 74; refine (HE.out _ ((hFr.alloc _).alloc _)).mono ?_; rintro e w1 ⟨rfl, hw1⟩)
          go_ret
          exact ⟨by rw [HR.out] <;> rfl, bthen hb (bthen (bthen (balloc _ _) (balloc _ _)) hw1)⟩
        · have HS2 := Lib.hid (take_same_nd HS.out hlt hlt' ((ndB_iff _ _).1 hnd))
          have HE := Lib.hid (fun W h => hE W h _ hnd)
          clear hE hnd hda hdb hkk
          generalize xs[k] = xk at *
          generalize ys[k] = yk at *
          go_wp2_with (go_at_call 74; refine (HE.out _ ((hFr.alloc _).alloc _)).mono ?_; rintro e w1 ⟨rfl, hw1⟩)
          go_roundw
          case rel => exact ⟨k + 1, by omega, by go_num, HS2, bthen hb (bthen (bthen (balloc _ _) (balloc _ _)) hw1)⟩
          case measure => simp [intOf] <;> omega
      · have HR : Hid (r = true) := Lib.hid (hr.2 (by
          have h1 := HS.out
          have h2 := HL.out
          rwa [List.take_of_length_le (by omega), List.take_of_length_le (by omega)] at h1))
        have hltI : decide ((k : Int) < (xs.length : Int)) = false := decide_eq_false (by omega)
        go_wp2_with fail
        go_ret
        exact ⟨by rw [HR.out] <;> rfl, hb⟩
  · have hne : ((xs.length : Int) != (ys.length : Int)) = true := by rw [bne_iff_ne]; omega
    have HR : Hid (r = false) := Lib.hid (by
      cases r with
      | false => rfl
      | true => exact absurd (by rw [hr.1 rfl]) hl)
    go_enter Try.func73, Try.ntmps73
    go_wp2_with fail
    go_ret
    exact ⟨by rw [HR.out] <;> rfl, Below.refl _ _⟩
theorem kids_le_two {l : List Nd} (h : (treeS l).isSome = true) : ∀ x ∈ l, x.kids.length ≤ 2 := by
  obtain ⟨t, ht⟩ := Option.isSome_iff_exists.1 h
  rw [tree_flat ht]
  generalize 0 = o
  clear h ht
  induction t generalizing o with
  | leaf h => intro x hx; simp [Tr.flat] at hx; simp [hx]
  | un h a ih =>
    intro x hx
    simp only [Tr.flat, List.mem_append, List.mem_singleton] at hx
    rcases hx with hx | hx
    · exact ih _ x hx
    · simp [hx]
  | bin h a b ih ih2 =>
    intro x hx
    simp only [Tr.flat, List.mem_append, List.mem_singleton] at hx
    rcases hx with (hx | hx) | hx
    · exact ih _ x hx
    · exact ih2 _ x hx
    · simp [hx]
theorem same_w {F : Fz} {w : World} (hF : Sat F w) (xs ys : List Nd) (A B : Option Addr) (n n' c d : Nat) (hn : xs.length ≤ 1000) (hx : NodesF F A n xs) (hy : NodesF F B n' ys) (r : Bool) (hr : r = true ↔ mayS xs = true ∧ xs = ys) :
    Calls Try.prog 46 #[.slice A n c, .slice B n' d] w fun e w' => e = .returned (.bool r) ∧ Below w.heap.size w w' := by
  cases hm : mayS xs
  · have HM := Lib.hid (may_w hF xs hn A n c hx _ hm)
    have HR : Hid (r = false) := Lib.hid (by
      cases r with
      | false => rfl
      | true => have := (hr.1 rfl).1; rw [hm] at this; cases this)
    clear hm hr
    go_enter Try.func46, Try.ntmps46
    go_wp2_with (go_at_call 58; refine HM.out.mono ?_; rintro e w' ⟨rfl, hw⟩)
    go_ret
    exact ⟨by rw [HR.out] <;> rfl, hw⟩
  · have HM := Lib.hid (may_w hF xs hn A n c hx _ hm)
    have HE := Lib.hid (fun (w' : World) (h : Sat F w') => equalFunc_w h xs ys A B n n' c d hn hx hy (fun x hx => by have := kids_le_two hm x hx; omega) r (by rw [hr]; exact ⟨fun h => h.2, fun h => ⟨hm, h⟩⟩))
    clear hm hr
    go_enter Try.func46, Try.ntmps46
    go_wp2_with (first | (go_at_call 58; refine HM.out.mono ?_; rintro e w' ⟨rfl, hw⟩) | (go_at_call 73; refine (HE.out _ (hF.below hw)).mono ?_; rintro e w'' ⟨rfl, hw2⟩))
    go_ret
    exact ⟨rfl, bthen hw hw2⟩
end Go.Proofs.Ytkffofolhckjeaa
