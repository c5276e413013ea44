/- The walk of the reference's SameNodes. -/
import Derived.Test.YtkffofolhckjeaaEq2
namespace Go.Proofs.Ytkffofolhckjeaa
open Go.RowKit
attribute [local go_sem ↓] span_eq

theorem below_drew {B : Nat} {a w : World} (h : Below B a w) : Below B a w.drew := ⟨h.os, h.tape, h.output, h.size, h.block⟩
set_option maxRecDepth 100000 in
set_option maxHeartbeats 4000000 in
theorem sameNodes_w {F : Fz} {w : World} (hF : Sat F w) (xs ys : List Nd) (A B : Option Addr) (n n' c d : Nat) (hn : xs.length ≤ 100000) (hx : NodesF F A n xs) (hy : NodesF F B n' ys) (hkids : ∀ x ∈ xs, x.kids.length ≤ 1000) (r : Bool) (hr : r = true ↔ xs = ys) :
    Calls Try.prog 43 #[.slice A n c, .slice B n' d] w fun e w' => e = .returned (.bool r) ∧ Below w.heap.size w w' := by
  obtain ⟨rfl, hX⟩ := hx
  obtain ⟨rfl, hY⟩ := hy
  by_cases hl : xs.length = ys.length
  · have hne : ((xs.length : Int) != (ys.length : Int)) = false := by rw [hl]; simp
    have HL := Lib.hid hl
    clear hl
    go_enter Try.func43, Try.ntmps43
    go_wp2_with fail
    go_loopw [5, 6, 7, 15] (fun _ _ _ i wr => ∃ k : Nat, k ≤ xs.length ∧ i = .int .i64 k ∧ Hid (xs.take k = ys.take k) ∧ Below w.heap.size w wr) (fun _ _ _ i _ => xs.length - (intOf i).toNat)
    case atStart => exact ⟨0, Nat.zero_le _, rfl, Lib.hid rfl, Below.refl _ _⟩
    case round =>
      obtain ⟨k, hk, rfl, HS, hb⟩ := hrel
      by_cases hlt : k < xs.length
      · have hlt' : k < ys.length := by have := HL.out; omega
        obtain ⟨ad, rfl, hLx⟩ := hX (by omega)
        obtain ⟨bd, rfl, hLy⟩ := hY (by omega)
        obtain ⟨Ak, ck, _, hKa, hda⟩ := hLx k hlt
        obtain ⟨Bk, dk, _, hKb, hdb⟩ := hLy k hlt'
        have hFr := hF.below hb
        obtain ⟨c0, c1, c2, c3, c4⟩ := hda.sat hFr
        obtain ⟨d0, d1, d2, d3, d4⟩ := hdb.sat hFr
        have hla := hFr.clt hda.1
        have hlb := hFr.clt hdb.1
        have hI : (k : Int) < (ys.length : Int) := by omega
        have hI' : (k : Int) < (xs.length : Int) := by omega
        have hkk := hkids xs[k] (List.getElem_mem hlt)
        have hE := fun (W : World) (h : Sat F W) => equalInts_w h xs[k].kids ys[k].kids Ak Bk _ _ ck dk (by omega) hKa hKb
        have hyes : ndB xs[k] ys[k] = true → xs.take (k + 1) = ys.take (k + 1) := fun h => take_same_nd HS.out hlt hlt' ((ndB_iff _ _).1 h)
        have hno : ndB xs[k] ys[k] = false → r = false := fun h => by
          cases r with
          | false => rfl
          | true =>
            have e := hr.1 rfl
            have e' : xs[k] = ys[k] := by subst e; rfl
            rw [(ndB_iff _ _).2 e'] at h
            cases h
        have hND : ndB xs[k] ys[k] = (xs[k].kind == ys[k].kind && eqS xs[k].name ys[k].name && spEq xs[k].lo xs[k].hi ys[k].lo ys[k].hi && decide (xs[k].kids = ys[k].kids)) := rfl
        clear hda hdb hkk
        generalize xs[k] = xk at *
        generalize ys[k] = yk at *
        cases h1 : (xk.kind == yk.kind)
        · have h1' : (xk.kind != yk.kind) = true := by rw [bne, h1]; rfl
          have HR := Lib.hid (hno (by rw [hND, h1]; rfl))
          clear hyes hno hND hE
          go_wp2_with fail
          go_region
          all_goals
            go_wp2_with fail
            go_ret
            exact ⟨by rw [HR.out] <;> rfl, bthen hb (below_drew (bthen (balloc _ _) (balloc _ _)))⟩
        · have h1' : (xk.kind != yk.kind) = false := by rw [bne, h1]; rfl
          cases h2 : (xk.name.toList == yk.name.toList)
          · have h2' : eqS xk.name yk.name = false := h2
            have HR := Lib.hid (hno (by rw [hND, h1, h2']; rfl))
            clear hyes hno hND hE h2'
            go_wp2_with fail
            go_region
            all_goals
              go_wp2_with fail
              go_ret
              exact ⟨by rw [HR.out] <;> rfl, bthen hb (below_drew (bthen (balloc _ _) (balloc _ _)))⟩
          · have h2' : eqS xk.name yk.name = true := h2
            cases h3 : spEq xk.lo xk.hi yk.lo yk.hi
            · have HR := Lib.hid (hno (by rw [hND, h1, h2', h3]; rfl))
              clear hyes hno hND hE h2'
              go_wp2_with fail
              go_region
              all_goals
                go_wp2_with fail
                go_ret
                exact ⟨by rw [HR.out] <;> rfl, bthen hb (below_drew (bthen (balloc _ _) (balloc _ _)))⟩
            · have hND' : ndB xk yk = decide (xk.kids = yk.kids) := by rw [hND, h1, h2', h3]; rfl
              rw [hND'] at hyes hno
              have HE := Lib.hid hE
              clear hND hND' hE h2'
              generalize decide (xk.kids = yk.kids) = dk2 at *
              cases dk2
              · have HR := Lib.hid (hno rfl)
                clear hyes hno
                go_wp2_with fail
                go_region
                all_goals
                  go_wp2_with (go_at_call 69; refine (HE.out _ ((hFr.alloc _).alloc _).drew).mono ?_; rintro e w1 ⟨rfl, q, rfl⟩)
                  go_ret
                  exact ⟨by rw [HR.out] <;> rfl, bthen hb (below_drewN (bthen (balloc _ _) (balloc _ _)) _)⟩
              · have HS2 := Lib.hid (hyes rfl)
                clear hyes hno
                go_wp2_with fail
                go_region
                all_goals
                  go_wp2_with (go_at_call 69; refine (HE.out _ ((hFr.alloc _).alloc _).drew).mono ?_; rintro e w1 ⟨rfl, q, rfl⟩)
                  go_roundw
                  case rel => exact ⟨k + 1, by omega, by go_num, HS2, bthen hb (below_drewN (bthen (balloc _ _) (balloc _ _)) _)⟩
                  case measure => simp [intOf] <;> omega
      · have HR : Hid (r = true) := Lib.hid (hr.2 (by
          have h1 := HS.out
          have h2 := HL.out
          rwa [List.take_of_length_le (by omega), List.take_of_length_le (by omega)] at h1))
        have hltI : decide ((k : Int) < (xs.length : Int)) = false := decide_eq_false (by omega)
        go_wp2_with fail
        go_ret
        exact ⟨by rw [HR.out] <;> rfl, hb⟩
  · have hne : ((xs.length : Int) != (ys.length : Int)) = true := by rw [bne_iff_ne]; omega
    have HR : Hid (r = false) := Lib.hid (by
      cases r with
      | false => rfl
      | true => exact absurd (by rw [hr.1 rfl]) hl)
    go_enter Try.func43, Try.ntmps43
    go_wp2_with fail
    go_ret
    exact ⟨by rw [HR.out] <;> rfl, Below.refl _ _⟩
end Go.Proofs.Ytkffofolhckjeaa
