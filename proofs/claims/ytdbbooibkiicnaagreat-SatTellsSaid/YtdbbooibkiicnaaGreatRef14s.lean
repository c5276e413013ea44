/- The reference's holds of layer 14, by kinds. -/
import Derived.Test.YtdbbooibkiicnaaGreatRef8
import Derived.Test.YtdbbooibkiicnaaGreatRef14P
import Derived.Test.YtdbbooibkiicnaaGreatHand
set_option linter.unusedVariables false
set_option linter.unusedSimpArgs false
namespace Go.Proofs.YtdbbooibkiicnaaGreat
open Go.RowKit
attribute [local go_sem ↓] Go.wp_at_zero Go.wp_at_succ
/-- A trace that may be, as it lies in memory. -/
structure RefT (F : Fz) (ss : List ByteArray) (es : List Evt) (An : Option Addr) (nn cn : Nat) (Ae : Option Addr) (ne ce : Nat) : Prop where
  hcn : nn ≤ cn
  hnn : nn ≤ 1000000
  nm : Rd F 1 An nn (ss.map Value.string)
  ev : EvsF F Ae ne es
  ids : ∀ e ∈ es, e.ids.length ≤ 1000000000
  ne1 : ne ≤ 1000
  may : mayT ss es = true
theorem RefT.cle {F F' : Fz} {ss : List ByteArray} {es : List Evt} {An : Option Addr} {nn cn : Nat} {Ae : Option Addr} {ne ce : Nat} (h : RefT F ss es An nn cn Ae ne ce) (hle : CLe F F') : RefT F' ss es An nn cn Ae ne ce :=
  ⟨h.hcn, h.hnn, h.nm.cle hle, h.ev.cle hle, h.ids, h.ne1, h.may⟩
theorem gapE_lt {F : Fz} {A : Option Addr} {n : Nat} {es : List Evt} (h : EvsF F A n es) {i j : Nat} (hi : i < n) (hj : j < n) : gapE es i j < 18446744073709551616 := by
  have h1 := (h.at_ hi).1
  have h2 := (h.at_ hj).1
  unfold gapE
  omega
theorem fromB_snoc (p : Nat → Bool) : ∀ (m i : Nat), fromB p (m + 1) i = (fromB p m i && p (i + m))
  | 0, i => by simp [fromB]
  | m + 1, i => by
    rw [fromB, fromB_snoc p m (i + 1), fromB, Bool.and_assoc, show i + 1 + m = i + (m + 1) by omega]
section
variable {F : Fz} {w : World} {ss : List ByteArray} {es : List Evt} {An : Option Addr} {nn cn : Nat} {Ae : Option Addr} {ne ce : Nat}
set_option maxRecDepth 100000 in
set_option maxHeartbeats 2000000 in
theorem rholds1_w (hF : Sat F w) (hT : RefT F ss es An nn cn Ae ne ce) (name : ByteArray) (lo hi : Int) (Ak : Option Addr) (nk ck : Nat) (A : Option Addr) (na ca : Nat) (B : Option Addr) (nb cb : Nat) (i : Nat) (hi' : i < ne) :
    Calls Tryz.prog 117 #[.agg #[.slice An nn cn, .slice Ae ne ce], .agg #[.int .i64 1, .string name, .int .i64 lo, .int .i64 hi, .slice Ak nk ck], .int .i64 (i : Nat), .int .i64 (ne : Nat), .slice A na ca, .slice B nb cb] w fun e w' => e = .returned (.bool (true)) ∧ Below w.heap.size w w' := by
  obtain ⟨gt, hgt⟩ : ∃ gt, gt = w.heap.size := ⟨_, rfl⟩
  obtain ⟨W, hW⟩ : ∃ W, W = (w.alloc (.cells #[.slice An nn cn, .slice Ae ne ce] 43)).alloc (.cells #[.int .i64 1, .string name, .int .i64 lo, .int .i64 hi, .slice Ak nk ck] 62) := ⟨_, rfl⟩
  have HBT : Hid (Blk W gt 43 #[.slice An nn cn, .slice Ae ne ce]) := Lib.hid (by rw [hW, hgt]; exact (Blk.new _ _ _).alloc _)
  have HBX : Hid (Blk W (gt + 1) 62 #[.int .i64 1, .string name, .int .i64 lo, .int .i64 hi, .slice Ak nk ck]) := Lib.hid (by rw [hW, hgt]; exact Blk.new2 _ _ _ _)
  have hbW : Below w.heap.size w W := by rw [hW]; exact (balloc _ _).alloc (by simp) _
  have HBW := Lib.hid hbW
  have HFW := Lib.hid (hF.below hbW)
  have HW := Lib.hid hW
  have HG := Lib.hid hgt
  have hneb := hT.ne1
  have hiI : (i : Int) < (ne : Int) := by omega
  have h0 := hbW
  clear hW hgt hbW hF hT
  go_enter Tryz.func117, Tryz.ntmps117
  go_wp2_with fail
  go_ret
  exact ⟨rfl, by first | (rw [← HW.out]; exact h0) | (have := HW.out ▸ h0; exact this)⟩
set_option maxRecDepth 100000 in
set_option maxHeartbeats 2000000 in
theorem rholds2_w (hF : Sat F w) (hT : RefT F ss es An nn cn Ae ne ce) (name : ByteArray) (lo hi : Int) (Ak : Option Addr) (nk ck : Nat) (A : Option Addr) (na ca : Nat) (B : Option Addr) (nb cb : Nat) (i : Nat) (hi' : i < ne) :
    Calls Tryz.prog 117 #[.agg #[.slice An nn cn, .slice Ae ne ce], .agg #[.int .i64 2, .string name, .int .i64 lo, .int .i64 hi, .slice Ak nk ck], .int .i64 (i : Nat), .int .i64 (ne : Nat), .slice A na ca, .slice B nb cb] w fun e w' => e = .returned (.bool (false)) ∧ Below w.heap.size w w' := by
  obtain ⟨gt, hgt⟩ : ∃ gt, gt = w.heap.size := ⟨_, rfl⟩
  obtain ⟨W, hW⟩ : ∃ W, W = (w.alloc (.cells #[.slice An nn cn, .slice Ae ne ce] 43)).alloc (.cells #[.int .i64 2, .string name, .int .i64 lo, .int .i64 hi, .slice Ak nk ck] 62) := ⟨_, rfl⟩
  have HBT : Hid (Blk W gt 43 #[.slice An nn cn, .slice Ae ne ce]) := Lib.hid (by rw [hW, hgt]; exact (Blk.new _ _ _).alloc _)
  have HBX : Hid (Blk W (gt + 1) 62 #[.int .i64 2, .string name, .int .i64 lo, .int .i64 hi, .slice Ak nk ck]) := Lib.hid (by rw [hW, hgt]; exact Blk.new2 _ _ _ _)
  have hbW : Below w.heap.size w W := by rw [hW]; exact (balloc _ _).alloc (by simp) _
  have HBW := Lib.hid hbW
  have HFW := Lib.hid (hF.below hbW)
  have HW := Lib.hid hW
  have HG := Lib.hid hgt
  have hneb := hT.ne1
  have hiI : (i : Int) < (ne : Int) := by omega
  have h0 := hbW
  clear hW hgt hbW hF hT
  go_enter Tryz.func117, Tryz.ntmps117
  go_wp2_with fail
  go_ret
  exact ⟨rfl, by first | (rw [← HW.out]; exact h0) | (have := HW.out ▸ h0; exact this)⟩
set_option maxRecDepth 100000 in
set_option maxHeartbeats 2000000 in
theorem rholds3_w (hF : Sat F w) (hT : RefT F ss es An nn cn Ae ne ce) (name : ByteArray) (lo hi : Int) (Ak : Option Addr) (nk ck : Nat) (A : Option Addr) (na ca : Nat) (B : Option Addr) (nb cb : Nat) (i : Nat) (hi' : i < ne) :
    Calls Tryz.prog 117 #[.agg #[.slice An nn cn, .slice Ae ne ce], .agg #[.int .i64 3, .string name, .int .i64 lo, .int .i64 hi, .slice Ak nk ck], .int .i64 (i : Nat), .int .i64 (ne : Nat), .slice A na ca, .slice B nb cb] w fun e w' => e = .returned (.bool (holdsT ss es i name)) ∧ Below w.heap.size w w' := by
  obtain ⟨gt, hgt⟩ : ∃ gt, gt = w.heap.size := ⟨_, rfl⟩
  obtain ⟨W, hW⟩ : ∃ W, W = (w.alloc (.cells #[.slice An nn cn, .slice Ae ne ce] 43)).alloc (.cells #[.int .i64 3, .string name, .int .i64 lo, .int .i64 hi, .slice Ak nk ck] 62) := ⟨_, rfl⟩
  have HBT : Hid (Blk W gt 43 #[.slice An nn cn, .slice Ae ne ce]) := Lib.hid (by rw [hW, hgt]; exact (Blk.new _ _ _).alloc _)
  have HBX : Hid (Blk W (gt + 1) 62 #[.int .i64 3, .string name, .int .i64 lo, .int .i64 hi, .slice Ak nk ck]) := Lib.hid (by rw [hW, hgt]; exact Blk.new2 _ _ _ _)
  have hbW : Below w.heap.size w W := by rw [hW]; exact (balloc _ _).alloc (by simp) _
  have HBW := Lib.hid hbW
  have HFW := Lib.hid (hF.below hbW)
  have HW := Lib.hid hW
  have HG := Lib.hid hgt
  have hneb := hT.ne1
  have hiI : (i : Int) < (ne : Int) := by omega
  have HH := Lib.hid (holdsR8_w HFW.out ss es An nn cn hT.hcn hT.hnn hT.nm Ae ne ce (by omega) hT.ev hT.ids hT.may i hi' name _ rfl)
  obtain ⟨R, hR⟩ : ∃ R, holdsT ss es i name = R := ⟨_, rfl⟩
  rw [hR] at HH
  rw [hR]
  clear hW hgt hbW hF hT hR
  go_enter Tryz.func117, Tryz.ntmps117
  go_wp2_with fail
  rw [← HW.out, ← HG.out]
  go_at_call 135
  refine HH.out.mono ?_
  rintro e w1 ⟨rfl, hw1⟩
  go_wp2_with fail
  go_ret
  exact ⟨rfl, bthen HBW.out hw1⟩
set_option maxRecDepth 100000 in
set_option maxHeartbeats 2000000 in
theorem rholds4_w (hF : Sat F w) (hT : RefT F ss es An nn cn Ae ne ce) (name : ByteArray) (lo hi : Int) (Ak : Option Addr) (nk ck : Nat) (g c : Nat) (v : Nat → Bool) (hv : ∀ j, j < ne → F.cell ⟨g, j, none⟩ = some (.bool (v j))) (B : Option Addr) (nb cb : Nat) (i : Nat) (hi' : i < ne) :
    Calls Tryz.prog 117 #[.agg #[.slice An nn cn, .slice Ae ne ce], .agg #[.int .i64 4, .string name, .int .i64 lo, .int .i64 hi, .slice Ak nk ck], .int .i64 (i : Nat), .int .i64 (ne : Nat), .slice (some ⟨g, 0, none⟩) ne c, .slice B nb cb] w fun e w' => e = .returned (.bool (!v i)) ∧ Below w.heap.size w w' := by
  obtain ⟨gt, hgt⟩ : ∃ gt, gt = w.heap.size := ⟨_, rfl⟩
  obtain ⟨W, hW⟩ : ∃ W, W = (w.alloc (.cells #[.slice An nn cn, .slice Ae ne ce] 43)).alloc (.cells #[.int .i64 4, .string name, .int .i64 lo, .int .i64 hi, .slice Ak nk ck] 62) := ⟨_, rfl⟩
  have HBT : Hid (Blk W gt 43 #[.slice An nn cn, .slice Ae ne ce]) := Lib.hid (by rw [hW, hgt]; exact (Blk.new _ _ _).alloc _)
  have HBX : Hid (Blk W (gt + 1) 62 #[.int .i64 4, .string name, .int .i64 lo, .int .i64 hi, .slice Ak nk ck]) := Lib.hid (by rw [hW, hgt]; exact Blk.new2 _ _ _ _)
  have hbW : Below w.heap.size w W := by rw [hW]; exact (balloc _ _).alloc (by simp) _
  have HBW := Lib.hid hbW
  have HFW := Lib.hid (hF.below hbW)
  have HW := Lib.hid hW
  have HG := Lib.hid hgt
  have hneb := hT.ne1
  have hiI : (i : Int) < (ne : Int) := by omega
  have hc0 := HFW.out.cell (hv i hi')
  obtain ⟨x, hx⟩ : ∃ x, v i = x := ⟨_, rfl⟩
  rw [hx] at hc0
  rw [hx]
  have h0 := hbW
  rw [hW] at hc0 h0
  clear hW hgt hbW hF hT hx hv
  go_enter Tryz.func117, Tryz.ntmps117
  go_wp2_with fail
  go_ret
  exact ⟨by cases x <;> rfl, h0⟩
set_option maxRecDepth 100000 in
set_option maxHeartbeats 2000000 in
theorem rholds5_w (hF : Sat F w) (hT : RefT F ss es An nn cn Ae ne ce) (name : ByteArray) (lo hi : Int) (Ak : Option Addr) (nk ck : Nat) (g c : Nat) (v : Nat → Bool) (hv : ∀ j, j < ne → F.cell ⟨g, j, none⟩ = some (.bool (v j))) (gb cb : Nat) (u : Nat → Bool) (hu : ∀ j, j < ne → F.cell ⟨gb, j, none⟩ = some (.bool (u j))) (i : Nat) (hi' : i < ne) :
    Calls Tryz.prog 117 #[.agg #[.slice An nn cn, .slice Ae ne ce], .agg #[.int .i64 5, .string name, .int .i64 lo, .int .i64 hi, .slice Ak nk ck], .int .i64 (i : Nat), .int .i64 (ne : Nat), .slice (some ⟨g, 0, none⟩) ne c, .slice (some ⟨gb, 0, none⟩) ne cb] w fun e w' => e = .returned (.bool (v i && u i)) ∧ Below w.heap.size w w' := by
  obtain ⟨gt, hgt⟩ : ∃ gt, gt = w.heap.size := ⟨_, rfl⟩
  obtain ⟨W, hW⟩ : ∃ W, W = (w.alloc (.cells #[.slice An nn cn, .slice Ae ne ce] 43)).alloc (.cells #[.int .i64 5, .string name, .int .i64 lo, .int .i64 hi, .slice Ak nk ck] 62) := ⟨_, rfl⟩
  have HBT : Hid (Blk W gt 43 #[.slice An nn cn, .slice Ae ne ce]) := Lib.hid (by rw [hW, hgt]; exact (Blk.new _ _ _).alloc _)
  have HBX : Hid (Blk W (gt + 1) 62 #[.int .i64 5, .string name, .int .i64 lo, .int .i64 hi, .slice Ak nk ck]) := Lib.hid (by rw [hW, hgt]; exact Blk.new2 _ _ _ _)
  have hbW : Below w.heap.size w W := by rw [hW]; exact (balloc _ _).alloc (by simp) _
  have HBW := Lib.hid hbW
  have HFW := Lib.hid (hF.below hbW)
  have HW := Lib.hid hW
  have HG := Lib.hid hgt
  have hneb := hT.ne1
  have hiI : (i : Int) < (ne : Int) := by omega
  have hc0 := HFW.out.cell (hv i hi')
  have hc1 := HFW.out.cell (hu i hi')
  obtain ⟨x, hx⟩ : ∃ x, v i = x := ⟨_, rfl⟩
  obtain ⟨y, hy⟩ : ∃ y, u i = y := ⟨_, rfl⟩
  rw [hx] at hc0
  rw [hx]
  rw [hy] at hc1
  rw [hy]
  have h0 := hbW
  rw [hW] at hc0 hc1 h0
  clear hW hgt hbW hF hT hx hy hv hu
  cases x <;> cases y
  all_goals
    go_enter Tryz.func117, Tryz.ntmps117
    go_wp2_with fail
    go_ret
    exact ⟨rfl, h0⟩
set_option maxRecDepth 100000 in
set_option maxHeartbeats 2000000 in
theorem rholds6_w (hF : Sat F w) (hT : RefT F ss es An nn cn Ae ne ce) (name : ByteArray) (lo hi : Int) (Ak : Option Addr) (nk ck : Nat) (g c : Nat) (v : Nat → Bool) (hv : ∀ j, j < ne → F.cell ⟨g, j, none⟩ = some (.bool (v j))) (gb cb : Nat) (u : Nat → Bool) (hu : ∀ j, j < ne → F.cell ⟨gb, j, none⟩ = some (.bool (u j))) (i : Nat) (hi' : i < ne) :
    Calls Tryz.prog 117 #[.agg #[.slice An nn cn, .slice Ae ne ce], .agg #[.int .i64 6, .string name, .int .i64 lo, .int .i64 hi, .slice Ak nk ck], .int .i64 (i : Nat), .int .i64 (ne : Nat), .slice (some ⟨g, 0, none⟩) ne c, .slice (some ⟨gb, 0, none⟩) ne cb] w fun e w' => e = .returned (.bool (v i || u i)) ∧ Below w.heap.size w w' := by
  obtain ⟨gt, hgt⟩ : ∃ gt, gt = w.heap.size := ⟨_, rfl⟩
  obtain ⟨W, hW⟩ : ∃ W, W = (w.alloc (.cells #[.slice An nn cn, .slice Ae ne ce] 43)).alloc (.cells #[.int .i64 6, .string name, .int .i64 lo, .int .i64 hi, .slice Ak nk ck] 62) := ⟨_, rfl⟩
  have HBT : Hid (Blk W gt 43 #[.slice An nn cn, .slice Ae ne ce]) := Lib.hid (by rw [hW, hgt]; exact (Blk.new _ _ _).alloc _)
  have HBX : Hid (Blk W (gt + 1) 62 #[.int .i64 6, .string name, .int .i64 lo, .int .i64 hi, .slice Ak nk ck]) := Lib.hid (by rw [hW, hgt]; exact Blk.new2 _ _ _ _)
  have hbW : Below w.heap.size w W := by rw [hW]; exact (balloc _ _).alloc (by simp) _
  have HBW := Lib.hid hbW
  have HFW := Lib.hid (hF.below hbW)
  have HW := Lib.hid hW
  have HG := Lib.hid hgt
  have hneb := hT.ne1
  have hiI : (i : Int) < (ne : Int) := by omega
  have hc0 := HFW.out.cell (hv i hi')
  have hc1 := HFW.out.cell (hu i hi')
  obtain ⟨x, hx⟩ : ∃ x, v i = x := ⟨_, rfl⟩
  obtain ⟨y, hy⟩ : ∃ y, u i = y := ⟨_, rfl⟩
  rw [hx] at hc0
  rw [hx]
  rw [hy] at hc1
  rw [hy]
  have h0 := hbW
  rw [hW] at hc0 hc1 h0
  clear hW hgt hbW hF hT hx hy hv hu
  cases x <;> cases y
  all_goals
    go_enter Tryz.func117, Tryz.ntmps117
    go_wp2_with fail
    go_ret
    exact ⟨rfl, h0⟩
set_option maxRecDepth 100000 in
set_option maxHeartbeats 2000000 in
theorem rholds7_w (hF : Sat F w) (hT : RefT F ss es An nn cn Ae ne ce) (name : ByteArray) (lo hi : Int) (Ak : Option Addr) (nk ck : Nat) (g c : Nat) (v : Nat → Bool) (hv : ∀ j, j < ne → F.cell ⟨g, j, none⟩ = some (.bool (v j))) (gb cb : Nat) (u : Nat → Bool) (hu : ∀ j, j < ne → F.cell ⟨gb, j, none⟩ = some (.bool (u j))) (i : Nat) (hi' : i < ne) :
    Calls Tryz.prog 117 #[.agg #[.slice An nn cn, .slice Ae ne ce], .agg #[.int .i64 7, .string name, .int .i64 lo, .int .i64 hi, .slice Ak nk ck], .int .i64 (i : Nat), .int .i64 (ne : Nat), .slice (some ⟨g, 0, none⟩) ne c, .slice (some ⟨gb, 0, none⟩) ne cb] w fun e w' => e = .returned (.bool (!v i || u i)) ∧ Below w.heap.size w w' := by
  obtain ⟨gt, hgt⟩ : ∃ gt, gt = w.heap.size := ⟨_, rfl⟩
  obtain ⟨W, hW⟩ : ∃ W, W = (w.alloc (.cells #[.slice An nn cn, .slice Ae ne ce] 43)).alloc (.cells #[.int .i64 7, .string name, .int .i64 lo, .int .i64 hi, .slice Ak nk ck] 62) := ⟨_, rfl⟩
  have HBT : Hid (Blk W gt 43 #[.slice An nn cn, .slice Ae ne ce]) := Lib.hid (by rw [hW, hgt]; exact (Blk.new _ _ _).alloc _)
  have HBX : Hid (Blk W (gt + 1) 62 #[.int .i64 7, .string name, .int .i64 lo, .int .i64 hi, .slice Ak nk ck]) := Lib.hid (by rw [hW, hgt]; exact Blk.new2 _ _ _ _)
  have hbW : Below w.heap.size w W := by rw [hW]; exact (balloc _ _).alloc (by simp) _
  have HBW := Lib.hid hbW
  have HFW := Lib.hid (hF.below hbW)
  have HW := Lib.hid hW
  have HG := Lib.hid hgt
  have hneb := hT.ne1
  have hiI : (i : Int) < (ne : Int) := by omega
  have hc0 := HFW.out.cell (hv i hi')
  have hc1 := HFW.out.cell (hu i hi')
  obtain ⟨x, hx⟩ : ∃ x, v i = x := ⟨_, rfl⟩
  obtain ⟨y, hy⟩ : ∃ y, u i = y := ⟨_, rfl⟩
  rw [hx] at hc0
  rw [hx]
  rw [hy] at hc1
  rw [hy]
  have h0 := hbW
  rw [hW] at hc0 hc1 h0
  clear hW hgt hbW hF hT hx hy hv hu
  cases x <;> cases y
  all_goals
    go_enter Tryz.func117, Tryz.ntmps117
    go_wp2_with fail
    go_ret
    exact ⟨rfl, h0⟩
set_option maxRecDepth 100000 in
set_option maxHeartbeats 2000000 in
theorem rholds8_w (hF : Sat F w) (hT : RefT F ss es An nn cn Ae ne ce) (name : ByteArray) (lo hi : Int) (Ak : Option Addr) (nk ck : Nat) (g c : Nat) (v : Nat → Bool) (hv : ∀ j, j < ne → F.cell ⟨g, j, none⟩ = some (.bool (v j))) (B : Option Addr) (nb cb : Nat) (hs : spanS lo hi = true) (i : Nat) (hi' : i < ne) :
    Calls Tryz.prog 117 #[.agg #[.slice An nn cn, .slice Ae ne ce], .agg #[.int .i64 8, .string name, .int .i64 lo, .int .i64 hi, .slice Ak nk ck], .int .i64 (i : Nat), .int .i64 (ne : Nat), .slice (some ⟨g, 0, none⟩) ne c, .slice B nb cb] w fun e w' => e = .returned (.bool (decide (0 < i) && (hasD lo hi (gapE es i (i - 1)) && v (i - 1)))) ∧ Below w.heap.size w w' := by
  obtain ⟨gt, hgt⟩ : ∃ gt, gt = w.heap.size := ⟨_, rfl⟩
  obtain ⟨W, hW⟩ : ∃ W, W = (w.alloc (.cells #[.slice An nn cn, .slice Ae ne ce] 43)).alloc (.cells #[.int .i64 8, .string name, .int .i64 lo, .int .i64 hi, .slice Ak nk ck] 62) := ⟨_, rfl⟩
  have HBT : Hid (Blk W gt 43 #[.slice An nn cn, .slice Ae ne ce]) := Lib.hid (by rw [hW, hgt]; exact (Blk.new _ _ _).alloc _)
  have HBX : Hid (Blk W (gt + 1) 62 #[.int .i64 8, .string name, .int .i64 lo, .int .i64 hi, .slice Ak nk ck]) := Lib.hid (by rw [hW, hgt]; exact Blk.new2 _ _ _ _)
  have hbW : Below w.heap.size w W := by rw [hW]; exact (balloc _ _).alloc (by simp) _
  have HBW := Lib.hid hbW
  have HFW := Lib.hid (hF.below hbW)
  have HW := Lib.hid hW
  have HG := Lib.hid hgt
  have hneb := hT.ne1
  have hiI : (i : Int) < (ne : Int) := by omega
  obtain ⟨t0, t1, _, _⟩ := blkA HBT.out
  obtain ⟨x0, x1, x2, x3, _⟩ := blk5 HBX.out
  have HTT := Lib.hid hT
  have HV := Lib.hid hv
  clear hW hgt hbW hF hT hv
  by_cases h0 : 0 < i
  · obtain ⟨q, rfl⟩ : ∃ q, i = q + 1 := ⟨i - 1, by omega⟩
    obtain ⟨i, hqi⟩ : ∃ i, i = q + 1 := ⟨_, rfl⟩
    rw [← hqi] at hi' hiI h0 ⊢
    have hq : i - 1 = q := by omega
    have hqI : (i : Int) - 1 = (q : Int) := by omega
    have h0I : (0 : Int) < (i : Int) := by omega
    rw [hq]
    have hqn : q < ne := by omega
    have hqnI : (q : Int) < (ne : Int) := by omega
    have hwq : IntKind.i64.wrap (q : Int) = (q : Int) := by simp [IntKind.wrap, IntKind.bits, IntKind.signed]; omega
    have hgc : gapE es i q = gapE es q i := by unfold gapE; rw [Nat.max_comm, Nat.min_comm]
    have HAp := Lib.hid (fun (X : World) (h : Sat F X) => apart14_w h es An nn cn Ae ne ce HTT.out.ev q i hqn hi')
    have HHs0 := Lib.hid (fun (X : World) => rhasT_w lo hi hs (gapE es q i) (gapE_lt HTT.out.ev hqn hi') X)
    obtain ⟨hh, hhh⟩ : ∃ hh, hasD lo hi (gapE es q i) = hh := ⟨_, rfl⟩
    rw [hhh] at HHs0
    rw [hgc, hhh]
    have HHs := HHs0
    have hmc := HFW.out.cell (HV.out q hqn)
    obtain ⟨x, hx⟩ : ∃ x, v q = x := ⟨_, rfl⟩
    rw [hx] at hmc
    rw [hx]
    have HRES : Hid ((decide (0 < i) && (hh && x)) = (hh && x)) := Lib.hid (by rw [decide_eq_true h0, Bool.true_and])
    rw [HRES.out]
    clear hhh hx HHs0 hgc hqi hq HRES
    cases x with
    | false =>
      rw [Bool.and_false]
      go_enter Tryz.func117, Tryz.ntmps117
      go_wp2_with fail
      rw [← HW.out, ← HG.out]
      go_quiet (fail)
      go_wp2_with fail
      go_ret
      exact ⟨rfl, below_drewN HBW.out _⟩
    | true =>
      rw [Bool.and_true]
      have HMC := Lib.hid (fun (X : World) (h : Below W.heap.size W X) => (h.cell (p := ⟨g, q, none⟩) (HFW.out.clt (HV.out q hqn))).trans hmc)
      go_enter Tryz.func117, Tryz.ntmps117
      go_wp2_with fail
      rw [← HW.out, ← HG.out]
      refine wp_region_noPanic ?_
      refine wp_region_held_drew (S := (fun w' => w'.cell? ⟨gt, 0, none⟩ = some (.slice An nn cn) ∧ w'.cell? ⟨gt, 1, none⟩ = some (.slice Ae ne ce) ∧ w'.cell? ⟨gt + 1, 2, none⟩ = some (.int .i64 lo) ∧ w'.cell? ⟨gt + 1, 3, none⟩ = some (.int .i64 hi) ∧ w'.cell? ⟨g, q, none⟩ = some (.bool true))) (by kernel_rfl) ?hS0 (fun hHeld => ?hR0)
      case hS0 => (try dsimp only); go_keep
      case hR0 =>
        refine tk 0 (h := ?_)
        try simp only [pn]
        refine tk 1 (h := ?_)
        try simp only [pn]
        refine tk 2 (h := ?_)
        try simp only [pn]
        refine tk 3 (h := ?_)
        try simp only [pn]
        refine tk 4 (h := ?_)
        try simp only [pn]
        refine tk 5 (h := ?_)
        try simp only [pn]
        refine tk 6 (h := ?_)
        try simp only [pn]
        refine tk 7 (h := ?_)
        try simp only [pn]
        refine tk 8 (h := ?_)
        try simp only [pn]
        refine tk 9 (h := ?_)
        try simp only [pn]
        refine tk 10 (h := ?_)
        try simp only [pn]
        refine tk 11 (h := ?_)
        try simp only [pn]
        refine tk 12 (h := ?_)
        try simp only [pn]
        refine tk 13 (h := ?_)
        try simp only [pn]
        refine tk 14 (h := ?_)
        try simp only [pn]
        refine tk 15 (h := ?_)
        try simp only [pn]
        refine wpAnyH_ready (rs := [16]) (by kernel_rfl) (by simp) ?_
        refine AllReadyH.cons (o := ?sO1) ?sA1 (fun K hK => ?sB1) ?sC1
        case sA1 => simp only [List.getElem?_toArray, List.getElem?_cons_succ, List.getElem?_cons_zero]; rfl
        case sB1 =>
          go_simp
          go_at_call 116; refine (HAp.out _ (by first | exact HFW.out | exact HFW.out.drew)).mono ?_; rintro e w2 ⟨rfl, hw2⟩; have hc2 : Below W.heap.size W w2 := (by refine bel_trans ?_ hw2; first | exact bel_eqv (Below.refl _ W) rfl rfl rfl rfl); obtain ⟨rt0, rt1, _, _⟩ := blkA (HBT.out.call hc2); obtain ⟨rx0, _, rx2, rx3, _⟩ := blk5 (HBX.out.call hc2); have rm := HMC.out _ hc2
          try go_wp2_with fail
          refine hK.out _ _ ?kS1 (fun hHeld => ?kR1)
          case kS1 => (try dsimp only); go_keep
          case kR1 =>
            clear hK K
            try simp only [pn]
            refine wpAnyH_ready (rs := [17]) (by kernel_rfl) (by simp) ?_
            refine AllReadyH.cons (o := ?sO2) ?sA2 (fun K hK => ?sB2) ?sC2
            case sA2 => simp only [List.getElem?_toArray, List.getElem?_cons_succ, List.getElem?_cons_zero]; rfl
            case sB2 =>
              go_simp
              go_at_call 115; refine (HHs.out _).mono ?_; rintro e w3 ⟨rfl, hw3⟩; have hc3 : Below W.heap.size W w3 := (by refine bel_trans ?_ hw3; first | exact bel_eqv hc2 rfl rfl rfl rfl); obtain ⟨st0, st1, _, _⟩ := blkA (HBT.out.call hc3); obtain ⟨sx0, _, sx2, sx3, _⟩ := blk5 (HBX.out.call hc3); have sm := HMC.out _ hc3
              try go_wp2_with fail
              refine hK.out _ _ ?kS2 (fun hHeld => ?kR2)
              case kS2 => (try dsimp only); go_keep
              case kR2 =>
                clear hK K
                try simp only [pn]
                refine tk 18 (h := ?_)
                try simp only [pn]
                refine tk 19 (h := ?_)
                try simp only [pn]
                refine wpAnyH_done (by kernel_rfl) ?_ _
                refine NoPanic.normal ?_
                go_wp2_with fail
                go_ret
                exact ⟨rfl, bthen HBW.out hc3⟩
            case sC2 =>
              exact AllReadyH.nil
        case sC1 =>
          exact AllReadyH.nil
  · have h0d : decide (0 < i) = false := decide_eq_false h0
    rw [h0d, Bool.false_and]
    obtain rfl : i = 0 := by omega
    clear h0 h0d
    go_enter Tryz.func117, Tryz.ntmps117
    go_wp2_with fail
    rw [← HW.out, ← HG.out]
    go_quiet (fail)
    go_wp2_with fail
    go_ret
    exact ⟨rfl, below_drewN HBW.out _⟩
set_option maxRecDepth 100000 in
set_option maxHeartbeats 2000000 in
theorem rholds9_w (hF : Sat F w) (hT : RefT F ss es An nn cn Ae ne ce) (name : ByteArray) (lo hi : Int) (Ak : Option Addr) (nk ck : Nat) (g c : Nat) (v : Nat → Bool) (hv : ∀ j, j < ne → F.cell ⟨g, j, none⟩ = some (.bool (v j))) (B : Option Addr) (nb cb : Nat) (hs : spanS lo hi = true) (i : Nat) (hi' : i < ne) :
    Calls Tryz.prog 117 #[.agg #[.slice An nn cn, .slice Ae ne ce], .agg #[.int .i64 9, .string name, .int .i64 lo, .int .i64 hi, .slice Ak nk ck], .int .i64 (i : Nat), .int .i64 (ne : Nat), .slice (some ⟨g, 0, none⟩) ne c, .slice B nb cb] w fun e w' => e = .returned (.bool (decide (i + 1 < ne) && (hasD lo hi (gapE es i (i + 1)) && v (i + 1)))) ∧ Below w.heap.size w w' := by
  obtain ⟨gt, hgt⟩ : ∃ gt, gt = w.heap.size := ⟨_, rfl⟩
  obtain ⟨W, hW⟩ : ∃ W, W = (w.alloc (.cells #[.slice An nn cn, .slice Ae ne ce] 43)).alloc (.cells #[.int .i64 9, .string name, .int .i64 lo, .int .i64 hi, .slice Ak nk ck] 62) := ⟨_, rfl⟩
  have HBT : Hid (Blk W gt 43 #[.slice An nn cn, .slice Ae ne ce]) := Lib.hid (by rw [hW, hgt]; exact (Blk.new _ _ _).alloc _)
  have HBX : Hid (Blk W (gt + 1) 62 #[.int .i64 9, .string name, .int .i64 lo, .int .i64 hi, .slice Ak nk ck]) := Lib.hid (by rw [hW, hgt]; exact Blk.new2 _ _ _ _)
  have hbW : Below w.heap.size w W := by rw [hW]; exact (balloc _ _).alloc (by simp) _
  have HBW := Lib.hid hbW
  have HFW := Lib.hid (hF.below hbW)
  have HW := Lib.hid hW
  have HG := Lib.hid hgt
  have hneb := hT.ne1
  have hiI : (i : Int) < (ne : Int) := by omega
  obtain ⟨t0, t1, _, _⟩ := blkA HBT.out
  obtain ⟨x0, x1, x2, x3, _⟩ := blk5 HBX.out
  have HTT := Lib.hid hT
  have HV := Lib.hid hv
  clear hW hgt hbW hF hT hv
  by_cases h0 : i + 1 < ne
  · obtain ⟨q, hqi⟩ : ∃ q, q = i + 1 := ⟨_, rfl⟩
    rw [← hqi] at h0 ⊢
    have hqI : (i : Int) + 1 = (q : Int) := by omega
    have h0I : (q : Int) < (ne : Int) := by omega
    have hqn : q < ne := by omega
    have hqnI : (q : Int) < (ne : Int) := by omega
    have hwq : IntKind.i64.wrap (q : Int) = (q : Int) := by simp [IntKind.wrap, IntKind.bits, IntKind.signed]; omega
    have hgc : gapE es i q = gapE es i q := rfl
    have HAp := Lib.hid (fun (X : World) (h : Sat F X) => apart14_w h es An nn cn Ae ne ce HTT.out.ev i q hi' hqn)
    have HHs0 := Lib.hid (fun (X : World) => rhasT_w lo hi hs (gapE es i q) (gapE_lt HTT.out.ev hi' hqn) X)
    obtain ⟨hh, hhh⟩ : ∃ hh, hasD lo hi (gapE es i q) = hh := ⟨_, rfl⟩
    rw [hhh] at HHs0
    rw [hgc, hhh]
    have HHs := HHs0
    have hmc := HFW.out.cell (HV.out q hqn)
    obtain ⟨x, hx⟩ : ∃ x, v q = x := ⟨_, rfl⟩
    rw [hx] at hmc
    rw [hx]
    have HRES : Hid ((decide (q < ne) && (hh && x)) = (hh && x)) := Lib.hid (by rw [decide_eq_true h0, Bool.true_and])
    rw [HRES.out]
    clear hhh hx HHs0 hgc hqi  HRES
    cases x with
    | false =>
      rw [Bool.and_false]
      go_enter Tryz.func117, Tryz.ntmps117
      go_wp2_with fail
      rw [← HW.out, ← HG.out]
      go_quiet (fail)
      go_wp2_with fail
      go_ret
      exact ⟨rfl, below_drewN HBW.out _⟩
    | true =>
      rw [Bool.and_true]
      have HMC := Lib.hid (fun (X : World) (h : Below W.heap.size W X) => (h.cell (p := ⟨g, q, none⟩) (HFW.out.clt (HV.out q hqn))).trans hmc)
      go_enter Tryz.func117, Tryz.ntmps117
      go_wp2_with fail
      rw [← HW.out, ← HG.out]
      refine wp_region_noPanic ?_
      refine wp_region_held_drew (S := (fun w' => w'.cell? ⟨gt, 0, none⟩ = some (.slice An nn cn) ∧ w'.cell? ⟨gt, 1, none⟩ = some (.slice Ae ne ce) ∧ w'.cell? ⟨gt + 1, 2, none⟩ = some (.int .i64 lo) ∧ w'.cell? ⟨gt + 1, 3, none⟩ = some (.int .i64 hi) ∧ w'.cell? ⟨g, q, none⟩ = some (.bool true))) (by kernel_rfl) ?hS0 (fun hHeld => ?hR0)
      case hS0 => (try dsimp only); go_keep
      case hR0 =>
        refine tk 0 (h := ?_)
        try simp only [pn]
        refine tk 1 (h := ?_)
        try simp only [pn]
        refine tk 2 (h := ?_)
        try simp only [pn]
        refine tk 3 (h := ?_)
        try simp only [pn]
        refine tk 4 (h := ?_)
        try simp only [pn]
        refine tk 5 (h := ?_)
        try simp only [pn]
        refine tk 6 (h := ?_)
        try simp only [pn]
        refine tk 7 (h := ?_)
        try simp only [pn]
        refine tk 8 (h := ?_)
        try simp only [pn]
        refine tk 9 (h := ?_)
        try simp only [pn]
        refine tk 10 (h := ?_)
        try simp only [pn]
        refine tk 11 (h := ?_)
        try simp only [pn]
        refine tk 12 (h := ?_)
        try simp only [pn]
        refine tk 13 (h := ?_)
        try simp only [pn]
        refine tk 14 (h := ?_)
        try simp only [pn]
        refine tk 15 (h := ?_)
        try simp only [pn]
        refine tk 16 (h := ?_)
        try simp only [pn]
        refine tk 17 (h := ?_)
        try simp only [pn]
        refine wpAnyH_ready (rs := [18]) (by kernel_rfl) (by simp) ?_
        refine AllReadyH.cons (o := ?sO3) ?sA3 (fun K hK => ?sB3) ?sC3
        case sA3 => simp only [List.getElem?_toArray, List.getElem?_cons_succ, List.getElem?_cons_zero]; rfl
        case sB3 =>
          go_simp
          go_at_call 116; refine (HAp.out _ (by first | exact HFW.out | exact HFW.out.drew)).mono ?_; rintro e w2 ⟨rfl, hw2⟩; have hc2 : Below W.heap.size W w2 := (by refine bel_trans ?_ hw2; first | exact bel_eqv (Below.refl _ W) rfl rfl rfl rfl); obtain ⟨rt0, rt1, _, _⟩ := blkA (HBT.out.call hc2); obtain ⟨rx0, _, rx2, rx3, _⟩ := blk5 (HBX.out.call hc2); have rm := HMC.out _ hc2
          try go_wp2_with fail
          refine hK.out _ _ ?kS3 (fun hHeld => ?kR3)
          case kS3 => (try dsimp only); go_keep
          case kR3 =>
            clear hK K
            try simp only [pn]
            refine wpAnyH_ready (rs := [19]) (by kernel_rfl) (by simp) ?_
            refine AllReadyH.cons (o := ?sO4) ?sA4 (fun K hK => ?sB4) ?sC4
            case sA4 => simp only [List.getElem?_toArray, List.getElem?_cons_succ, List.getElem?_cons_zero]; rfl
            case sB4 =>
              go_simp
              go_at_call 115; refine (HHs.out _).mono ?_; rintro e w3 ⟨rfl, hw3⟩; have hc3 : Below W.heap.size W w3 := (by refine bel_trans ?_ hw3; first | exact bel_eqv hc2 rfl rfl rfl rfl); obtain ⟨st0, st1, _, _⟩ := blkA (HBT.out.call hc3); obtain ⟨sx0, _, sx2, sx3, _⟩ := blk5 (HBX.out.call hc3); have sm := HMC.out _ hc3
              try go_wp2_with fail
              refine hK.out _ _ ?kS4 (fun hHeld => ?kR4)
              case kS4 => (try dsimp only); go_keep
              case kR4 =>
                clear hK K
                try simp only [pn]
                refine tk 20 (h := ?_)
                try simp only [pn]
                refine tk 21 (h := ?_)
                try simp only [pn]
                refine wpAnyH_done (by kernel_rfl) ?_ _
                refine NoPanic.normal ?_
                go_wp2_with fail
                go_ret
                exact ⟨rfl, bthen HBW.out hc3⟩
            case sC4 =>
              exact AllReadyH.nil
        case sC3 =>
          exact AllReadyH.nil
  · have h0d : decide (i + 1 < ne) = false := decide_eq_false h0
    rw [h0d, Bool.false_and]
    have hqI : (i : Int) + 1 = (ne : Int) := by omega
    have hd : decide ((ne : Int) < (ne : Int)) = false := decide_eq_false (by omega)
    clear h0 h0d
    go_enter Tryz.func117, Tryz.ntmps117
    go_wp2_with fail
    rw [← HW.out, ← HG.out]
    go_quiet (fail)
    go_wp2_with fail
    go_ret
    exact ⟨rfl, below_drewN HBW.out _⟩
end
end Go.Proofs.YtdbbooibkiicnaaGreat
