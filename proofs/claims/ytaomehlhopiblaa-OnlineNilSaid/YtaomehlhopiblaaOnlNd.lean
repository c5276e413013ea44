/- One pass: the walk of a node's truth. -/
import Derived.Test.YtaomehlhopiblaaOnlX
import Derived.Test.YtaomehlhopiblaaLex2
set_option linter.unusedVariables false
set_option linter.unusedSimpArgs false
/-! One pass: the walk of a node's truth. -/
namespace Go.Proofs.Ytaomehlhopiblaa
open Go.RowKit
attribute [local go_sem ↓] Go.wp_at_zero Go.wp_at_succ
/-- What a node that changes nothing leaves. -/
def RetPl (m : Nat) (w : World) (p : Fn) (e : Ending) (w' : World) : Prop := ∃ A n c, e = .returned (.slice A n c) ∧ Below w.heap.size w w' ∧ ∀ Ys : List Nat, (∀ g, g ∈ Ys → g < w.heap.size) → WdF m (hx w' Ys) (.slice A n c) p
theorem retPl_q {m : Nat} {w w1 w' : World} {p q : Fn} {e : Ending} (hb : Below w.heap.size w w1) (h : RetQ m w1 p e w') (hp : ∀ x, x < 2 ^ m → p x = q x) : RetPl m w q e w' := by
  obtain ⟨v, rfl, hb2, hv⟩ := retQ_ret h
  obtain ⟨A, n, c, fs, rfl, hr⟩ := id hv
  refine ⟨A, n, c, rfl, bthen hb hb2, fun Ys hY => ?_⟩
  obtain ⟨v', e', _, hv'⟩ := h.hx (Gs := Ys) fun g hg => Nat.lt_of_lt_of_le (hY g hg) hb.size
  injection e' with e'
  rw [e']
  exact wdf_same hv' hp
theorem retPl_ql {m : Nat} {w w1 w' : World} {p q : Fn} {e : Ending} (hb : Below w.heap.size w w1) (h : RetQL m w1 p e w') (hp : ∀ x, x < 2 ^ m → p x = q x) : RetPl m w q e w' := by
  obtain ⟨v, rfl, hb2, hv⟩ := retQL_ret h
  obtain ⟨hm, A, c, rfl, hr⟩ := id hv
  refine ⟨A, _, c, rfl, bthen hb hb2, fun Ys hY => ?_⟩
  obtain ⟨v', e', _, hv'⟩ := h.hx (Gs := Ys) fun g hg => Nat.lt_of_lt_of_le (hY g hg) hb.size
  injection e' with e'
  rw [e']
  exact wdf_same hv'.wd hp
theorem retQ_below {m : Nat} {w w' : World} {p : Fn} {e : Ending} (h : RetQ m w p e w') : Below w.heap.size w w' := let ⟨_, _, hb, _⟩ := retQ_ret h; hb
theorem retQL_below {m : Nat} {w w' : World} {p : Fn} {e : Ending} (h : RetQL m w p e w') : Below w.heap.size w w' := let ⟨_, _, hb, _⟩ := retQL_ret h; hb
section
variable {F : Fz} {w : World} (hF : Sat F w) (m : Nat) (hm : m ≤ 10) (N gt go gx gw ga gr : Nat) (Al : Option Addr) (cl d : Nat) (hN : N ≤ 1000) (hT : TuF F m N gt go gx gw ga gr Al cl d) (i : Nat) (name : ByteArray) (lo hi' : Int) (Ak : Option Addr) (nk ck : Nat)
include hF hm hT
set_option maxRecDepth 100000 in
set_option maxHeartbeats 2000000 in
theorem onode1_w : Calls Try.prog 10 #[.pointer (some ⟨gt, 0, none⟩), .int .i64 (i : Nat), .agg #[.int .i64 1, .string name, .int .i64 lo, .int .i64 hi', .slice Ak nk ck]] w (RetPl m w fun _ => true) := by
  have hb0 := balloc w (.cells #[.int .i64 1, .string name, .int .i64 lo, .int .i64 hi', .slice Ak nk ck] 48)
  obtain ⟨c0, c1, c2, c3, c4⟩ := blk5 (Blk.new w 48 #[.int .i64 1, .string name, .int .i64 lo, .int .i64 hi', .slice Ak nk ck])
  have y0 := (hF.below hb0).cell hT.o
  have y1 := (hF.below hb0).cell hT.n
  have HY := Lib.hid (fun (X : World) => ql_yes hm (w := X))
  clear hF hT
  go_enter Try.func10, Try.ntmps10
  go_wp2_with (go_at_call 18; refine (HY.out _).mono ?_; intro e w1 hr1; obtain ⟨A1, n1, c1', rfl, hb1, hW1⟩ := retPl_ql hb0 hr1 (fun _ _ => rfl))
  go_ret
  exact ⟨A1, n1, c1', rfl, hb1, hW1⟩
set_option maxRecDepth 100000 in
set_option maxHeartbeats 2000000 in
theorem onode2_w (kind : Int) (hk : kind = 2) : Calls Try.prog 10 #[.pointer (some ⟨gt, 0, none⟩), .int .i64 (i : Nat), .agg #[.int .i64 kind, .string name, .int .i64 lo, .int .i64 hi', .slice Ak nk ck]] w (RetPl m w fun _ => false) := by
  subst hk
  have hb0 := balloc w (.cells #[.int .i64 2, .string name, .int .i64 lo, .int .i64 hi', .slice Ak nk ck] 48)
  obtain ⟨c0, c1, c2, c3, c4⟩ := blk5 (Blk.new w 48 #[.int .i64 2, .string name, .int .i64 lo, .int .i64 hi', .slice Ak nk ck])
  have y0 := (hF.below hb0).cell hT.o
  have y1 := (hF.below hb0).cell hT.n
  have HY := Lib.hid (fun (X : World) => ql_no hm (w := X))
  clear hF hT
  go_enter Try.func10, Try.ntmps10
  go_wp2_with (go_at_call 25; refine (HY.out _).mono ?_; intro e w1 hr1; obtain ⟨A1, n1, c1', rfl, hb1, hW1⟩ := retPl_ql hb0 hr1 (fun _ _ => rfl))
  go_ret
  exact ⟨A1, n1, c1', rfl, hb1, hW1⟩
set_option maxRecDepth 100000 in
set_option maxHeartbeats 2000000 in
theorem onode3_w (ss : List ByteArray) (An : Option Addr) (nn cn : Nat) (hnn : ss.length ≤ 100000) (hS : F.cell ⟨gt, 2, none⟩ = some (.slice An nn cn)) (hSr : Rd F 1 An nn (ss.map Value.string)) :
    Calls Try.prog 10 #[.pointer (some ⟨gt, 0, none⟩), .int .i64 (i : Nat), .agg #[.int .i64 3, .string name, .int .i64 lo, .int .i64 hi', .slice Ak nk ck]] w (RetPl m w fun _ => hasS ss name) := by
  have hbE := balloc w (.cells #[.int .i64 3, .string name, .int .i64 lo, .int .i64 hi', .slice Ak nk ck] 48)
  have e0 := (hF.below hbE).cell hT.o
  have e1 := (hF.below hbE).cell hT.n
  have d0 := (blk5 (Blk.new w 48 #[.int .i64 3, .string name, .int .i64 lo, .int .i64 hi', .slice Ak nk ck])).1
  obtain ⟨W, hW⟩ : ∃ W, W = w.alloc (.cells #[.int .i64 3, .string name, .int .i64 lo, .int .i64 hi', .slice Ak nk ck] 48) := ⟨_, rfl⟩
  have hb0 : Below w.heap.size w W := by rw [hW]; exact balloc _ _
  have hBn : Blk W w.heap.size 48 #[.int .i64 3, .string name, .int .i64 lo, .int .i64 hi', .slice Ak nk ck] := by rw [hW]; exact Blk.new _ _ _
  have hFW := hF.below hb0
  obtain ⟨c0, c1, c2, c3, c4⟩ := blk5 hBn
  have y0 := hFW.cell hT.o
  have y1 := hFW.cell hT.n
  have y2 := hFW.cell hS
  have l2 : gt < W.heap.size := hFW.clt hS
  have lb : w.heap.size < W.heap.size := hBn.lt
  have HY := Lib.hid (fun (X : World) => ql_yes hm (w := X))
  have HNo := Lib.hid (fun (X : World) => ql_no hm (w := X))
  have HC := Lib.hid (fun (X : World) (hX : Sat F X) => contains_w hX ss hnn An nn cn hSr name)
  have HFW := Lib.hid hFW
  have HW := Lib.hid hW
  clear hF hT hS hSr hW hFW
  go_enter Try.func10, Try.ntmps10
  go_wp2_with fail
  rw [← HW.out]
  cases hh : hasS ss name
  all_goals
    rw [hh] at HC
    go_region_held3 (fun w' => w'.cell? ⟨gt, 2, none⟩ = some (.slice An nn cn) ∧ w'.cell? ⟨w.heap.size, 1, none⟩ = some (.string name)) (go_keep)
      (first | (go_at_call 19; refine (HC.out _ (by first | exact HFW.out | exact HFW.out.drew)).mono ?_; rintro e w2 ⟨rfl, rfl⟩))
    all_goals
      go_wp2_with (first
        | (go_at_call 18; refine (HY.out _).mono ?_; intro e w1 hr1; obtain ⟨A1, n1, c1', rfl, hb1, hW1⟩ := retPl_ql (hb0.drew) hr1 (fun _ _ => rfl))
        | (go_at_call 25; refine (HNo.out _).mono ?_; intro e w1 hr1; obtain ⟨A1, n1, c1', rfl, hb1, hW1⟩ := retPl_ql (hb0.drew) hr1 (fun _ _ => rfl)))
      go_ret
      exact ⟨A1, n1, c1', rfl, hb1, fun Ys hY => wdf_same (hW1 Ys hY) fun _ _ => hh.symm⟩
set_option maxRecDepth 100000 in
set_option maxHeartbeats 2000000 in
theorem onode4_w (k1 : Nat) (hk1 : k1 < N) (ak : Addr) (hK : F.cell ak = some (.int .i64 (k1 : Nat))) (A1 : Option Addr) (n1 c1 : Nat) (p1 : Fn) (hv1 : F.cell ⟨gr, k1, none⟩ = some (.slice A1 n1 c1)) (hp1 : WdF m F (.slice A1 n1 c1) p1) :
    Calls Try.prog 10 #[.pointer (some ⟨gt, 0, none⟩), .int .i64 (i : Nat), .agg #[.int .i64 4, .string name, .int .i64 lo, .int .i64 hi', .slice (some ak) 1 ck]] w (RetPl m w fun x => !p1 x) := by
  have hbE := balloc w (.cells #[.int .i64 4, .string name, .int .i64 lo, .int .i64 hi', .slice (some ak) 1 ck] 48)
  have e0 := (hF.below hbE).cell hT.o
  have e1 := (hF.below hbE).cell hT.n
  have d0 := (blk5 (Blk.new w 48 #[.int .i64 4, .string name, .int .i64 lo, .int .i64 hi', .slice (some ak) 1 ck])).1
  obtain ⟨W, hW⟩ : ∃ W, W = w.alloc (.cells #[.int .i64 4, .string name, .int .i64 lo, .int .i64 hi', .slice (some ak) 1 ck] 48) := ⟨_, rfl⟩
  have hb0 : Below w.heap.size w W := by rw [hW]; exact balloc _ _
  have hBn : Blk W w.heap.size 48 #[.int .i64 4, .string name, .int .i64 lo, .int .i64 hi', .slice (some ak) 1 ck] := by rw [hW]; exact Blk.new _ _ _
  have hFW := hF.below hb0
  obtain ⟨c0, c1', c2, c3, c4⟩ := blk5 hBn
  have y0 := hFW.cell hT.o
  have y1 := hFW.cell hT.n
  have y3 := hFW.cell hT.truth
  have yk := hFW.cell hK
  have yv := hFW.cell hv1
  have hkI : (k1 : Int) < (N : Int) := by omega
  have l0 : gt < W.heap.size := hFW.clt hT.truth
  have l1 : w.heap.size < W.heap.size := hBn.lt
  have l2 : ak.block < W.heap.size := hFW.clt hK
  have l3 : gr < W.heap.size := hFW.clt hv1
  have HQ := Lib.hid (fun (X : World) (hX : Sat F X) => q_not hm (hp1.heap hX))
  have HFW := Lib.hid hFW
  have HW := Lib.hid hW
  clear hF hT hW hFW hK hv1 hp1
  go_enter Try.func10, Try.ntmps10
  go_wp2_with fail
  rw [← HW.out]
  go_region_held3 (fun w' => w'.cell? ⟨gt, 3, none⟩ = some (.slice (some ⟨gr, 0, none⟩) N N) ∧ w'.cell? ⟨w.heap.size, 4, none⟩ = some (.slice (some ak) 1 ck) ∧ w'.cell? ak = some (.int .i64 (k1 : Nat)) ∧ w'.cell? ⟨gr, k1, none⟩ = some (.slice A1 n1 c1)) (first | go_keep | exact ⟨s0, s1, s2, s3⟩)
    (first | (go_at_call 20; refine (HQ.out _ (by first | exact HFW.out | exact HFW.out.drew)).mono ?_; intro e w1 hr1; have hq1 := retQ_below hr1; obtain ⟨A2, n2, c2', rfl, hb1, hW1⟩ := retPl_q (hb0.drew) hr1 (fun _ _ => rfl); have hbx : Below W.heap.size W w1 := (by refine bel_trans ?_ hq1; exact bel_eqv (Below.refl _ W) rfl rfl rfl rfl); have s0 := (hbx.cell (p := ⟨gt, 3, none⟩) l0).trans y3; have s1 := (hbx.cell (p := ⟨w.heap.size, 4, none⟩) l1).trans c4; have s2 := (hbx.cell (p := ak) l2).trans yk; have s3 := (hbx.cell (p := ⟨gr, k1, none⟩) l3).trans yv))
  all_goals
    go_wp2_with fail
    go_ret
    exact ⟨A2, n2, c2', rfl, hb1, hW1⟩
set_option maxRecDepth 100000 in
set_option maxHeartbeats 4000000 in
theorem onode5_w (k1 k2 : Nat) (hk1 : k1 < N) (hk2 : k2 < N) (ak : Addr) (hK : F.cell ak = some (.int .i64 (k1 : Nat))) (hK2 : F.cell ⟨ak.block, ak.off + 1, none⟩ = some (.int .i64 (k2 : Nat))) (A1 : Option Addr) (n1 c1 : Nat) (p1 : Fn) (hv1 : F.cell ⟨gr, k1, none⟩ = some (.slice A1 n1 c1)) (hp1 : WdF m F (.slice A1 n1 c1) p1)
    (A2 : Option Addr) (n2 c2 : Nat) (p2 : Fn) (hv2 : F.cell ⟨gr, k2, none⟩ = some (.slice A2 n2 c2)) (hp2 : WdF m F (.slice A2 n2 c2) p2) :
    Calls Try.prog 10 #[.pointer (some ⟨gt, 0, none⟩), .int .i64 (i : Nat), .agg #[.int .i64 5, .string name, .int .i64 lo, .int .i64 hi', .slice (some ak) 2 ck]] w (RetPl m w fun x => and (p1 x) (p2 x)) := by
  have hbE := balloc w (.cells #[.int .i64 5, .string name, .int .i64 lo, .int .i64 hi', .slice (some ak) 2 ck] 48)
  have e0 := (hF.below hbE).cell hT.o
  have e1 := (hF.below hbE).cell hT.n
  have d0 := (blk5 (Blk.new w 48 #[.int .i64 5, .string name, .int .i64 lo, .int .i64 hi', .slice (some ak) 2 ck])).1
  obtain ⟨W, hW⟩ : ∃ W, W = w.alloc (.cells #[.int .i64 5, .string name, .int .i64 lo, .int .i64 hi', .slice (some ak) 2 ck] 48) := ⟨_, rfl⟩
  have hb0 : Below w.heap.size w W := by rw [hW]; exact balloc _ _
  have hBn : Blk W w.heap.size 48 #[.int .i64 5, .string name, .int .i64 lo, .int .i64 hi', .slice (some ak) 2 ck] := by rw [hW]; exact Blk.new _ _ _
  have hFW := hF.below hb0
  have c4 := (blk5 hBn).2.2.2.2
  have y3 := hFW.cell hT.truth
  have yk := hFW.cell hK
  have yk2 := hFW.cell hK2
  have yv := hFW.cell hv1
  have yv2 := hFW.cell hv2
  have hkI : (k1 : Int) < (N : Int) := by omega
  have hkI2 : (k2 : Int) < (N : Int) := by omega
  have l0 : gt < W.heap.size := hFW.clt hT.truth
  have l1 : w.heap.size < W.heap.size := hBn.lt
  have l2 : ak.block < W.heap.size := hFW.clt hK
  have l3 : gr < W.heap.size := hFW.clt hv1
  have HQ := Lib.hid (fun (X : World) (hX : Sat F X) => ql_and hm (hp1.heap hX) (hp2.heap hX))
  have HFW := Lib.hid hFW
  have HW := Lib.hid hW
  clear hF hT hW hFW hK hK2 hv1 hp1 hv2 hp2
  go_enter Try.func10, Try.ntmps10
  go_wp2_with fail
  rw [← HW.out]
  go_region_held3 (fun w' => w'.cell? ⟨gt, 3, none⟩ = some (.slice (some ⟨gr, 0, none⟩) N N) ∧ w'.cell? ⟨w.heap.size, 4, none⟩ = some (.slice (some ak) 2 ck) ∧ w'.cell? ak = some (.int .i64 (k1 : Nat)) ∧ w'.cell? ⟨ak.block, ak.off + 1, none⟩ = some (.int .i64 (k2 : Nat)) ∧ w'.cell? ⟨gr, k1, none⟩ = some (.slice A1 n1 c1) ∧ w'.cell? ⟨gr, k2, none⟩ = some (.slice A2 n2 c2)) (first | go_keep | exact ⟨s0, s1, s2, s3, s4, s5⟩)
    (first | (go_at_call 21; refine (HQ.out _ (by first | exact HFW.out | exact HFW.out.drew)).mono ?_; intro e w1 hr1; have hq1 := retQL_below hr1; obtain ⟨A3, n3, c3', rfl, hb1, hW1⟩ := retPl_ql (hb0.drew) hr1 (fun _ _ => rfl); have hbx : Below W.heap.size W w1 := (by refine bel_trans ?_ hq1; exact bel_eqv (Below.refl _ W) rfl rfl rfl rfl); have s0 := (hbx.cell (p := ⟨gt, 3, none⟩) l0).trans y3; have s1 := (hbx.cell (p := ⟨w.heap.size, 4, none⟩) l1).trans c4; have s2 := (hbx.cell (p := ak) l2).trans yk; have s3 := (hbx.cell (p := ⟨ak.block, ak.off + 1, none⟩) l2).trans yk2; have s4 := (hbx.cell (p := ⟨gr, k1, none⟩) l3).trans yv; have s5 := (hbx.cell (p := ⟨gr, k2, none⟩) l3).trans yv2))
  all_goals
    go_wp2_with fail
    go_ret
    exact ⟨A3, n3, c3', rfl, hb1, hW1⟩
set_option maxRecDepth 100000 in
set_option maxHeartbeats 4000000 in
theorem onode6_w (k1 k2 : Nat) (hk1 : k1 < N) (hk2 : k2 < N) (ak : Addr) (hK : F.cell ak = some (.int .i64 (k1 : Nat))) (hK2 : F.cell ⟨ak.block, ak.off + 1, none⟩ = some (.int .i64 (k2 : Nat))) (A1 : Option Addr) (n1 c1 : Nat) (p1 : Fn) (hv1 : F.cell ⟨gr, k1, none⟩ = some (.slice A1 n1 c1)) (hp1 : WdF m F (.slice A1 n1 c1) p1)
    (A2 : Option Addr) (n2 c2 : Nat) (p2 : Fn) (hv2 : F.cell ⟨gr, k2, none⟩ = some (.slice A2 n2 c2)) (hp2 : WdF m F (.slice A2 n2 c2) p2) :
    Calls Try.prog 10 #[.pointer (some ⟨gt, 0, none⟩), .int .i64 (i : Nat), .agg #[.int .i64 6, .string name, .int .i64 lo, .int .i64 hi', .slice (some ak) 2 ck]] w (RetPl m w fun x => or (p1 x) (p2 x)) := by
  have hbE := balloc w (.cells #[.int .i64 6, .string name, .int .i64 lo, .int .i64 hi', .slice (some ak) 2 ck] 48)
  have e0 := (hF.below hbE).cell hT.o
  have e1 := (hF.below hbE).cell hT.n
  have d0 := (blk5 (Blk.new w 48 #[.int .i64 6, .string name, .int .i64 lo, .int .i64 hi', .slice (some ak) 2 ck])).1
  obtain ⟨W, hW⟩ : ∃ W, W = w.alloc (.cells #[.int .i64 6, .string name, .int .i64 lo, .int .i64 hi', .slice (some ak) 2 ck] 48) := ⟨_, rfl⟩
  have hb0 : Below w.heap.size w W := by rw [hW]; exact balloc _ _
  have hBn : Blk W w.heap.size 48 #[.int .i64 6, .string name, .int .i64 lo, .int .i64 hi', .slice (some ak) 2 ck] := by rw [hW]; exact Blk.new _ _ _
  have hFW := hF.below hb0
  have c4 := (blk5 hBn).2.2.2.2
  have y3 := hFW.cell hT.truth
  have yk := hFW.cell hK
  have yk2 := hFW.cell hK2
  have yv := hFW.cell hv1
  have yv2 := hFW.cell hv2
  have hkI : (k1 : Int) < (N : Int) := by omega
  have hkI2 : (k2 : Int) < (N : Int) := by omega
  have l0 : gt < W.heap.size := hFW.clt hT.truth
  have l1 : w.heap.size < W.heap.size := hBn.lt
  have l2 : ak.block < W.heap.size := hFW.clt hK
  have l3 : gr < W.heap.size := hFW.clt hv1
  have HQ := Lib.hid (fun (X : World) (hX : Sat F X) => ql_or hm (hp1.heap hX) (hp2.heap hX))
  have HFW := Lib.hid hFW
  have HW := Lib.hid hW
  clear hF hT hW hFW hK hK2 hv1 hp1 hv2 hp2
  go_enter Try.func10, Try.ntmps10
  go_wp2_with fail
  rw [← HW.out]
  go_region_held3 (fun w' => w'.cell? ⟨gt, 3, none⟩ = some (.slice (some ⟨gr, 0, none⟩) N N) ∧ w'.cell? ⟨w.heap.size, 4, none⟩ = some (.slice (some ak) 2 ck) ∧ w'.cell? ak = some (.int .i64 (k1 : Nat)) ∧ w'.cell? ⟨ak.block, ak.off + 1, none⟩ = some (.int .i64 (k2 : Nat)) ∧ w'.cell? ⟨gr, k1, none⟩ = some (.slice A1 n1 c1) ∧ w'.cell? ⟨gr, k2, none⟩ = some (.slice A2 n2 c2)) (first | go_keep | exact ⟨s0, s1, s2, s3, s4, s5⟩)
    (first | (go_at_call 22; refine (HQ.out _ (by first | exact HFW.out | exact HFW.out.drew)).mono ?_; intro e w1 hr1; have hq1 := retQL_below hr1; obtain ⟨A3, n3, c3', rfl, hb1, hW1⟩ := retPl_ql (hb0.drew) hr1 (fun _ _ => rfl); have hbx : Below W.heap.size W w1 := (by refine bel_trans ?_ hq1; exact bel_eqv (Below.refl _ W) rfl rfl rfl rfl); have s0 := (hbx.cell (p := ⟨gt, 3, none⟩) l0).trans y3; have s1 := (hbx.cell (p := ⟨w.heap.size, 4, none⟩) l1).trans c4; have s2 := (hbx.cell (p := ak) l2).trans yk; have s3 := (hbx.cell (p := ⟨ak.block, ak.off + 1, none⟩) l2).trans yk2; have s4 := (hbx.cell (p := ⟨gr, k1, none⟩) l3).trans yv; have s5 := (hbx.cell (p := ⟨gr, k2, none⟩) l3).trans yv2))
  all_goals
    go_wp2_with fail
    go_ret
    exact ⟨A3, n3, c3', rfl, hb1, hW1⟩
omit hm in
set_option maxRecDepth 100000 in
set_option maxHeartbeats 2000000 in
theorem onode17_w (Ys : List Nat) (g : Fn) (f : Nat → Fn) (hFo : ∀ X, Below w.heap.size w X → Calls Try.prog 24 #[.pointer (some ⟨gt, 0, none⟩), .int .i64 (i : Nat), .agg #[.int .i64 lo, .int .i64 hi']] X (RetFo m X ga Ys g f)) :
    Calls Try.prog 10 #[.pointer (some ⟨gt, 0, none⟩), .int .i64 (i : Nat), .agg #[.int .i64 17, .string name, .int .i64 lo, .int .i64 hi', .slice Ak nk ck]] w (RetFo m w ga Ys g f) := by
  have hb0 := balloc w (.cells #[.int .i64 17, .string name, .int .i64 lo, .int .i64 hi', .slice Ak nk ck] 48)
  obtain ⟨c0, c1, c2, c3, c4⟩ := blk5 (Blk.new w 48 #[.int .i64 17, .string name, .int .i64 lo, .int .i64 hi', .slice Ak nk ck])
  have y0 := (hF.below hb0).cell hT.o
  have y1 := (hF.below hb0).cell hT.n
  have HFO := Lib.hid hFo
  clear hF hT hFo
  go_enter Try.func10, Try.ntmps10
  go_wp2_with (go_at_call 24; refine (HFO.out _ hb0).mono ?_; rintro e w1 ⟨v, rfl, hw1, hv1, hr1⟩)
  go_ret
  exact ⟨v, rfl, (Wr.of_below hb0).trans hw1, hv1, hr1⟩
end
end Go.Proofs.Ytaomehlhopiblaa
