/- The walks of bound.Extra and bound.Heads. -/
import Derived.Test.YtdohbbjinbofbaaGreatBoundH
set_option linter.unusedVariables false
set_option linter.unusedSimpArgs false
namespace Go.Proofs.YtdohbbjinbofbaaGreat
open Go.RowKit
theorem und {B : Nat} {w w3 : World} (h : Below B w.drew w3) : Below B w w3 := ⟨h.os, h.tape, h.output, h.size, h.block⟩
theorem blk0 {w : World} {g : Nat} {t : TypeId} {a : Array Value} (h : Blk w g t a) : w.cell? ⟨g, 0, none⟩ = a[0]? ∧ w.frozen? ⟨g, 0, none⟩ = false := ⟨h.cell 0, h.frozen 0⟩
theorem keep1 {w w3 : World} {a : Array Value} {s : TypeId} (h : Below (w.alloc (.cells a s)).drew.heap.size (w.alloc (.cells a s)).drew w3) : Blk w3 w.heap.size s a := (Blk.new w s a).call (und h)
theorem keep2 {w w3 : World} {a b : Array Value} {s t : TypeId} (h : Below ((w.alloc (.cells a s)).alloc (.cells b t)).drew.heap.size ((w.alloc (.cells a s)).alloc (.cells b t)).drew w3) : Blk w3 w.heap.size s a ∧ Blk w3 (w.heap.size + 1) t b := ⟨((Blk.new w s a).alloc _).call (und h), (Blk.new2 w _ t b).call (und h)⟩
theorem new3 (w : World) (o o' : Obj) (t : TypeId) (cs : Array Value) : Blk (((w.alloc o).alloc o').alloc (.cells cs t)) (w.heap.size + 2) t cs := by
  have := Blk.new ((w.alloc o).alloc o') t cs
  simpa using this
theorem keep3 {w w3 : World} {a b c : Array Value} {s t r : TypeId} (h : Below (((w.alloc (.cells a s)).alloc (.cells b t)).alloc (.cells c r)).drew.heap.size (((w.alloc (.cells a s)).alloc (.cells b t)).alloc (.cells c r)).drew w3) : Blk w3 w.heap.size s a ∧ Blk w3 (w.heap.size + 1) t b ∧ Blk w3 (w.heap.size + 2) r c := ⟨(((Blk.new w s a).alloc _).alloc _).call (und h), ((Blk.new2 w _ t b).alloc _).call (und h), (new3 w _ _ r c).call (und h)⟩
theorem sz1 (w : World) (o : Obj) : (w.alloc o).drew.heap.size = w.heap.size + 1 := by show (w.alloc o).heap.size = _; simp
theorem sz2 (w : World) (o o' : Obj) : ((w.alloc o).alloc o').drew.heap.size = w.heap.size + 2 := by show ((w.alloc o).alloc o').heap.size = _; simp
theorem sz3 (w : World) (o o' o'' : Obj) : (((w.alloc o).alloc o').alloc o'').drew.heap.size = w.heap.size + 3 := by show (((w.alloc o).alloc o').alloc o'').heap.size = _; simp
theorem kb1 {w w3 : World} {o : Obj} (h : Below (w.alloc o).drew.heap.size (w.alloc o).drew w3) : Below w.heap.size w w3 := (balloc w o).trans ((und h).mono (by rw [sz1]; omega))
theorem kb2 {w w3 : World} {o o' : Obj} (h : Below ((w.alloc o).alloc o').drew.heap.size ((w.alloc o).alloc o').drew w3) : Below w.heap.size w w3 := ((balloc w o).alloc (by simp) o').trans ((und h).mono (by rw [sz2]; omega))
theorem kb3 {w w3 : World} {o o' o'' : Obj} (h : Below (((w.alloc o).alloc o').alloc o'').drew.heap.size (((w.alloc o).alloc o').alloc o'').drew w3) : Below w.heap.size w w3 := (((balloc w o).alloc (by simp) o').alloc (by simp; omega) o'').trans ((und h).mono (by rw [sz3]; omega))
theorem newS (w : World) (p : Addr) (v : Value) (t : TypeId) (cs : Array Value) : Blk ((w.setCell p v).alloc (.cells cs t)) w.heap.size t cs := by
  have := Blk.new (w.setCell p v) t cs
  rw [size_setCell] at this
  exact this
theorem newSS (w : World) (p q : Addr) (v u : Value) (t : TypeId) (cs : Array Value) : Blk (((w.setCell p v).setCell q u).alloc (.cells cs t)) w.heap.size t cs := by
  have := Blk.new ((w.setCell p v).setCell q u) t cs
  rw [size_setCell, size_setCell] at this
  exact this
theorem newS2 (w : World) (p : Addr) (v : Value) (o : Obj) (t : TypeId) (cs : Array Value) : Blk (((w.setCell p v).alloc o).alloc (.cells cs t)) (w.heap.size + 1) t cs := by
  have := Blk.new2 (w.setCell p v) o t cs
  rw [size_setCell] at this
  exact this
theorem setS {w : World} {g : Nat} {t : TypeId} {a v : Value} (h : Blk w g t #[a]) : Blk (w.setCell ⟨g, 0, none⟩ v) g t #[v] := h.set_ 0 v
set_option maxRecDepth 100000 in
set_option maxHeartbeats 8000000 in
theorem bextra_core {F : Fz} {w : World} (hF : Sat F w) (A : Option Addr) (n c : Nat) (hc : n ≤ c) (hn : n ≤ 1000) (vs : List Nat) (R : Nat) (hR : R ≤ 1000000)
    (hRE : ∀ X, Sat F X → Calls Tryz.prog 47 #[.slice A n c] X fun e w' => ∃ g gv, e = .returned (.slice (some ⟨g, 0, none⟩) n n) ∧ AtB w' g gv n vs ∧ X.heap.size ≤ g ∧ X.heap.size ≤ gv ∧ Below X.heap.size X w')
    (hO : ∀ X, Below w.heap.size w X → ∀ g gv gs gsv, w.heap.size ≤ g → gs ≠ g → gsv ≠ g → AtB X g gv n (List.replicate n 0) → AtB X gs gsv n vs →
      Calls Tryz.prog 48 #[.slice A n c, .func (.func 49) #[] #[.pointer (some ⟨gv, 0, none⟩), .pointer (some ⟨gsv, 0, none⟩)]] X fun e w' => e = .returned (encU R) ∧ Below w.heap.size X w') :
    Calls Tryz.prog 23 #[.slice A n c] w fun e w' => e = .returned (.int .i64 (R : Nat)) ∧ Below w.heap.size w w' := by
  have hmf : ∀ (fn : Fn) (first cap : Array Value) (w : World), (Instr.makeFunc fn first cap).run Tryz.prog w = .ok (.func fn first cap) w := fun _ _ _ _ => rfl
  have hmk := fun X => mk49 (w := X) n hn
  have HRE := Lib.hid hRE
  have HO := Lib.hid hO
  have HZ : Hid (((List.replicate n 0).map encU).toArray = zeros (.int .u64 0) n) := Lib.hid (by simp [zeros])
  clear hO hRE hc hn
  go_enter Tryz.func23, Tryz.ntmps23
  go_wp2_with fail
  go_cut [3, 4] from 5 to 9 (fun a b wx => ∃ g gv gs gsv : Nat, a = .pointer (some ⟨gsv, 0, none⟩) ∧ b = .pointer (some ⟨gv, 0, none⟩) ∧ AtB wx g gv n (List.replicate n 0) ∧ AtB wx gs gsv n vs ∧ gs ≠ g ∧ gsv ≠ g ∧ w.heap.size ≤ g ∧ Below w.heap.size w wx)
  case first =>
    go_region_with (go_at_call 47; refine (HRE.out _ (by (repeat refine Sat.alloc ?_ _); exact hF.drew)).mono ?_; rintro e w3 ⟨gs, gsv, rfl, hA, hg1, hg2, hw3⟩; (first | (refine (fun ek => ?_) (keep3 hw3); have hb3 := kb3 hw3; rw [sz3] at hg1 hg2; have f0 := (blk0 ek.1).1; have g0 := (blk0 ek.1).2; have f1 := (blk0 ek.2.1).1; have g1 := (blk0 ek.2.1).2; have f2 := (blk0 ek.2.2).1; have g2 := (blk0 ek.2.2).2; have l0 := ek.1.lt; have l1 := ek.2.1.lt; have l2 := ek.2.2.lt) | (refine (fun ek => ?_) (keep2 hw3); have hb3 := kb2 hw3; rw [sz2] at hg1 hg2; have f0 := (blk0 ek.1).1; have g0 := (blk0 ek.1).2; have f1 := (blk0 ek.2).1; have g1 := (blk0 ek.2).2; have l0 := ek.1.lt; have l1 := ek.2.lt) | (refine (fun ek => ?_) (keep1 hw3); have hb3 := kb1 hw3; rw [sz1] at hg1 hg2; have f0 := (blk0 ek).1; have g0 := (blk0 ek).2; have l0 := ek.lt) | (have hb3 := und hw3; have hg1 : w.heap.size ≤ gs := hg1; have hg2 : w.heap.size ≤ gsv := hg2; have ek := hA.at_; have hb3 : Below w.heap.size w w3 := hb3)))
    all_goals
      have hA1 := hA.at_.lt
      have hA2 := hA.var.lt
      have hz3 := hb3.size
      have kA := hA.at_
      have kV := hA.var
      try have e1 := ek.1
      try have e2 := ek.2.1
      try have e3 := ek.2.2
      try have e4 := ek.2
      go_wp2_with fail
      go_meet
      refine ⟨?_, _, gs, _, rfl, rfl, ⟨List.length_replicate, ?_, ?_⟩, ⟨hA.len, ?_, ?_⟩, ?_, ?_, ?_, ?_⟩
      rotate_left 2
      all_goals (try rw [HZ.out])
      all_goals first
        | ((repeat (first | with_reducible (exact Blk.new _ _ _) | with_reducible (exact newS _ _ _ _ _) | with_reducible (exact newSS _ _ _ _ _ _ _) | with_reducible (exact newS2 _ _ _ _ _ _) | with_reducible (exact Blk.new2 _ _ _ _) | with_reducible (exact new3 _ _ _ _ _) | with_reducible assumption | with_reducible (refine setS (a := .slice none 0 0) ?_) | ((with_reducible (refine Blk.far ?_ ?_ _)); rotate_left; (first | omega | (simp <;> omega))) | with_reducible (refine Blk.alloc ?_ _))); done)
        | ((repeat (first | with_reducible assumption | ((with_reducible (refine Below.setCell ?_ ?_ _)); rotate_left; (first | omega | (simp <;> omega))) | ((with_reducible (refine Below.alloc ?_ ?_ _)); rotate_left; (first | omega | (simp <;> omega))))); done)
        | omega
        | (simp <;> omega)
  case rest =>
    obtain ⟨g, gv, gs, gsv, rfl, rfl, hAe, hAr, hn1, hn2, hg, hbW⟩ := hcut
    clear hmk
    go_wp2_with (go_at_call 48; refine (HO.out wc hbW g gv gs gsv hg hn1 hn2 hAe hAr).mono ?_; rintro e w5 ⟨rfl, hw5⟩)
    go_ret
    exact ⟨rfl, hbW.trans hw5⟩
end Go.Proofs.YtdohbbjinbofbaaGreat
