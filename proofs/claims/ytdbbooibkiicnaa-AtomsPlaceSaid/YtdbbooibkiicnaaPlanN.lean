/- The walks of Next, Ends, Zero of package atoms. -/
import Derived.Test.YtdbbooibkiicnaaPlanO
set_option linter.unusedVariables false
set_option linter.unusedSimpArgs false
namespace Go.Proofs.Ytdbbooibkiicnaa
open Go.RowKit
def stateK (z : Zf) (t : Tr) (k : Int) : (Nat → Nat → Bool) × (Nat → Bool) := if 0 ≤ k then stateO z t k.toNat else (fun _ _ => false, fun _ => false)
theorem WdG.heap {m : Nat} {F : Fz} {w : World} {v : Value} {p : Nat → Bool} (h : WdG m F v p) (hF : Sat F w) : WdG m (heapF w) v p := let ⟨hm, A, c, e, hr⟩ := h; ⟨hm, A, c, e, hr.heap hF⟩
theorem WdG.below {m : Nat} {w w' : World} {v : Value} {p : Nat → Bool} (h : WdG m (heapF w) v p) (hb : Below w.heap.size w w') : WdG m (heapF w') v p := h.heap ((sat_heapF w).below hb)
/-- What Next gives: of each step where it is ahead. -/
def RetNx (m M : Nat) (w : World) (O : Nat → Nat → Bool) (e : Ending) (w' : World) : Prop := ∃ go, e = .returned (.slice (some ⟨go, 0, none⟩) M M) ∧ w.heap.size ≤ go ∧ Below w.heap.size w w' ∧ ZF w' go M [] m O
def RetEn (m : Nat) (w : World) (E : Nat → Bool) (e : Ending) (w' : World) : Prop := ∃ v, e = .returned v ∧ Below w.heap.size w w' ∧ WdG m (heapF w') v E
set_option maxRecDepth 100000 in
theorem aofNo_w {F : Fz} {w : World} (hF : Sat F w) (n : Int) (l : List Nd) (hn : l.length ≤ 1000) (Al : Option Addr) (N cl : Nat) (hl : NodesF F Al N l) (hbad : (n < 0 ∨ 10 < n) ∨ regL l = false) (At : Option Addr) (nt ct : Nat) :
    Calls Try.prog 58 #[.int .i64 n, .slice Al N cl, .slice At nt ct] w fun e w' => e = .returned (.pointer none) ∧ Below w.heap.size w w' := by
  by_cases h1 : n < 0 ∨ 10 < n
  · have hW := Lib.hid (fun (X : World) => words_no n h1 X)
    clear h1 hbad hl hn hF
    go_enter Try.func58, Try.ntmps58
    go_wp2_with (go_at_call 35; refine (hW.out _).mono ?_; rintro e w' ⟨rfl, rfl⟩)
    go_ret
    exact ⟨rfl, Below.refl _ _⟩
  · obtain ⟨m, rfl⟩ : ∃ m : Nat, n = (m : Int) := ⟨n.toNat, by omega⟩
    have hm : m ≤ 10 := by omega
    have hr : regL l = false := hbad.resolve_left h1
    have hW := Lib.hid (fun (X : World) => words_yes m hm X)
    have hR := Lib.hid (treg_w hF l hn Al N cl hl false hr)
    have hw1 : wordsN m ≠ 0 := by unfold wordsN; split <;> simp
    have hwI : ((wordsN m : Int) == 0) = false := by rw [beq_eq_false_iff_ne]; omega
    clear h1 hbad hl hn hr hw1 hF
    go_enter Try.func58, Try.ntmps58
    go_wp2_with (first
      | (go_at_call 35; refine (hW.out _).mono ?_; rintro e w' ⟨rfl, rfl⟩)
      | (go_at_call 30; refine hR.out.mono ?_; rintro e w1 ⟨rfl, hw1⟩))
    go_ret
    exact ⟨rfl, hw1⟩
set_option maxRecDepth 100000 in
theorem anextNo_w {F : Fz} {w : World} (hF : Sat F w) (n : Int) (l : List Nd) (hn : l.length ≤ 1000) (Al : Option Addr) (N cl : Nat) (hl : NodesF F Al N l) (hbad : (n < 0 ∨ 10 < n) ∨ regL l = false) (k : Int) (At : Option Addr) (nt ct : Nat) :
    Calls Try.prog 28 #[.int .i64 n, .slice Al N cl, .int .i64 k, .slice At nt ct] w fun e w' => e = .returned (.slice none 0 0) ∧ Below w.heap.size w w' := by
  have HO := Lib.hid (aofNo_w hF n l hn Al N cl hl hbad At nt ct)
  clear hl hn hbad hF
  go_enter Try.func28, Try.ntmps28
  go_wp2_with (go_at_call 58; refine HO.out.mono ?_; rintro e w1 ⟨rfl, hw1⟩)
  go_ret
  exact ⟨rfl, hw1⟩
set_option maxRecDepth 100000 in
theorem aendsNo_w {F : Fz} {w : World} (hF : Sat F w) (n : Int) (l : List Nd) (hn : l.length ≤ 1000) (Al : Option Addr) (N cl : Nat) (hl : NodesF F Al N l) (hbad : (n < 0 ∨ 10 < n) ∨ regL l = false) (k : Int) (At : Option Addr) (nt ct : Nat) :
    Calls Try.prog 29 #[.int .i64 n, .slice Al N cl, .int .i64 k, .slice At nt ct] w fun e w' => e = .returned (.slice none 0 0) ∧ Below w.heap.size w w' := by
  have HO := Lib.hid (aofNo_w hF n l hn Al N cl hl hbad At nt ct)
  clear hl hn hbad hF
  go_enter Try.func29, Try.ntmps29
  go_wp2_with (go_at_call 58; refine HO.out.mono ?_; rintro e w1 ⟨rfl, hw1⟩)
  go_ret
  exact ⟨rfl, hw1⟩
set_option maxRecDepth 100000 in
theorem azeroNo_w {F : Fz} {w : World} (hF : Sat F w) (n : Int) (l : List Nd) (hn : l.length ≤ 1000) (Al : Option Addr) (N cl : Nat) (hl : NodesF F Al N l) (hbad : (n < 0 ∨ 10 < n) ∨ regL l = false) (At : Option Addr) (nt ct : Nat) :
    Calls Try.prog 27 #[.int .i64 n, .slice Al N cl, .slice At nt ct] w fun e w' => e = .returned (.slice none 0 0) ∧ Below w.heap.size w w' := by
  have HO := Lib.hid (aendsNo_w hF n l hn Al N cl hl hbad 0 At nt ct)
  clear hl hn hbad hF
  go_enter Try.func27, Try.ntmps27
  go_wp2_with (go_at_call 29; refine HO.out.mono ?_; rintro e w1 ⟨rfl, hw1⟩)
  go_ret
  exact ⟨rfl, hw1⟩
set_option maxRecDepth 100000 in
theorem anext_w {F : Fz} {w : World} (hF : Sat F w) (m : Nat) (hm : m ≤ 10) (l : List Nd) (hn : l.length ≤ 1000) (Al : Option Addr) (N cl : Nat) (hl : NodesF F Al N l) {t : Tr} (ht : treeS l = some t) (hr : regS t.root.kind = true) (k : Int) (At : Option Addr) (nt ct : Nat) (hnt : nt ≤ 1000) (z : Zf) (hT : TsF m F At nt z) :
    Calls Try.prog 28 #[.int .i64 (m : Nat), .slice Al N cl, .int .i64 k, .slice At nt ct] w (RetNx m (stepsN t) w (stateK z t k).1) := by
  have HO := Lib.hid (aof_w hF m hm l hn Al N cl hl ht hr At nt ct hnt z hT)
  have hN : N ≤ 1000 := by have := hl.1; omega
  obtain ⟨O, E, hOE⟩ : ∃ O E, (O, E) = stateK z t k := ⟨_, _, rfl⟩
  rw [← hOE]
  have HOE := Lib.hid hOE
  obtain ⟨M0, hM0⟩ : ∃ M0, stepsN t = M0 := ⟨_, rfl⟩
  rw [hM0]
  have HM0 := Lib.hid hM0
  clear hl hn hT ht hr hnt hOE hF hM0
  go_enter Try.func28, Try.ntmps28
  go_wp2_with fail
  go_at_call 58
  refine HO.out.mono ?_
  rintro e w1 ⟨gp, M, ss, As, cs, gu, gz, gf, rfl, hb1, hP⟩
  obtain rfl : M0 = M := by rw [← HM0.out, ← hP.stepn, hP.steps, length_stepsL t 0 hP.reg]
  have HA := Lib.hid (ahead_w (sat_heapF w1) gp m hm l t z _ ss Al N cl As cs gu gz gf hP hN k O E HOE.out)
  clear hP HO HOE
  go_wp2_with (go_at_call 59; refine HA.out.mono ?_; rintro e w2 ⟨go, v, rfl, hgo, hb2, hZ, hE⟩)
  go_ret
  exact ⟨go, rfl, Nat.le_trans hb1.size hgo, bthen hb1 hb2, hZ⟩
set_option maxRecDepth 100000 in
theorem aends_w {F : Fz} {w : World} (hF : Sat F w) (m : Nat) (hm : m ≤ 10) (l : List Nd) (hn : l.length ≤ 1000) (Al : Option Addr) (N cl : Nat) (hl : NodesF F Al N l) {t : Tr} (ht : treeS l = some t) (hr : regS t.root.kind = true) (k : Int) (At : Option Addr) (nt ct : Nat) (hnt : nt ≤ 1000) (z : Zf) (hT : TsF m F At nt z) :
    Calls Try.prog 29 #[.int .i64 (m : Nat), .slice Al N cl, .int .i64 k, .slice At nt ct] w (RetEn m w (stateK z t k).2) := by
  have HO := Lib.hid (aof_w hF m hm l hn Al N cl hl ht hr At nt ct hnt z hT)
  have hN : N ≤ 1000 := by have := hl.1; omega
  obtain ⟨O, E, hOE⟩ : ∃ O E, (O, E) = stateK z t k := ⟨_, _, rfl⟩
  rw [← hOE]
  have HOE := Lib.hid hOE
  clear hl hn hT ht hr hnt hOE hF
  go_enter Try.func29, Try.ntmps29
  go_wp2_with fail
  go_at_call 58
  refine HO.out.mono ?_
  rintro e w1 ⟨gp, M, ss, As, cs, gu, gz, gf, rfl, hb1, hP⟩
  have HA := Lib.hid (ahead_w (sat_heapF w1) gp m hm l t z _ ss Al N cl As cs gu gz gf hP hN k O E HOE.out)
  clear hP HO HOE
  go_wp2_with (go_at_call 59; refine HA.out.mono ?_; rintro e w2 ⟨go, v, rfl, hgo, hb2, hZ, hE⟩)
  go_ret
  exact ⟨v, rfl, bthen hb1 hb2, hE⟩
set_option maxRecDepth 100000 in
theorem azero_w {F : Fz} {w : World} (hF : Sat F w) (m : Nat) (hm : m ≤ 10) (l : List Nd) (hn : l.length ≤ 1000) (Al : Option Addr) (N cl : Nat) (hl : NodesF F Al N l) {t : Tr} (ht : treeS l = some t) (hr : regS t.root.kind = true) (At : Option Addr) (nt ct : Nat) (hnt : nt ≤ 1000) (z : Zf) (hT : TsF m F At nt z) :
    Calls Try.prog 27 #[.int .i64 (m : Nat), .slice Al N cl, .slice At nt ct] w (RetEn m w (stateK z t 0).2) := by
  have HO := Lib.hid (aends_w hF m hm l hn Al N cl hl ht hr 0 At nt ct hnt z hT)
  clear hl hn hT ht hr hnt hF
  go_enter Try.func27, Try.ntmps27
  go_wp2_with (go_at_call 29; refine HO.out.mono ?_; rintro e w1 ⟨v, rfl, hb, hE⟩)
  go_ret
  exact ⟨v, rfl, hb, hE⟩
end Go.Proofs.Ytdbbooibkiicnaa
