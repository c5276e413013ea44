/- The queue of package merge: its methods, as a heap calls them. -/
import Derived.Test.YtgmbicjcfhmcdaaMergeP
import Derived.Test.YtgmbicjcfhmcdaaSatCut
import Derived.Deep.LoopGhost
set_option linter.unusedVariables false
set_option linter.unusedSimpArgs false
/-! The queue of package merge: its methods, as a heap calls them. -/
namespace Go.Proofs.Ytgmbicjcfhmcdaa
open Go.RowKit
attribute [local go_sem ↓] Go.wp_at_zero Go.wp_at_succ
theorem nilchk (a : Array TypeId) (t : TypeId) (p : Addr) (s r : String) : Builtin.ssaWrapNilChk_ a t #[.pointer (some p), strVal s, strVal r] = pure (.pointer (some p)) := rfl
set_option maxRecDepth 20000 in
set_option maxHeartbeats 1000000 in
theorem q_method {w : World} {g : Nat} {A : Option Addr} {n c : Nat} (hc : w.cell? ⟨g, 0, none⟩ = some (.slice A n c)) (name : String) (f : FuncId) (b : Bool) (k : Nat)
    (h1 : ((Try.prog.info? 51).bind fun i => (i.methods.find? (·.name == name)).map fun m => (m.path, m.func)) = some (#[], some (f, b)))
    (h2 : Try.prog.underlying 51 = some (.pointer 53)) (h3 : (Try.prog.info? 53).map (fun i => i.size) = some 1) :
    Sem.run Try.prog (method (k + 1) 51 (.pointer (some ⟨g, 0, none⟩)) name) w = .ok (f, if b = true then .pointer (some ⟨g, 0, none⟩) else .slice A n c) w := by
  unfold method
  cases hi : Try.prog.info? 51 with
  | none => rw [hi] at h1; cases h1
  | some i =>
    rw [hi] at h1
    simp only [Option.bind_some, Option.map_eq_some_iff] at h1
    obtain ⟨m, hm, he⟩ := h1
    injection he with e1 e2
    cases b
    · simp [go_sem, typeInfo, hi, hm, e1, e2, follow, receiverAt, h2, Place.get, nilchk, hc]
    · simp [go_sem, typeInfo, hi, hm, e1, e2, follow, receiverAt, h2, Place.get]
section
variable {w : World} {g : Nat} {A : Option Addr} {n c : Nat}
theorem q_len (k : Nat) (hc : w.cell? ⟨g, 0, none⟩ = some (.slice A n c)) : Sem.run Try.prog (method (k + 1) 51 (.pointer (some ⟨g, 0, none⟩)) "Len") w = .ok (20, .slice A n c) w :=
  q_method hc "Len" 20 false k (by kernel_rfl) Try.underlying51 (by kernel_rfl)
theorem q_less (k : Nat) (hc : w.cell? ⟨g, 0, none⟩ = some (.slice A n c)) : Sem.run Try.prog (method (k + 1) 51 (.pointer (some ⟨g, 0, none⟩)) "Less") w = .ok (104, .slice A n c) w :=
  q_method hc "Less" 104 false k (by kernel_rfl) Try.underlying51 (by kernel_rfl)
theorem q_swap (k : Nat) (hc : w.cell? ⟨g, 0, none⟩ = some (.slice A n c)) : Sem.run Try.prog (method (k + 1) 51 (.pointer (some ⟨g, 0, none⟩)) "Swap") w = .ok (106, .slice A n c) w :=
  q_method hc "Swap" 106 false k (by kernel_rfl) Try.underlying51 (by kernel_rfl)
theorem q_pop (k : Nat) (hc : w.cell? ⟨g, 0, none⟩ = some (.slice A n c)) : Sem.run Try.prog (method (k + 1) 51 (.pointer (some ⟨g, 0, none⟩)) "Pop") w = .ok (105, .pointer (some ⟨g, 0, none⟩)) w :=
  q_method hc "Pop" 105 true k (by kernel_rfl) Try.underlying51 (by kernel_rfl)
end
section
variable {F : Fz} {w : World} {B : Nat} {e : TypeId} {g n c s : Nat} {xs : List Value}
theorem ownAddrN {A : Option Addr} (h : Own F w B e s (.slice A n c) n xs) (hn : 0 < n) : ∃ g, A = some ⟨g, 0, none⟩ := by
  obtain ⟨⟨hl, h1⟩, h2⟩ := h
  rcases h1 with ⟨h3, h4⟩ | ⟨g', cap, cur, h3, hbase, hb, h5, h6, h7, h8⟩
  · omega
  · injection h3 with h3
    exact ⟨g', h3⟩
theorem ownCellN (h : Own F w B e s (.slice (some ⟨g, 0, none⟩) n c) n xs) {i : Nat} (hi : i < n * s) : w.cell? ⟨g, i, none⟩ = xs[i]? ∧ w.frozen? ⟨g, i, none⟩ = false ∧ B ≤ g := by
  obtain ⟨⟨hl, h1⟩, h2⟩ := h
  rcases h1 with ⟨h3, _⟩ | ⟨g', cap, cur, h3, hbase, hb, h5, h6, h7, h8⟩
  · cases h3
  · injection h3 with h3 _ h4
    injection h3 with h3
    injection h3 with h3
    subst h3 h4
    have hB : Blk w g e cur := hb
    refine ⟨?_, hB.frozen i, hbase⟩
    rw [hB.cell, ← h8, List.getElem?_take_of_lt hi, Array.getElem?_toList]
theorem ownStoreN (h : Own F w B e s (.slice (some ⟨g, 0, none⟩) n c) n xs) (i : Nat) (y : Value) : Own F (w.setCell ⟨g, i, none⟩ y) B e s (.slice (some ⟨g, 0, none⟩) n c) n (xs.set i y) := by
  obtain ⟨⟨hl, h1⟩, h2⟩ := h
  rcases h1 with ⟨h3, _⟩ | ⟨g', cap, cur, h3, hbase, hb, h5, h6, h7, h8⟩
  · cases h3
  · injection h3 with h3 _ h4
    injection h3 with h3
    injection h3 with h3
    subst h3 h4
    have hB : Blk w g e cur := hb
    refine ⟨⟨by simpa using hl, .inr ⟨g, c, _, rfl, hbase, hB.set_ i y, h5, h6, by simpa using h7, ?_⟩⟩, h2⟩
    rw [Array.toList_setIfInBounds, ← h8, List.take_set]
end
abbrev tmV (e : Evt) : Nat := e.time
/-- A line: the rest of a row of events, and the row's number. -/
abbrev Ln := List Evt × Nat
def lnC (S : Nat → Addr × Nat) (E : Nat → List Evt) (x : Ln) : List Value :=
  [.slice (some ((S x.2).1.add (((E x.2).length - x.1.length) * 2))) x.1.length ((S x.2).2 - ((E x.2).length - x.1.length)), .int .i64 (x.2 : Nat)]
def linesC (S : Nat → Addr × Nat) (E : Nat → List Evt) (xs : List Ln) : List Value := xs.flatMap (lnC S E)
theorem get_linesC (S : Nat → Addr × Nat) (E : Nat → List Evt) : ∀ (xs : List Ln) (i : Nat) (x : Ln), xs[i]? = some x → (linesC S E xs)[i * 2]? = (lnC S E x)[0]? ∧ (linesC S E xs)[i * 2 + 1]? = (lnC S E x)[1]?
  | [], i, x, h => by simp at h
  | y :: xs, 0, x, h => by
    simp at h
    subst h
    simp [linesC, lnC]
  | y :: xs, i + 1, x, h => by
    have := get_linesC S E xs i x (by simpa using h)
    obtain ⟨a, b, e⟩ : ∃ a b, linesC S E (y :: xs) = a :: b :: linesC S E xs := ⟨_, _, rfl⟩
    rw [e, show (i + 1) * 2 = i * 2 + 1 + 1 by omega]
    exact this
/-- The lines are such rests, of rows that read as events. -/
def LnF (F : Fz) (S : Nat → Addr × Nat) (E : Nat → List Evt) (x : Ln) : Prop := x.1 ≠ [] ∧ x.1 = (E x.2).drop ((E x.2).length - x.1.length) ∧ EvsF F (some (S x.2).1) (E x.2).length (E x.2) ∧ (E x.2).length ≤ (S x.2).2 ∧ (E x.2).length ≤ 1000 ∧ x.2 ≤ 1000
theorem LnF.head {F : Fz} {S : Nat → Addr × Nat} {E : Nat → List Evt} {x : Ln} (h : LnF F S E x) : headT tmV x.1 < 18446744073709551616 ∧ F.cell ((S x.2).1.add (((E x.2).length - x.1.length) * 2)) = some (.int .u64 (headT tmV x.1 : Nat)) ∧ 0 < x.1.length ∧ x.1.length ≤ 1000 := by
  obtain ⟨h1, h2, h3, h4, h5, h6⟩ := h
  have hd := h3.drop (k := (E x.2).length - x.1.length) (by omega)
  have hl : 0 < x.1.length := List.length_pos_iff.2 h1
  have hle : x.1.length ≤ (E x.2).length := by have := congrArg List.length h2; simp at this; omega
  rw [← h2, show (E x.2).length - ((E x.2).length - x.1.length) = x.1.length by omega] at hd
  obtain ⟨ht, ad, e, hc⟩ := hd.at_ (i := 0) hl
  injection e with e
  subst e
  have e0 : timeE x.1 0 = headT tmV x.1 := by
    unfold timeE headT
    cases hx : x.1 with
    | nil => exact absurd hx h1
    | cons a r => rfl
  rw [e0] at ht hc
  rw [show ((S x.2).1.add (((E x.2).length - x.1.length) * 2)).add (0 * 2) = (S x.2).1.add (((E x.2).length - x.1.length) * 2) by unfold Addr.add; simp] at hc
  exact ⟨ht, hc, hl, by omega⟩
set_option maxRecDepth 100000 in
set_option maxHeartbeats 2000000 in
theorem qless_w {F : Fz} {w : World} (hF : Sat F w) (S : Nat → Addr × Nat) (E : Nat → List Evt) (xs : List Ln) (hx : ∀ x ∈ xs, LnF F S E x) (g n c B : Nat) (hn : xs.length = n) (hn1 : n ≤ 1000) (hO : Own F w B 55 2 (.slice (some ⟨g, 0, none⟩) n c) n (linesC S E xs)) (i j : Nat) (hi : i < n) (hj : j < n) :
    Calls Try.prog 104 #[.slice (some ⟨g, 0, none⟩) n c, .int .i64 i, .int .i64 j] w fun e w' => e = .returned (.bool (ltL tmV (xs.getD i default) (xs.getD j default))) ∧ ∃ q, w' = w.drewN q := by
  have hil : i < xs.length := by omega
  have hjl : j < xs.length := by omega
  have g1 := get_linesC S E xs i xs[i] (List.getElem?_eq_getElem hil)
  have g2 := get_linesC S E xs j xs[j] (List.getElem?_eq_getElem hjl)
  obtain ⟨t1, c1, l1, m1⟩ := (hx _ (List.getElem_mem hil)).head
  obtain ⟨t2, c2, l2, m2⟩ := (hx _ (List.getElem_mem hjl)).head
  have e1 : xs.getD i default = xs[i] := by rw [List.getD, List.getElem?_eq_getElem hil]; rfl
  have e2 : xs.getD j default = xs[j] := by rw [List.getD, List.getElem?_eq_getElem hjl]; rfl
  rw [e1, e2]
  obtain ⟨a1, _⟩ := ownCellN hO (i := i * 2) (by omega)
  obtain ⟨a2, _⟩ := ownCellN hO (i := i * 2 + 1) (by omega)
  obtain ⟨b1, _⟩ := ownCellN hO (i := j * 2) (by omega)
  obtain ⟨b2, _⟩ := ownCellN hO (i := j * 2 + 1) (by omega)
  rw [g1.1] at a1
  rw [g1.2] at a2
  rw [g2.1] at b1
  rw [g2.2] at b2
  have d1 := hF.cell c1
  have d2 := hF.cell c2
  clear g1 g2 hO hx e1 e2 c1 c2
  have HL : Hid (ltL tmV xs[i] xs[j] = if headT tmV xs[i].1 = headT tmV xs[j].1 then decide (xs[i].2 < xs[j].2) else decide (headT tmV xs[i].1 < headT tmV xs[j].1)) := Lib.hid rfl
  obtain ⟨R, hR⟩ : ∃ R, ltL tmV xs[i] xs[j] = R := ⟨_, rfl⟩
  rw [hR] at HL ⊢
  generalize xs[i] = x at *
  generalize xs[j] = y at *
  clear hR
  obtain ⟨rx, bx⟩ := x
  obtain ⟨ry, bY⟩ := y
  dsimp only [lnC] at *
  replace a1 : w.cell? ⟨g, i * 2, none⟩ = some (.slice (some ((S bx).1.add (((E bx).length - rx.length) * 2))) rx.length ((S bx).2 - ((E bx).length - rx.length))) := a1
  replace a2 : w.cell? ⟨g, i * 2 + 1, none⟩ = some (.int .i64 (bx : Nat)) := a2
  replace b1 : w.cell? ⟨g, j * 2, none⟩ = some (.slice (some ((S bY).1.add (((E bY).length - ry.length) * 2))) ry.length ((S bY).2 - ((E bY).length - ry.length))) := b1
  replace b2 : w.cell? ⟨g, j * 2 + 1, none⟩ = some (.int .i64 (bY : Nat)) := b2
  generalize (S bx).1.add (((E bx).length - rx.length) * 2) = ax at *
  generalize (S bY).1.add (((E bY).length - ry.length) * 2) = ay at *
  generalize (S bx).2 - ((E bx).length - rx.length) = cx at *
  generalize (S bY).2 - ((E bY).length - ry.length) = cy at *
  generalize headT tmV rx = tx at *
  generalize headT tmV ry = ty at *
  obtain ⟨nx, hnx⟩ : ∃ nx, rx.length = nx := ⟨_, rfl⟩
  obtain ⟨ny, hny⟩ : ∃ ny, ry.length = ny := ⟨_, rfl⟩
  rw [hnx] at a1 l1 m1
  rw [hny] at b1 l2 m2
  have hiI : (i : Int) < (n : Int) := by omega
  have hjI : (j : Int) < (n : Int) := by omega
  have l1I : (0 : Int) < (nx : Int) := by omega
  have l2I : (0 : Int) < (ny : Int) := by omega
  clear hnx hny hil hjl hn
  by_cases ht : tx = ty
  · subst ht
    have hb : ((tx : Int) != (tx : Int)) = false := by simp
    have HR : Hid (decide ((bx : Int) < (bY : Int)) = R) := Lib.hid (by rw [HL.out, if_pos rfl]; simp)
    go_enter Try.func104, Try.ntmps104
    go_wp2_with fail
    go_quiet (fail)
    go_wp2_with fail
    go_quiet (fail)
    go_wp2_with fail
    go_ret
    exact ⟨by rw [← HR.out]; first | rfl | simp, by first | exact ⟨_, rfl⟩ | exact ⟨_, World.drewN_drewN _ _ _⟩⟩
  · have hb : ((tx : Int) != (ty : Int)) = true := by rw [bne_iff_ne]; omega
    have HR : Hid (decide ((tx : Int) < (ty : Int)) = R) := Lib.hid (by rw [HL.out, if_neg ht]; simp)
    go_enter Try.func104, Try.ntmps104
    go_wp2_with fail
    go_quiet (fail)
    go_wp2_with fail
    go_ret
    exact ⟨by rw [← HR.out]; first | rfl | simp, ⟨_, rfl⟩⟩
theorem line_cells {F : Fz} {w : World} {S : Nat → Addr × Nat} {E : Nat → List Evt} {xs : List Ln} {g n c B : Nat} (hn : xs.length = n) (hO : Own F w B 55 2 (.slice (some ⟨g, 0, none⟩) n c) n (linesC S E xs)) {i : Nat} (hi : i < n) :
    w.cell? ⟨g, i * 2, none⟩ = (lnC S E (xs.getD i default))[0]? ∧ w.cell? ⟨g, i * 2 + 1, none⟩ = (lnC S E (xs.getD i default))[1]? ∧ w.frozen? ⟨g, i * 2, none⟩ = false ∧ w.frozen? ⟨g, i * 2 + 1, none⟩ = false := by
  have hil : i < xs.length := by omega
  have g1 := get_linesC S E xs i xs[i] (List.getElem?_eq_getElem hil)
  have e1 : xs.getD i default = xs[i] := by rw [List.getD, List.getElem?_eq_getElem hil]; rfl
  obtain ⟨a1, f1, _⟩ := ownCellN hO (i := i * 2) (by omega)
  obtain ⟨a2, f2, _⟩ := ownCellN hO (i := i * 2 + 1) (by omega)
  rw [e1, ← g1.1, ← g1.2]
  exact ⟨a1, a2, f1, f2⟩
theorem lines_set (S : Nat → Addr × Nat) (E : Nat → List Evt) (x : Ln) (v0 v1 : Value) (h : lnC S E x = [v0, v1]) : ∀ (xs : List Ln) (i : Nat), linesC S E (xs.set i x) = ((linesC S E xs).set (i * 2) v0).set (i * 2 + 1) v1
  | [], i => by simp [linesC]
  | y :: xs, 0 => by
    obtain ⟨a, b, e⟩ : ∃ a b, linesC S E (y :: xs) = a :: b :: linesC S E xs := ⟨_, _, rfl⟩
    rw [List.set_cons_zero, e, show linesC S E (x :: xs) = lnC S E x ++ linesC S E xs from rfl, h]
    simp
  | y :: xs, i + 1 => by
    obtain ⟨a, b, e⟩ : ∃ a b, ∀ zs, linesC S E (y :: zs) = a :: b :: linesC S E zs := ⟨_, _, fun _ => rfl⟩
    rw [List.set_cons_succ, e, e, lines_set S E x v0 v1 h xs i, show (i + 1) * 2 = i * 2 + 1 + 1 by omega]
    simp
theorem lines_swap (S : Nat → Addr × Nat) (E : Nat → List Evt) (xs : List Ln) (i j : Nat) (a0 a1 b0 b1 : Value) (ha : lnC S E (xs.getD i default) = [a0, a1]) (hb : lnC S E (xs.getD j default) = [b0, b1]) :
    linesC S E (swapL xs i j) = ((((linesC S E xs).set (i * 2) b0).set (i * 2 + 1) b1).set (j * 2) a0).set (j * 2 + 1) a1 := by
  unfold swapL
  rw [lines_set S E _ a0 a1 ha, lines_set S E _ b0 b1 hb]
set_option maxRecDepth 100000 in
set_option maxHeartbeats 2000000 in
theorem qswap_w {F : Fz} {w : World} (hF : Sat F w) (S : Nat → Addr × Nat) (E : Nat → List Evt) (xs : List Ln) (g n c B : Nat) (hn : xs.length = n) (hn1 : n ≤ 1000) (hO : Own F w B 55 2 (.slice (some ⟨g, 0, none⟩) n c) n (linesC S E xs)) (i j : Nat) (hi : i < n) (hj : j < n) :
    Calls Try.prog 106 #[.slice (some ⟨g, 0, none⟩) n c, .int .i64 i, .int .i64 j] w fun e w' => e = .returned (.tuple #[]) ∧ Own F w' B 55 2 (.slice (some ⟨g, 0, none⟩) n c) n (linesC S E (swapL xs i j)) ∧ Sat F w' ∧ Wr [g] w w' := by
  obtain ⟨a1, a2, fa1, fa2⟩ := line_cells hn hO hi
  obtain ⟨b1, b2, fb1, fb2⟩ := line_cells hn hO hj
  obtain ⟨ax, nx, cx, bx, hax⟩ : ∃ ax nx cx bx, lnC S E (xs.getD i default) = [.slice (some ax) nx cx, .int .i64 (bx : Nat)] := ⟨_, _, _, _, rfl⟩
  obtain ⟨ay, ny, cy, bY, hay⟩ : ∃ ax nx cx bx, lnC S E (xs.getD j default) = [.slice (some ax) nx cx, .int .i64 (bx : Nat)] := ⟨_, _, _, _, rfl⟩
  rw [hax] at a1 a2
  rw [hay] at b1 b2
  replace a1 : w.cell? ⟨g, i * 2, none⟩ = some (.slice (some ax) nx cx) := a1
  replace a2 : w.cell? ⟨g, i * 2 + 1, none⟩ = some (.int .i64 (bx : Nat)) := a2
  replace b1 : w.cell? ⟨g, j * 2, none⟩ = some (.slice (some ay) ny cy) := b1
  replace b2 : w.cell? ⟨g, j * 2 + 1, none⟩ = some (.int .i64 (bY : Nat)) := b2
  have hiI : (i : Int) < (n : Int) := by omega
  have hjI : (j : Int) < (n : Int) := by omega
  have hgF : F g = none := hO.2 g rfl
  have HOU : Hid (Own F ((((w.setCell ⟨g, i * 2, none⟩ (.slice (some ay) ny cy)).setCell ⟨g, i * 2 + 1, none⟩ (.int .i64 (bY : Nat))).setCell ⟨g, j * 2, none⟩ (.slice (some ax) nx cx)).setCell ⟨g, j * 2 + 1, none⟩ (.int .i64 (bx : Nat))) B 55 2 (.slice (some ⟨g, 0, none⟩) n c) n (linesC S E (swapL xs i j))) := Lib.hid (by
    rw [lines_swap S E xs i j _ _ _ _ hax hay]
    exact ownStoreN (ownStoreN (ownStoreN (ownStoreN hO _ _) _ _) _ _) _ _)
  have HSA : Hid (∀ u1 u2 u3 u4 : Value, Sat F ((((w.setCell ⟨g, i * 2, none⟩ u1).setCell ⟨g, i * 2 + 1, none⟩ u2).setCell ⟨g, j * 2, none⟩ u3).setCell ⟨g, j * 2 + 1, none⟩ u4)) := Lib.hid (fun u1 u2 u3 u4 => (((hF.setCell (p := ⟨g, i * 2, none⟩) hgF u1).setCell (p := ⟨g, i * 2 + 1, none⟩) hgF u2).setCell (p := ⟨g, j * 2, none⟩) hgF u3).setCell (p := ⟨g, j * 2 + 1, none⟩) hgF u4)
  have HWR : Hid (∀ u1 u2 u3 u4 : Value, Wr [g] w ((((w.setCell ⟨g, i * 2, none⟩ u1).setCell ⟨g, i * 2 + 1, none⟩ u2).setCell ⟨g, j * 2, none⟩ u3).setCell ⟨g, j * 2 + 1, none⟩ u4)) := Lib.hid (fun u1 u2 u3 u4 => ((((Wr.refl _ _).set (by simp) _ _).set (by simp) _ _).set (by simp) _ _).set (by simp) _ _)
  clear hO hF hax hay hgF hn
  by_cases hij : i = j
  · subst hij
    obtain ⟨rfl, rfl, rfl⟩ : ay = ax ∧ ny = nx ∧ cy = cx := by rw [a1] at b1; injection b1 with b1; injection b1 with b1 b3 b4; injection b1 with b1; exact ⟨b1.symm, b3.symm, b4.symm⟩
    obtain rfl : bY = bx := by rw [a2] at b2; injection b2 with b2; injection b2 with _ b2; omega
    clear b1 b2 fb1 fb2
    go_enter Try.func106, Try.ntmps106
    go_wp2_with fail
    go_region
    all_goals
      go_wp2_with fail
      go_end0
      exact ⟨rfl, HOU.out.drew, (HSA.out _ _ _ _).drew, (HWR.out _ _ _ _).drew⟩
  · have n1 : ¬ i * 2 = j * 2 := by omega
    have n2 : ¬ i * 2 + 1 = j * 2 + 1 := by omega
    have n3 : ¬ i * 2 = j * 2 + 1 := by omega
    have n4 : ¬ i * 2 + 1 = j * 2 := by omega
    have n5 : ¬ j * 2 = i * 2 := by omega
    have n6 : ¬ j * 2 + 1 = i * 2 + 1 := by omega
    have n7 : ¬ j * 2 = i * 2 + 1 := by omega
    have n8 : ¬ j * 2 + 1 = i * 2 := by omega
    go_enter Try.func106, Try.ntmps106
    go_wp2_with fail
    go_region
    all_goals
      go_wp2_with fail
      go_end0
      exact ⟨rfl, HOU.out.drew, (HSA.out _ _ _ _).drew, (HWR.out _ _ _ _).drew⟩
end Go.Proofs.Ytgmbicjcfhmcdaa
