/- A trace that came in, opened. -/
import Derived.Test.YtgmbicjcfhmcdaaRowN
import Derived.Test.YtgmbicjcfhmcdaaSatM
set_option linter.unusedVariables false
set_option linter.unusedSimpArgs false
namespace Go.Proofs.Ytgmbicjcfhmcdaa
open Go.ChangeShapes Go.WideShapes Go.ChangeAt Go.RowKit
section
variable {H : Type} {enc : TypeId × Value → H}
theorem cells_u64 : Try.prog.cellsOf 28 = 1 := by kernel_rfl
theorem cells_event : Try.prog.cellsOf 31 = 2 := by kernel_rfl
theorem cells_strs : Try.prog.cellsOf 24 = 1 := by kernel_rfl
theorem cells_events : Try.prog.cellsOf 25 = 1 := by kernel_rfl
theorem cells_trace : Try.prog.cellsOf 27 = 2 := by kernel_rfl
theorem ofU64 {z : Int} (h : (Lit.int .u64 z).wf = true) : 0 ≤ z ∧ z < 18446744073709551616 := by
  simp [Lit.wf, IntKind.min, IntKind.max, IntKind.signed, IntKind.bits] at h
  omega
/-- A list picked one by one. -/
theorem pick_list {α : Type} {P : Nat → α → Prop} : ∀ {k : Nat}, (∀ i, i < k → ∃ x, P i x) → ∃ l : List α, l.length = k ∧ ∀ i (h : i < l.length), P i l[i]
  | 0, _ => ⟨[], rfl, fun i hi => absurd hi (by simp)⟩
  | k + 1, h => by
    obtain ⟨l, hl, hg⟩ := pick_list (k := k) (fun i hi => h i (by omega))
    obtain ⟨x, hx⟩ := h k (by omega)
    refine ⟨l ++ [x], by simp [hl], fun i hi => ?_⟩
    rcases Nat.lt_or_ge i k with hlt | hge
    · rw [List.getElem_append_left (by omega)]
      exact hg i (by omega)
    · obtain rfl : i = k := by simp at hi; omega
      have e : (l ++ [x])[i] = x := by rw [List.getElem_append_right (by omega)]; simp [hl]
      rw [e]
      exact hx
theorem strs_of_trod {w : World} {fuel : Nat} {cs : List Value} {x : DataW H × List MemPlace} (hf : DataW.trod enc Try.prog w 0 (fun _ => true) true fuel 24 cs = some x) :
    ∃ (A : Option Addr) (n c : Nat) (ss : List ByteArray), cs = [.slice A n c] ∧ n ≤ c ∧ Rd (heapF w) 1 A n (ss.map Value.string) := by
  rcases Go.Deep.open_slice Try.underlying24 hf with ⟨h1, _⟩ | ⟨a', len, cap, m, n, D, Pl, h1, _, hlc, hcm, hm, _, hel⟩
  · exact ⟨none, 0, 0, [], h1, Nat.le_refl _, Rd.nil⟩
  · rw [if_pos rfl] at hm
    obtain ⟨ss, hl, hg⟩ := pick_list (P := fun i s => (heapF w).cell (a'.add i) = some (.string s)) (k := len) (fun i hi => by
      obtain ⟨cs', hcs, htr⟩ := hel i (by omega)
      obtain ⟨s, rfl, _, _⟩ := DataW.trod_string Try.underlying9 htr
      rw [cells_str, Nat.mul_one] at hcs
      obtain ⟨_, _, hat⟩ := World.cells?_some hcs
      have h0 := hat 0 (by omega)
      have hadd : (a'.add i).add 0 = a'.add i := by rw [add_of_add, Nat.add_zero]
      rw [hadd] at h0
      exact ⟨s, h0⟩)
    refine ⟨some a', len, cap, ss, h1, hlc, by simpa using hl, fun _ => ⟨a', rfl, fun j u hu => ?_⟩⟩
    have hj : j < ss.length := by
      have := (List.getElem?_eq_some_iff.1 hu).1
      simpa using this
    have := hg j hj
    rw [List.getElem?_map, List.getElem?_eq_getElem hj] at hu
    simp only [Option.map_some, Option.some.injEq] at hu
    rw [← hu]
    exact this
set_option maxRecDepth 100000 in
theorem event_of_trod {w : World} {fuel : Nat} {cs : List Value} {x : DataW H × List MemPlace} (hf : DataW.trod enc Try.prog w 0 (fun _ => true) true fuel 31 cs = some x) :
    ∃ (e : Evt) (A : Option Addr) (c : Nat), cs = [.int .u64 (e.time : Nat), .slice A e.ids.length c] ∧ e.time < 18446744073709551616 ∧ e.ids.length ≤ c ∧ Rd (heapF w) 1 A e.ids.length (e.ids.map (Value.int .i64)) := by
  obtain ⟨ys, m, _, _, hlen, hyl, hg⟩ := DataW.trod_struct Try.underlying31 hf
  rw [cells_event] at hlen
  obtain ⟨c0, c1, rfl⟩ := len2 hlen
  obtain ⟨y0, y1, rfl⟩ := len2 (show ys.length = 2 from hyl)
  have g0 := hg 0 _ rfl
  have g1 := hg 1 _ rfl
  simp only [List.getElem_toArray, List.getElem_cons_zero, List.getElem_cons_succ, cells_u64, cells_ints, List.drop_zero, List.drop_succ_cons, List.take_succ_cons, List.take_zero, List.getElem?_cons_zero, List.getElem?_cons_succ] at g0 g1
  obtain ⟨k, h0, hk, _⟩ := DataW.trod_int Try.underlying28 g0
  obtain ⟨A, n, c, ks, h4, h5, _, h6, h7, _⟩ := ints_of_trod Try.underlying29 Try.underlying3 cells_int g1
  subst h6
  simp only [List.cons.injEq, and_true] at h0 h4
  subst h0 h4
  have hkw : 0 ≤ k ∧ k < 18446744073709551616 := by
    first
      | exact ofU64 hk
      | exact ofU64 (by assumption)
  refine ⟨⟨k.toNat, ks⟩, A, c, ?_, by show k.toNat < 18446744073709551616; omega, h5, h7⟩
  show [Value.int .u64 k, _] = [Value.int .u64 ((k.toNat : Nat) : Int), _]
  rw [show ((k.toNat : Nat) : Int) = k by omega]
theorem events_of_trod {w : World} {fuel : Nat} {cs : List Value} {x : DataW H × List MemPlace} (hf : DataW.trod enc Try.prog w 0 (fun _ => true) true fuel 25 cs = some x) :
    ∃ (A : Option Addr) (n c : Nat) (es : List Evt), cs = [.slice A n c] ∧ n ≤ c ∧ EvsF (heapF w) A n es := by
  rcases Go.Deep.open_slice Try.underlying25 hf with ⟨h1, _⟩ | ⟨a', len, cap, m, n, D, Pl, h1, _, hlc, hcm, hm, _, hel⟩
  · exact ⟨none, 0, 0, [], h1, Nat.le_refl _, rfl, fun h => absurd h (by omega)⟩
  · rw [if_pos rfl] at hm
    obtain ⟨es, hl, hg⟩ := pick_list (P := fun i (e : Evt) => e.time < 18446744073709551616 ∧ ∃ Ai ci, e.ids.length ≤ ci ∧ Rd (heapF w) 1 Ai e.ids.length (e.ids.map (Value.int .i64)) ∧ (heapF w).cell (a'.add (i * 2)) = some (.int .u64 (e.time : Nat)) ∧ (heapF w).cell ((a'.add (i * 2)).add 1) = some (.slice Ai e.ids.length ci)) (k := len) (fun i hi => by
      obtain ⟨cs', hcs, htr⟩ := hel i (by omega)
      obtain ⟨e, Ai, ci, rfl, h2, h3, h4⟩ := event_of_trod htr
      rw [cells_event] at hcs
      obtain ⟨_, _, hat⟩ := World.cells?_some hcs
      have q0 := hat 0 (by omega)
      have q1 := hat 1 (by omega)
      rw [add_of_add, Nat.add_zero] at q0
      exact ⟨e, h2, Ai, ci, h3, h4, q0, q1⟩)
    exact ⟨some a', len, cap, es, h1, hlc, hl, fun _ => ⟨a', rfl, hg⟩⟩
set_option maxRecDepth 100000 in
theorem trace_of_trod {w : World} {fuel : Nat} {cs : List Value} {x : DataW H × List MemPlace} (hf : DataW.trod enc Try.prog w 0 (fun _ => true) true fuel 27 cs = some x) :
    ∃ (An : Option Addr) (nn cn : Nat) (ss : List ByteArray) (Ae : Option Addr) (ne ce : Nat) (es : List Evt), cs = [.slice An nn cn, .slice Ae ne ce] ∧ nn ≤ cn ∧ ne ≤ ce ∧ Rd (heapF w) 1 An nn (ss.map Value.string) ∧ EvsF (heapF w) Ae ne es := by
  obtain ⟨ys, m, _, _, hlen, hyl, hg⟩ := DataW.trod_struct Try.underlying27 hf
  rw [cells_trace] at hlen
  obtain ⟨c0, c1, rfl⟩ := len2 hlen
  obtain ⟨y0, y1, rfl⟩ := len2 (show ys.length = 2 from hyl)
  have g0 := hg 0 _ rfl
  have g1 := hg 1 _ rfl
  simp only [List.getElem_toArray, List.getElem_cons_zero, List.getElem_cons_succ, cells_strs, cells_events, List.drop_zero, List.drop_succ_cons, List.take_succ_cons, List.take_zero, List.getElem?_cons_zero, List.getElem?_cons_succ] at g0 g1
  obtain ⟨An, nn, cn, ss, h0, h1, h2⟩ := strs_of_trod g0
  obtain ⟨Ae, ne, ce, es, h3, h4, h5⟩ := events_of_trod g1
  simp only [List.cons.injEq, and_true] at h0 h3
  subst h0 h3
  exact ⟨An, nn, cn, ss, Ae, ne, ce, es, rfl, h1, h4, h2, h5⟩
end
end Go.Proofs.Ytgmbicjcfhmcdaa
