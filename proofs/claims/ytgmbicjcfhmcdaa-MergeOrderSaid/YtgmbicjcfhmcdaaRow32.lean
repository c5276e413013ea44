/- Lists of traces and of parts that came in, opened. -/
import Derived.Test.YtgmbicjcfhmcdaaRowT
import Derived.Test.YtgmbicjcfhmcdaaTrs32
set_option linter.unusedVariables false
set_option linter.unusedSimpArgs false
namespace Go.Proofs.Ytgmbicjcfhmcdaa
open Go.ChangeShapes Go.WideShapes Go.ChangeAt Go.RowKit
section
variable {H : Type} {enc : TypeId × Value → H}
theorem cells_part : Try.prog.cellsOf 46 = 3 := by kernel_rfl
theorem cells_u16s : Try.prog.cellsOf 44 = 1 := by kernel_rfl
theorem cells_u16 : Try.prog.cellsOf 85 = 1 := by kernel_rfl
theorem cells_u8 : Try.prog.cellsOf 5 = 1 := by kernel_rfl
theorem len3 {α : Type} {l : List α} (h : l.length = 3) : ∃ a b c, l = [a, b, c] := by
  match l, h with
  | [a, b, c], _ => exact ⟨a, b, c, rfl⟩
set_option maxRecDepth 100000 in
theorem part_of_trod {w : World} {fuel : Nat} {cs : List Value} {x : DataW H × List MemPlace} (hf : DataW.trod enc Try.prog w 0 (fun _ => true) true fuel 46 cs = some x) :
    ∃ (s : PtS) (A : Option Addr) (c : Nat), cs = [.int .u64 (s.1 : Nat), .slice A s.2.1.length c, .int .u8 (s.2.2 : Nat)] ∧ s.1 < 18446744073709551616 ∧ s.2.2 < 256 ∧ (∀ k ∈ s.2.1, k < 65536) ∧ Rd (heapF w) 1 A s.2.1.length (s.2.1.map enc16) := by
  obtain ⟨ys, m, _, _, hlen, hyl, hg⟩ := DataW.trod_struct Try.underlying46 hf
  rw [cells_part] at hlen
  obtain ⟨c0, c1, c2, rfl⟩ := len3 hlen
  obtain ⟨y0, y1, y2, rfl⟩ := len3 (show ys.length = 3 from hyl)
  have g0 := hg 0 _ rfl
  have g1 := hg 1 _ rfl
  have g2 := hg 2 _ rfl
  simp only [List.getElem_toArray, List.getElem_cons_zero, List.getElem_cons_succ, cells_u64, cells_u16s, cells_u8, List.drop_zero, List.drop_succ_cons, List.take_succ_cons, List.take_zero, List.getElem?_cons_zero, List.getElem?_cons_succ] at g0 g1 g2
  obtain ⟨k, h0, hk, _⟩ := DataW.trod_int Try.underlying28 g0
  obtain ⟨A, n, c, zs, h4, h5, _, h6, h7, h8⟩ := ints_of_trod Try.underlying44 Try.underlying85 cells_u16 g1
  obtain ⟨k2, h9, hk2, _⟩ := DataW.trod_int Try.underlying5 g2
  subst h6
  simp only [List.cons.injEq, and_true] at h0 h4 h9
  subst h0 h4 h9
  have hkw : 0 ≤ k ∧ k < 18446744073709551616 := by
    first
      | exact ofU64 hk
      | exact ofU64 (by assumption)
  obtain ⟨k3, rfl, hk3⟩ := u8_of_wf (x := k2) (by first | exact hk2 | assumption)
  refine ⟨(k.toNat, zs.map Int.toNat, k3), A, c, ?_, by show k.toNat < 18446744073709551616; omega, hk3, fun q hq => ?_, ?_⟩
  · show [Value.int .u64 k, _, _] = [Value.int .u64 ((k.toNat : Nat) : Int), .slice A (zs.map Int.toNat).length c, _]
    rw [show ((k.toNat : Nat) : Int) = k by omega, List.length_map]
  · obtain ⟨z, hz, rfl⟩ := List.mem_map.1 hq
    have := ofU16 (h8 z hz)
    omega
  · have e : (zs.map Int.toNat).map enc16 = zs.map (Value.int .u16) := by
      rw [List.map_map]
      refine List.map_congr_left fun z hz => ?_
      have := ofU16 (h8 z hz)
      show Value.int .u16 ((z.toNat : Nat) : Int) = Value.int .u16 z
      congr 1
      omega
    show Rd (heapF w) 1 A (zs.map Int.toNat).length ((zs.map Int.toNat).map enc16)
    rw [e, List.length_map]
    exact h7
set_option maxRecDepth 100000 in
theorem parts_of_trod {w : World} {fuel : Nat} {cs : List Value} {x : DataW H × List MemPlace} (hf : DataW.trod enc Try.prog w 0 (fun _ => true) true fuel 38 cs = some x) :
    ∃ (A : Option Addr) (n c : Nat) (ps : List PtS), cs = [.slice A n c] ∧ n ≤ c ∧ PartsF (heapF w) A n ps := by
  rcases Go.Deep.open_slice Try.underlying38 hf with ⟨h1, _⟩ | ⟨a', len, cap, m, n, D, Pl, h1, _, hlc, hcm, hm, _, hel⟩
  · exact ⟨none, 0, 0, [], h1, Nat.le_refl _, rfl, fun h => absurd h (by omega)⟩
  · rw [if_pos rfl] at hm
    obtain ⟨ps, hl, hg⟩ := pick_list (P := fun i (s : PtS) => s.1 < 18446744073709551616 ∧ s.2.2 < 256 ∧ (∀ k ∈ s.2.1, k < 65536) ∧ ∃ An cn, (heapF w).cell (a'.add (i * 3)) = some (.int .u64 (s.1 : Nat)) ∧ (heapF w).cell ((a'.add (i * 3)).add 1) = some (.slice An s.2.1.length cn) ∧ (heapF w).cell ((a'.add (i * 3)).add 2) = some (.int .u8 (s.2.2 : Nat)) ∧ Rd (heapF w) 1 An s.2.1.length (s.2.1.map enc16)) (k := len) (fun i hi => by
      obtain ⟨cs', hcs, htr⟩ := hel i (by omega)
      obtain ⟨s, An, cn, rfl, h2, h3, h4, h5⟩ := part_of_trod htr
      rw [cells_part] at hcs
      obtain ⟨_, _, hat⟩ := World.cells?_some hcs
      have q0 := hat 0 (by omega)
      have q1 := hat 1 (by omega)
      have q2 := hat 2 (by omega)
      rw [add_of_add, Nat.add_zero] at q0
      exact ⟨s, h2, h3, h4, An, cn, q0, q1, q2, h5⟩)
    exact ⟨some a', len, cap, ps, h1, hlc, hl, fun _ => ⟨a', rfl, hg⟩⟩
set_option maxRecDepth 100000 in
theorem open_parts {w : World} {b0 : Nat} {v : Value} {d : DataW H} {p : List MemPlace} {r : Reach}
    (hv : Value.okWide Try.prog w r b0 38 v) (h : DataW.Trod enc Try.prog w 0 (fun _ => true) true 38 v d p) :
    ∃ (A : Option Addr) (n c : Nat) (ps : List PtS), v = .slice A n c ∧ n ≤ c ∧ PartsF (heapF w) A n ps := by
  obtain ⟨a, len, cap, rfl⟩ := okWide_slice Try.underlying38 hv
  obtain ⟨fuel, hf⟩ := h
  obtain ⟨A, n, c, ps, h1, h2, h3⟩ := parts_of_trod hf
  simp [Value.cells] at h1
  obtain ⟨rfl, rfl, rfl⟩ := h1
  exact ⟨a, len, cap, ps, rfl, h2, h3⟩
end
end Go.Proofs.Ytgmbicjcfhmcdaa
