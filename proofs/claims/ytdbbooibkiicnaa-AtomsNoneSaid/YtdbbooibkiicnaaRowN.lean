/- A law's row out of its contract: the arguments opened to lists, the last step. Plain lemmas for any law of this seat. -/
import Derived.Test.YtdbbooibkiicnaaTab1
import Derived.ProofKit
import Derived.WideKeyArgs
import Derived.Deep.Slices
import Derived.Test.YtdbbooibkiicnaaNodes
set_option linter.unusedVariables false
set_option linter.unusedSimpArgs false
/-! A law's row out of its contract: the arguments opened to lists, the last step. Plain lemmas for any law of this seat. -/
namespace Go.Proofs.Ytdbbooibkiicnaa
open Go.ChangeShapes Go.WideShapes Go.ChangeAt Go.RowKit

theorem Try.own : ownKnob Try.prog.godebug = none := by kernel_rfl
theorem Try.laidOut : laidOutB Try.prog = true := by kernel_rfl

section
variable {H : Type} {enc : TypeId × Value → H} {P : Program}
/-- What the arguments read as they still read as behind a call that only makes memory. -/
theorem trodAll_below (hl : laidOutB P = true) {W W' : World} (hb : Below W.heap.size W W') {sp : Nat → Bool} :
    ∀ {ts : List TypeId} {vs : List Value} {ds : List (DataW H)} {ps : List MemPlace}, (∀ t ∈ ts, P.readableRec t = true ∧ t < P.types.size) →
      DataW.TrodAll enc P W 0 (fun _ => true) true ts vs ds ps → (∀ p ∈ ps, p.block < W.heap.size) → (∀ p ∈ ps, sp p.block = true) → DataW.TrodAll enc P W' 0 sp true ts vs ds ps
  | [], _, _, _, _, h, _, _ => by
    obtain ⟨rfl, rfl, rfl⟩ := trodAll_nil h
    exact rfl
  | t :: ts, _, _, _, hr, h, hlt, hsp => by
    obtain ⟨v, vs', d, ds', p, q, rfl, rfl, rfl, h1, h2⟩ := trodAll_cons h
    refine ⟨p, q, WideElems.Trod_stays hl (hr t (List.mem_cons_self ..)).1 (hr t (List.mem_cons_self ..)).2 h1 (fun x hx => hb.same (hlt x (List.mem_append_left _ hx))) (fun x hx => hsp x (List.mem_append_left _ hx)),
      trodAll_below hl hb (fun t' ht' => hr t' (List.mem_cons_of_mem _ ht')) h2 (fun x hx => hlt x (List.mem_append_right _ hx)) (fun x hx => hsp x (List.mem_append_right _ hx)), rfl⟩

theorem post_of_below {f : Func} {s : ChangeSpec} {apart fresh handsOn again : Bool} {W W' : World} {args : Array Value} {v : Value} {ds gs : List (DataW H)} {before pa pv : List MemPlace}
    (hW : DataW.Whole enc P f.params.toList s.vars apart W args.toList ds gs before)
    (hres : ∀ (b : Nat) (sp : Nat → Bool) (hd : Bool), DataW.TrodAll enc P W' b sp hd f.resultTypes.toList (v.resultList f.resultTypes.size) (s.fn H (ds ++ gs)).results [])
    (hargs : ∀ sp : Nat → Bool, (∀ p ∈ before, sp p.block = true) → DataW.TrodAll enc P W' 0 sp true f.params.toList args.toList (s.fn H (ds ++ gs)).args pa)
    (hvars : ∀ sp : Nat → Bool, (∀ p ∈ before, sp p.block = true) → DataW.TrodVars enc P W' sp s.vars (s.fn H (ds ++ gs)).vars pv)
    (hps : before = pa ++ pv) (hb : Below W.heap.size W W')
    (hok : ∀ (j : Nat) (t : TypeId) (r : Value), f.resultTypes[j]? = some t → (v.resultList f.resultTypes.size)[j]? = some r → Value.okWide P W' .any 0 t r) :
    s.post enc P f apart fresh handsOn again W args v W' := by
  have hlt : ∀ p ∈ before, p.block < W.heap.size := fun p hp => hW.lt p hp
  have hold : ∀ p ∈ before, (fun b => decide (b < W.heap.size)) p.block = true := fun p hp => by simpa using hlt p hp
  refine ⟨ds, gs, before, [], pa, pv, hW, hres _ _ _, hargs _ hold, hvars _ hold, World.keptBut_mono (fun p hp => ⟨hp, ?_⟩) (hb.frame (· ∈ before)), fun _ => ?_⟩
  · rw [hps, List.mem_append] at hp
    exact Or.inr hp
  · obtain ⟨_, _, _, _, _, hz, hn⟩ := hW
    refine ⟨hok, _, _, ([] ++ pa) ++ pv, ⟨[] ++ pa, pv, trodAll_append (hargs _ (fun _ _ => rfl)) (hres _ _ _), hvars _ (fun _ _ => rfl), rfl, ?_, ?_⟩, ?_⟩
    · intro b off hp
      have hin : MemPlace.cell b off ∈ before := by rw [hps]; simpa using hp
      rw [hb.frozen (hlt _ hin)]
      exact hz b off hin
    · intro ha
      have := hn ha
      rw [hps] at this
      simpa using this
    · intro p hp _
      rw [hps]
      simpa using hp

/-- The law's last step: true came back, memory was only made. -/
theorem law_post {f : Func} {s : ChangeSpec} {apart fresh handsOn again : Bool} {W W' : World} {args : Array Value} {ds : List (DataW H)} {before : List MemPlace} {T : TypeId} (hl : laidOutB P = true)
    (hv : s.vars = []) (hW : DataW.Whole enc P f.params.toList [] apart W args.toList ds [] before) (hA : DataW.TrodAll enc P W 0 (fun _ => true) true f.params.toList args.toList ds before)
    (hr : ∀ t ∈ f.params.toList, P.readableRec t = true ∧ t < P.types.size) (hT : f.resultTypes = #[T]) (hb0 : P.underlying T = some .bool)
    (hs : s.fn H (ds ++ []) = { results := [.lit (.bool true)], args := ds }) (hb : Below W.heap.size W W') :
    s.post enc P f apart fresh handsOn again W args (.bool true) W' := by
  have hW' : DataW.Whole enc P f.params.toList s.vars apart W args.toList ds [] before := by rw [hv]; exact hW
  refine post_of_below (pa := before) (pv := []) hW' ?_ ?_ ?_ (by simp) hb (ok_one hT rfl (okWide_bool_mk hb0 _))
  · intro b sp hd
    rw [hs, hT]
    exact trodAll_mk1 (shut_bool hb0 _)
  · intro sp hsp
    rw [hs]
    exact trodAll_below hl hb hr hA (fun p hp => hW.lt p hp) hsp
  · intro sp _
    rw [hs, hv]
    exact rfl

/-- A []uint64, as its cell is read. -/
theorem words_of_trod {w : World} {t e : TypeId} {fuel : Nat} {cs : List Value} {x : DataW H × List MemPlace} (ht : P.underlying t = some (.slice e)) (he : P.underlying e = some (.int .u64)) (hc : P.cellsOf e = 1)
    (hf : DataW.trod enc P w 0 (fun _ => true) true fuel t cs = some x) :
    ∃ (A : Option Addr) (n c : Nat) (fs : List (BitVec 64)), cs = [.slice A n c] ∧ Rd (heapF w) 1 A n (fs.map u) := by
  rcases open_ints ht he hc hf with ⟨h1, _⟩ | ⟨a', len, cap, zs, h1, _, hlc, _, hzl, _, hcell, hwf⟩
  · exact ⟨none, 0, 0, [], h1, Rd.nil⟩
  · rw [if_pos rfl] at hzl
    refine ⟨some a', len, cap, (zs.take len).map (BitVec.ofInt 64), h1, ⟨by simp; omega, fun _ => ⟨a', rfl, fun j x hx => ?_⟩⟩⟩
    have hj : j < len := by
      have := (List.getElem?_eq_some_iff.1 hx).1
      simp at this
      omega
    have hj2 : j < zs.length := by omega
    have hcj := hcell j hj2
    have hwj := hwf _ (List.getElem_mem hj2)
    simp [hj, hj2] at hx hcj
    have hz : uz (BitVec.ofInt 64 zs[j]) = zs[j] := by
      simp [Lit.wf, IntKind.min, IntKind.max, IntKind.signed, IntKind.bits] at hwj
      obtain ⟨n, hn⟩ := Int.eq_ofNat_of_zero_le (show 0 ≤ zs[j] by omega)
      rw [hn]
      unfold uz
      rw [BitVec.ofInt_natCast, BitVec.toNat_ofNat, Nat.mod_eq_of_lt (by omega)]
    rw [← hx]
    show _ = some (Value.int .u64 (uz (BitVec.ofInt 64 zs[j])))
    rw [hz]
    exact hcj
/-- A [][]uint64 that came in. -/
theorem open_wordRows {w : World} {b0 : Nat} {t e e' : TypeId} {v : Value} {d : DataW H} {p : List MemPlace} {r : Reach} (ht : P.underlying t = some (.slice e)) (he : P.underlying e = some (.slice e')) (he' : P.underlying e' = some (.int .u64))
    (hc : P.cellsOf e = 1) (hc' : P.cellsOf e' = 1) (hv : Value.okWide P w r b0 t v) (h : DataW.Trod enc P w 0 (fun _ => true) true t v d p) :
    ∃ (A : Option Addr) (n c : Nat) (gs : List (List (BitVec 64))), v = .slice A n c ∧ RdR (heapF w) A n gs := by
  obtain ⟨a, len, cap, rfl⟩ := okWide_slice ht hv
  obtain ⟨fuel, hf⟩ := h
  rcases Go.Deep.open_slice ht hf with ⟨h1, _⟩ | ⟨a', len', cap', m, n, D, Pl, h1, _, hlc, _, hm, _, hel⟩
  · simp [Value.cells] at h1
    obtain ⟨rfl, rfl, rfl⟩ := h1
    exact ⟨none, 0, 0, [], rfl, rfl, fun i hi => absurd hi (by simp)⟩
  · simp [Value.cells] at h1
    obtain ⟨rfl, rfl, rfl⟩ := h1
    rw [if_pos rfl] at hm
    have each : ∀ i, i < len → ∃ (Ai : Option Addr) (ni ci : Nat) (fs : List (BitVec 64)), (heapF w).cell (a'.add i) = some (.slice Ai ni ci) ∧ Rd (heapF w) 1 Ai ni (fs.map u) := by
      intro i hi
      obtain ⟨cs', hcs, htr⟩ := hel i (by omega)
      obtain ⟨Ai, ni, ci, fs, rfl, hr⟩ := words_of_trod he he' hc' htr
      rw [hc, Nat.mul_one] at hcs
      obtain ⟨_, _, hat⟩ := World.cells?_some hcs
      have h0 := hat 0 (by omega)
      have hadd : (a'.add i).add 0 = a'.add i := by rw [add_of_add, Nat.add_zero]
      rw [hadd] at h0
      exact ⟨Ai, ni, ci, fs, h0, hr⟩
    have pick : ∀ k, k ≤ len → ∃ gs : List (List (BitVec 64)), gs.length = k ∧ ∀ i, i < k → ∃ (Ai : Option Addr) (ni ci : Nat), (heapF w).cell (a'.add i) = some (.slice Ai ni ci) ∧ Rd (heapF w) 1 Ai ni ((gs.getD i []).map u) := by
      intro k
      induction k with
      | zero => intro _; exact ⟨[], rfl, fun i hi => absurd hi (by omega)⟩
      | succ k ih =>
        intro hk
        obtain ⟨gs, hl, hg⟩ := ih (by omega)
        obtain ⟨Ai, ni, ci, fs, h1, h2⟩ := each k (by omega)
        refine ⟨gs ++ [fs], by simp [hl], fun i hi => ?_⟩
        rcases Nat.lt_or_ge i k with hlt | hge
        · obtain ⟨Ai, ni, ci, h1, h2⟩ := hg i hlt
          refine ⟨Ai, ni, ci, h1, ?_⟩
          rw [List.getD, List.getElem?_append_left (by omega)]
          exact h2
        · obtain rfl : i = k := by omega
          refine ⟨Ai, ni, ci, h1, ?_⟩
          rw [List.getD, List.getElem?_append_right (by omega), hl]
          simpa using h2
    obtain ⟨gs, hl, hg⟩ := pick len (Nat.le_refl _)
    refine ⟨some a', len, cap, gs, rfl, hl.symm, fun i hi => ?_⟩
    obtain ⟨Ai, ni, ci, h1, h2⟩ := hg i (by omega)
    exact ⟨a', Ai, ni, ci, rfl, h1, h2⟩
end
end Go.Proofs.Ytdbbooibkiicnaa
/-! Nodes and ints that came in, opened. -/
namespace Go.Proofs.Ytdbbooibkiicnaa
open Go.ChangeShapes Go.WideShapes Go.ChangeAt Go.RowKit
section
variable {H : Type} {enc : TypeId × Value → H}
/-- A slice of ints, as its cell is read. -/
theorem ints_of_trod {P : Program} {w : World} {t e : TypeId} {k : IntKind} {fuel : Nat} {cs : List Value} {x : DataW H × List MemPlace} (ht : P.underlying t = some (.slice e)) (he : P.underlying e = some (.int k)) (hc : P.cellsOf e = 1)
    (hf : DataW.trod enc P w 0 (fun _ => true) true fuel t cs = some x) :
    ∃ (A : Option Addr) (n c : Nat) (zs : List Int), cs = [.slice A n c] ∧ n ≤ c ∧ c ≤ maxLen ∧ n = zs.length ∧ Rd (heapF w) 1 A n (zs.map (Value.int k)) ∧ ∀ z ∈ zs, (Lit.int k z).wf = true := by
  rcases open_ints ht he hc hf with ⟨h1, _⟩ | ⟨a', len, cap, zs, h1, _, hlc, hcm, hzl, _, hcell, hwf⟩
  · exact ⟨none, 0, 0, [], h1, Nat.le_refl _, Nat.zero_le _, rfl, Rd.nil, fun z hz => by cases hz⟩
  · rw [if_pos rfl] at hzl
    refine ⟨some a', len, cap, zs.take len, h1, hlc, hcm, by simp; omega, ⟨by simp; omega, fun _ => ⟨a', rfl, fun j x hx => ?_⟩⟩, fun z hz => hwf z (List.mem_of_mem_take hz)⟩
    have hj : j < len := by
      have := (List.getElem?_eq_some_iff.1 hx).1
      simp at this
      omega
    have hj2 : j < zs.length := by omega
    have hcj := hcell j hj2
    simp [hj, hj2] at hx hcj
    rw [← hx]
    exact hcj
theorem cells_int : Try.prog.cellsOf 3 = 1 := by kernel_rfl
theorem cells_str : Try.prog.cellsOf 9 = 1 := by kernel_rfl
theorem cells_span : Try.prog.cellsOf 26 = 2 := by kernel_rfl
theorem cells_ints : Try.prog.cellsOf 27 = 1 := by kernel_rfl
theorem cells_node : Try.prog.cellsOf 29 = 5 := by kernel_rfl
theorem len5 {α : Type} {l : List α} (h : l.length = 5) : ∃ a b c d e, l = [a, b, c, d, e] := by
  match l, h with
  | [a, b, c, d, e], _ => exact ⟨a, b, c, d, e, rfl⟩
theorem len4 {α : Type} {l : List α} (h : l.length = 4) : ∃ a b c d, l = [a, b, c, d] := by
  match l, h with
  | [a, b, c, d], _ => exact ⟨a, b, c, d, rfl⟩
theorem len2 {α : Type} {l : List α} (h : l.length = 2) : ∃ a b, l = [a, b] := by
  match l, h with
  | [a, b], _ => exact ⟨a, b, rfl⟩
set_option maxRecDepth 100000 in
/-- A node, as its cells are read. -/
theorem node_of_trod {w : World} {fuel : Nat} {cs : List Value} {x : DataW H × List MemPlace} (hf : DataW.trod enc Try.prog w 0 (fun _ => true) true fuel 29 cs = some x) :
    ∃ (n : Nd) (A : Option Addr) (c : Nat), cs = ndVals n A c ∧ n.kids.length ≤ c ∧ Rd (heapF w) 1 A n.kids.length (n.kids.map (Value.int .i64)) := by
  obtain ⟨ys, m, _, _, hlen, hyl, hg⟩ := DataW.trod_struct Try.underlying29 hf
  rw [cells_node] at hlen
  obtain ⟨c0, c1, c2, c3, c4, rfl⟩ := len5 hlen
  obtain ⟨y0, y1, y2, y3, rfl⟩ := len4 (show ys.length = 4 from hyl)
  have g0 := hg 0 _ rfl
  have g1 := hg 1 _ rfl
  have g2 := hg 2 _ rfl
  have g3 := hg 3 _ rfl
  simp only [List.getElem_toArray, List.getElem_cons_zero, List.getElem_cons_succ, cells_int, cells_str, cells_span, cells_ints, List.drop_zero, List.drop_succ_cons, List.take_succ_cons, List.take_zero, List.getElem?_cons_zero, List.getElem?_cons_succ] at g0 g1 g2 g3
  obtain ⟨k, h0, _, _⟩ := DataW.trod_int Try.underlying3 g0
  obtain ⟨nm, h1, _, _⟩ := DataW.trod_string Try.underlying9 g1
  obtain ⟨zs, m2, _, _, _, hzl, hg2⟩ := DataW.trod_struct Try.underlying26 g2
  obtain ⟨z0, z1, rfl⟩ := len2 (show zs.length = 2 from hzl)
  have q0 := hg2 0 _ rfl
  have q1 := hg2 1 _ rfl
  simp only [List.getElem_toArray, List.getElem_cons_zero, List.getElem_cons_succ, cells_int, List.drop_zero, List.drop_succ_cons, List.take_succ_cons, List.take_zero, List.getElem?_cons_zero, List.getElem?_cons_succ] at q0 q1
  obtain ⟨lo, h2, _, _⟩ := DataW.trod_int Try.underlying3 q0
  obtain ⟨hi, h3, _, _⟩ := DataW.trod_int Try.underlying3 q1
  obtain ⟨A, n, c, ks, h4, h5, _, h6, h7, _⟩ := ints_of_trod Try.underlying27 Try.underlying3 cells_int g3
  subst h6
  simp only [List.cons.injEq, and_true] at h0 h1 h2 h3 h4
  subst h0 h1 h2 h3 h4
  exact ⟨⟨k, nm, lo, hi, ks⟩, A, c, rfl, h5, h7⟩
set_option maxRecDepth 100000 in
/-- A []api.Node that came in. -/
theorem open_nodes {w : World} {b0 : Nat} {v : Value} {d : DataW H} {p : List MemPlace} {r : Reach}
    (hv : Value.okWide Try.prog w r b0 23 v) (h : DataW.Trod enc Try.prog w 0 (fun _ => true) true 23 v d p) :
    ∃ (A : Option Addr) (n c : Nat) (l : List Nd), v = .slice A n c ∧ n ≤ c ∧ c ≤ maxLen ∧ NodesF (heapF w) A n l := by
  obtain ⟨a, len, cap, rfl⟩ := okWide_slice Try.underlying23 hv
  obtain ⟨fuel, hf⟩ := h
  rcases Go.Deep.open_slice Try.underlying23 hf with ⟨h1, _⟩ | ⟨a', len', cap', m, n, D, Pl, h1, _, hlc, hcm, hm, _, hel⟩
  · simp [Value.cells] at h1
    obtain ⟨rfl, rfl, rfl⟩ := h1
    exact ⟨none, 0, 0, [], rfl, Nat.le_refl _, Nat.zero_le _, NodesF.nil _ _⟩
  · simp [Value.cells] at h1
    obtain ⟨rfl, rfl, rfl⟩ := h1
    rw [if_pos rfl] at hm
    have each : ∀ i, i < len → ∃ (nd : Nd) (Ai : Option Addr) (ci : Nat), nd.kids.length ≤ ci ∧ Rd (heapF w) 1 Ai nd.kids.length (nd.kids.map (Value.int .i64)) ∧ ndCells (heapF w).cell (a'.add (i * 5)) nd Ai ci := by
      intro i hi
      obtain ⟨cs', hcs, htr⟩ := hel i (by omega)
      obtain ⟨nd, Ai, ci, rfl, h2, h3⟩ := node_of_trod htr
      rw [cells_node] at hcs
      obtain ⟨_, _, hat⟩ := World.cells?_some hcs
      refine ⟨nd, Ai, ci, h2, h3, ndCells_iff.2 fun j u hj => ?_⟩
      have hj5 : j < 5 := by
        have := (List.getElem?_eq_some_iff.1 hj).1
        simpa [ndVals] using this
      have h0 := hat j hj5
      unfold Fz.cell heapF
      exact h0.trans hj
    have pick : ∀ k, k ≤ len → ∃ l : List Nd, l.length = k ∧ ∀ i (h : i < l.length), ∃ (Ai : Option Addr) (ci : Nat), l[i].kids.length ≤ ci ∧ Rd (heapF w) 1 Ai l[i].kids.length (l[i].kids.map (Value.int .i64)) ∧ ndCells (heapF w).cell (a'.add (i * 5)) l[i] Ai ci := by
      intro k
      induction k with
      | zero => intro _; exact ⟨[], rfl, fun i hi => absurd hi (by simp)⟩
      | succ k ih =>
        intro hk
        obtain ⟨l, hl, hg⟩ := ih (by omega)
        obtain ⟨nd, Ai, ci, h1, h2, h3⟩ := each k (by omega)
        refine ⟨l ++ [nd], by simp [hl], fun i hi => ?_⟩
        rcases Nat.lt_or_ge i k with hlt | hge
        · obtain ⟨Ai, ci, h1, h2, h3⟩ := hg i (by omega)
          rw [List.getElem_append_left (by omega)]
          exact ⟨Ai, ci, h1, h2, h3⟩
        · have hik : i = k := by simp at hi; omega
          subst hik
          have e : (l ++ [nd])[i] = nd := by rw [List.getElem_append_right (by omega)]; simp [hl]
          rw [e]
          exact ⟨Ai, ci, h1, h2, h3⟩
    obtain ⟨l, hl, hg⟩ := pick len (Nat.le_refl _)
    exact ⟨some a', len, cap, l, rfl, hlc, hcm, hl, fun _ => ⟨a', rfl, fun i hi => hg i hi⟩⟩
theorem ofU16 {z : Int} (h : (Lit.int .u16 z).wf = true) : 0 ≤ z ∧ z < 65536 := by
  simp [Lit.wf, IntKind.min, IntKind.max, IntKind.signed, IntKind.bits] at h
  omega
/-- A []uint16 that came in. -/
theorem open_u16s {P : Program} {w : World} {b0 : Nat} {v : Value} {d : DataW H} {p : List MemPlace} {r : Reach} {t e : TypeId} (ht : P.underlying t = some (.slice e)) (he : P.underlying e = some (.int .u16)) (hc : P.cellsOf e = 1)
    (hv : Value.okWide P w r b0 t v) (h : DataW.Trod enc P w 0 (fun _ => true) true t v d p) :
    ∃ (A : Option Addr) (n c : Nat) (ns : List Nat), v = .slice A n c ∧ (∀ k ∈ ns, k < 65536) ∧ Rd (heapF w) 1 A n (ns.map fun k : Nat => .int .u16 (k : Int)) := by
  obtain ⟨a, len, cap, rfl⟩ := okWide_slice ht hv
  obtain ⟨fuel, hf⟩ := h
  obtain ⟨A, n, c, zs, h1, _, _, _, h5, h6⟩ := ints_of_trod ht he hc hf
  simp [Value.cells] at h1
  obtain ⟨rfl, rfl, rfl⟩ := h1
  refine ⟨a, len, cap, zs.map Int.toNat, rfl, fun k hk => ?_, ?_⟩
  · obtain ⟨z, hz, rfl⟩ := List.mem_map.1 hk
    have := ofU16 (h6 z hz)
    omega
  · have e : (zs.map Int.toNat).map (fun k : Nat => Value.int .u16 (k : Int)) = zs.map (Value.int .u16) := by
      rw [List.map_map]
      refine List.map_congr_left fun z hz => ?_
      have := ofU16 (h6 z hz)
      simp only [Function.comp]
      congr 1
      omega
    rw [e]
    exact h5
end
end Go.Proofs.Ytdbbooibkiicnaa
