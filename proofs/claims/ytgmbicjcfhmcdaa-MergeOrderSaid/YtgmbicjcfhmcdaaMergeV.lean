/- What the walks of Merge speak of. -/
import Derived.Test.YtgmbicjcfhmcdaaNames32
import Derived.Test.YtgmbicjcfhmcdaaPileM
import Derived.Test.YtgmbicjcfhmcdaaJoin
import Derived.Test.YtgmbicjcfhmcdaaMk8E
set_option linter.unusedVariables false
set_option linter.unusedSimpArgs false
/-! What the walks of Merge speak of. -/
namespace Go.Proofs.Ytgmbicjcfhmcdaa
open Go.RowKit
attribute [local go_sem ↓] Go.wp_at_zero Go.wp_at_succ
theorem rd_hxM {w : World} {Gs : List Nat} {size n : Nat} {A : Option Addr} {xs : List Value} (h : Rd (heapF w) size A n xs) (hg : ∀ a, A = some a → 0 < n → a.block ∉ Gs) : Rd (hx w Gs) size A n xs := by
  refine ⟨h.1, fun h0 => ?_⟩
  obtain ⟨ad, e, hc⟩ := h.2 h0
  refine ⟨ad, e, fun j u hu => ?_⟩
  have := hc j u hu
  unfold Fz.cell at this ⊢
  rw [hx_out (by rw [block_of_add]; exact hg ad e h0)]
  exact this
theorem line_info : (Try.prog.info? 55).map (fun i => (i.zero, i.size, i.bytes)) = some (some (.agg #[.slice none 0 0, .int .i64 0]), 2, 32) := by kernel_rfl
theorem step_pushLn {w : World} {ops : Array Oper} {o : Oper} {a : Act} {K : Act → World → Prop} {Q : Exit → Act → World → Prop} {E : Prop} (hgd : o.guard = none) (s x : Operand)
    (ho : o.op = .call { callee := .builtin .append, args := #[s, x], argTypes := #[53, 53] })
    {F : Fz} {B n : Nat} {v : Value} {xs : List Value} (hown : Own F w B 55 2 v n xs) (hF : Sat F w) (hs : a.eval s = v)
    (g c : Nat) (Ai : Option Addr) (ni ci b : Nat) (hx : a.eval x = .slice (some ⟨g, 0, none⟩) 1 c) (hg : Blk w g 55 #[.slice Ai ni ci, .int .i64 b]) (hn : n + 1 ≤ 1000000) (hB : B ≤ w.heap.size)
    (h : ∀ v' w', Own F w' B 55 2 v' (n + 1) (xs ++ [.slice Ai ni ci, .int .i64 b]) → Sat F w' → Below B w w' → w.grownBy w' v.ownBlock → (v'.ownBlock = v.ownBlock ∨ v'.ownBlock = some w.heap.size) → K (a.put o.dst v') w') :
    if Region.wanted o (yielded ops a.tmps) = true then Oper.wp Try.prog o a w K Q else E := by
  have hr : Rd (heapF w) 2 (some ⟨g, 0, none⟩) 1 [.slice Ai ni ci, .int .i64 b] := by
    refine ⟨rfl, fun _ => ⟨_, rfl, fun j u hu => ?_⟩⟩
    rw [add_lit0]
    unfold Fz.cell heapF
    rw [hg]
    simpa using hu
  exact step_pushAll hgd s x _ ho 55 _ 2 32 Try.underlying53 line_info rfl (by omega) hown hF hs _ 1 c _ hx (sat_heapF w) hr (fun u hu => by
    simp at hu
    rcases hu with rfl | rfl <;> rfl) (by simp [maxLen]; omega) (by omega) hB h
/-- Where each row of events lies, and its room. -/
def BaseS (F : Fz) (A : Option Addr) (ls : List TrS) (S : Nat → Addr × Nat) : Prop := ∃ ad, A = some ad ∧ ∀ q (h : q < ls.length), ls[q].2 ≠ [] → F.cell ((ad.add (q * 2)).add 1) = some (.slice (some (S q).1) ls[q].2.length (S q).2) ∧ ls[q].2.length ≤ (S q).2 ∧ EvsF F (some (S q).1) ls[q].2.length ls[q].2
theorem base_of {F : Fz} {A : Option Addr} {n : Nat} {ls : List TrS} (h : TrsF F A n ls) (hn : 0 < n) : ∃ S, BaseS F A ls S := by
  obtain ⟨ad, e, hh⟩ := h.2 hn
  have key : ∀ q : Nat, ∃ x : Addr × Nat, ∀ (hq : q < ls.length), ls[q].2 ≠ [] → F.cell ((ad.add (q * 2)).add 1) = some (.slice (some x.1) ls[q].2.length x.2) ∧ ls[q].2.length ≤ x.2 ∧ EvsF F (some x.1) ls[q].2.length ls[q].2 := fun q => by
    by_cases hq : q < ls.length
    · obtain ⟨An, cn, Ae, ce, h1, h2, h3, h4, h5, h6⟩ := hh q hq
      by_cases h0 : ls[q].2 = []
      · exact ⟨(⟨0, 0, none⟩, 0), fun _ h => absurd h0 h⟩
      · obtain ⟨a, ea, _⟩ := h6.2 (List.length_pos_iff.2 h0)
        subst ea
        exact ⟨(a, ce), fun _ _ => ⟨h4, h2, h6⟩⟩
    · exact ⟨(⟨0, 0, none⟩, 0), fun h => absurd h hq⟩
  exact ⟨fun q => Classical.choose (key q), ad, e, fun q hq h0 => Classical.choose_spec (key q) hq h0⟩
/-- How many events the trace at g has by now. -/
def evL (g : Nat) (w : World) : Nat := match w.cell? ⟨g, 1, none⟩ with
  | some (.slice _ n _) => n
  | _ => 0
def mvE (U : List ByteArray) (ls : List TrS) (p : Nat × Evt) : Evt := ⟨p.2.time, mvR U (ls.getD p.1 default).1 p.2.ids⟩
def evsAt (ls : List TrS) (b : Nat) : List Evt := (ls.getD b default).2
theorem qOf_snoc {β : Type} : ∀ (R : List (List β)) (o : Nat) (l : List β), qOf (R ++ [l]) o = qOf R o ++ if l = [] then [] else [(l, o + R.length)]
  | [], o, l => by cases l <;> simp [qOf]
  | [] :: R, o, l => by
    have := qOf_snoc R (o + 1) l
    simp only [List.cons_append, qOf]
    rw [this]
    cases l <;> simp; omega
  | (e :: r) :: R, o, l => by
    have := qOf_snoc R (o + 1) l
    simp only [List.cons_append, qOf]
    rw [this]
    cases l <;> simp; omega
theorem lines_snoc (S : Nat → Addr × Nat) (E : Nat → List Evt) (xs : List Ln) (x : Ln) : linesC S E (xs ++ [x]) = linesC S E xs ++ lnC S E x := by simp [linesC]
theorem LnF.headE {F : Fz} {S : Nat → Addr × Nat} {E : Nat → List Evt} {e : Evt} {r : List Evt} {b : Nat} (h : LnF F S E (e :: r, b)) : ∃ ax cx Ai ci, lnC S E (e :: r, b) = [.slice (some ax) (r.length + 1) cx, .int .i64 (b : Nat)] ∧ r.length + 1 ≤ cx ∧ e ∈ E b ∧ e.time < 18446744073709551616 ∧ F.cell ax = some (.int .u64 (e.time : Nat)) ∧ F.cell (ax.add 1) = some (.slice Ai e.ids.length ci) ∧ e.ids.length ≤ ci ∧ Rd F 1 Ai e.ids.length (e.ids.map (Value.int .i64)) ∧
    (r ≠ [] → lnC S E (r, b) = [.slice (some (ax.add 2)) r.length (cx - 1), .int .i64 (b : Nat)] ∧ LnF F S E (r, b)) := by
  obtain ⟨h1, h2, h3, h4, h5, h6⟩ := h
  dsimp only at h1 h2 h3 h4 h5 h6
  have hle : r.length + 1 ≤ (E b).length := by have := congrArg List.length h2; simp at this; omega
  have hd := h3.drop (k := (E b).length - (r.length + 1)) (by omega)
  rw [List.length_cons] at h2
  rw [← h2, show (E b).length - ((E b).length - (r.length + 1)) = r.length + 1 by omega] at hd
  obtain ⟨ad, ea, hh⟩ := hd.2 (by omega)
  injection ea with ea
  obtain ⟨ht, Ai, ci, k1, k2, k3, k4⟩ := hh 0 (by simp)
  rw [← ea] at k3 k4
  simp only [List.getElem_cons_zero] at ht k1 k2 k3 k4
  have z0 : ∀ a : Addr, a.add (0 * 2) = a := fun a => by unfold Addr.add; simp
  rw [z0] at k3 k4
  refine ⟨(S b).1.add (((E b).length - (r.length + 1)) * 2), (S b).2 - ((E b).length - (r.length + 1)), Ai, ci, by simp [lnC], by omega, ?_, ht, k3, k4, k1, k2, fun hr => ⟨?_, hr, ?_, h3, h4, h5, h6⟩⟩
  · have : e ∈ (E b).drop ((E b).length - (r.length + 1)) := by rw [← h2]; simp
    exact List.mem_of_mem_drop this
  · unfold lnC
    dsimp only
    have hrl : 0 < r.length := List.length_pos_iff.2 hr
    rw [show ((S b).1.add (((E b).length - (r.length + 1)) * 2)).add 2 = (S b).1.add (((E b).length - r.length) * 2) by rw [Addr.add_add]; congr 1; omega]
    congr 1
    congr 1
    omega
  · dsimp only
    have := congrArg (List.drop 1) h2
    rw [List.drop_drop, List.drop_one, List.tail_cons] at this
    rw [show (E b).length - (r.length + 1) + 1 = (E b).length - r.length by omega] at this
    exact this
/-- What Merge gives: a trace, and an error. -/
def mergeM (ls : List TrS) : TrS × Nat := if mayAll ls = true then (if 64 < (namesT ls).length then (([], []), 4) else (mergeT ls, 0)) else (([], []), 1)
def RetMg (w : World) (x : TrS × Nat) (e : Ending) (w' : World) : Prop := ∃ An cn Ae ce, e = .returned (.tuple #[.agg #[.slice An x.1.1.length cn, .slice Ae x.1.2.length ce], .int .i64 (x.2 : Nat)]) ∧ x.1.1.length ≤ cn ∧ x.1.2.length ≤ ce ∧ Below w.heap.size w w' ∧ Rd (heapF w') 1 An x.1.1.length (x.1.1.map Value.string) ∧ EvsF (heapF w') Ae x.1.2.length x.1.2
theorem QM.bel {F : Fz} {w w' : World} {gq g c B n D : Nat} {S : Nat → Addr × Nat} {E : Nat → List Evt} {xs : List Ln} (h : QM F w gq g c B S E n xs) (hb : Below D w w') (h1 : gq < D) (h2 : g < D) (hF : ∀ b o, F b = some o → b < D) : QM F w' gq g c B S E n xs := by
  refine ⟨h.ptr.below hb h1, ⟨?_, h.row.2⟩, h.sat.below_of hb hF, h.ne, h.len, h.ok⟩
  obtain ⟨⟨hl, h3⟩, _⟩ := h.row
  refine ⟨hl, ?_⟩
  rcases h3 with h3 | ⟨g', cap, cur, e, k1, k2, k3⟩
  · exact .inl h3
  · refine .inr ⟨g', cap, cur, e, k1, ?_, k3⟩
    injection e with e
    injection e with e
    injection e with e
    subst e
    exact (hb.block g h2).trans k2
theorem QM.far {F : Fz} {w : World} {gq g c B n : Nat} {S : Nat → Addr × Nat} {E : Nat → List Evt} {xs : List Ln} (h : QM F w gq g c B S E n xs) {p : Addr} (h1 : p.block ≠ gq) (h2 : p.block ≠ g) (h3 : F p.block = none) (u : Value) : QM F (w.setCell p u) gq g c B S E n xs :=
  ⟨h.ptr.far (fun e => h1 e.symm) u, h.row.setFar (fun e => by simp [Value.ownBlock] at e; exact h2 e.symm) u, h.sat.setCell h3 u, h.ne, h.len, h.ok⟩
theorem moved_ids {U ss : List ByteArray} {ids : List Int} (hU : U.Nodup) (hs : ss.Nodup) (hsub : ∀ s ∈ ss, s ∈ U) (hi : idsOk ids ss.length = true) : (ids.map fun z => (ss.map (idxS U)).getD z.toNat 0).mergeSort (fun x y => decide (x ≤ y)) = mvR U ss ids := by
  rw [← mv_eq hU hs hsub hi]
  unfold mvI
  congr 1
  refine List.map_congr_left fun z hz => ?_
  obtain ⟨h1, h2⟩ := (idsOk_iff.1 hi).1 z hz
  have hl : z.toNat < ss.length := by omega
  rw [List.getD, List.getElem?_map, List.getD, List.getElem?_eq_getElem hl]
  rfl
theorem foldS_len : ∀ (ns out : List ByteArray), (ns.foldl addS out).length ≤ out.length + ns.length
  | [], out => by simp
  | s :: ns, out => by
    have h1 := foldS_len ns (addS out s)
    have h2 : (addS out s).length ≤ out.length + 1 := by unfold addS; split <;> simp
    simp only [List.foldl_cons, List.length_cons]; omega
theorem sum_leK {α : Type} (f : α → Nat) (k : Nat) : ∀ (ls : List α), (∀ t ∈ ls, f t ≤ k) → (ls.map f).sum ≤ ls.length * k
  | [], _ => by simp
  | t :: ls, h => by
    have h1 := sum_leK f k ls fun t ht => h t (List.mem_cons_of_mem _ ht)
    have h2 := h t (List.mem_cons_self ..)
    simp only [List.map_cons, List.sum_cons, List.length_cons, Nat.succ_mul]; omega
theorem namesT_len (ls : List TrS) (k : Nat) (h : ∀ t ∈ ls, t.1.length ≤ k) : (namesT ls).length ≤ ls.length * k := by
  have h1 := foldS_len (ls.flatMap fun t => t.1) []
  have h2 := sum_leK (fun t : TrS => t.1.length) k ls h
  rw [List.length_flatMap] at h1
  unfold namesT unionS
  simp only [List.length_nil, Nat.zero_add] at h1
  omega
theorem mergeT_len (ls : List TrS) (k : Nat) (h : ∀ t ∈ ls, t.2.length ≤ k) : (mergeT ls).2.length ≤ ls.length * k := by
  have h2 := sum_leK (fun t : TrS => t.2.length) k ls h
  have h3 : sumLn (ls.map fun t => t.2) = (ls.map fun t => t.2.length).sum := by unfold sumLn; rw [List.map_map]; rfl
  show ((mergeE ls).map _).length ≤ _
  rw [List.length_map]
  unfold mergeE
  rw [merge_length _ _ _ (Nat.le_refl _), h3]
  exact h2
theorem OwnE.setLine {w : World} {B gw : Nat} {v : Value} {es : List Evt} {Aq : Option Addr} {nq cq : Nat} {b : Nat} (h : OwnE w B v es) (hg : Blk w gw 55 #[.slice Aq nq cq, .int .i64 b]) (u : Value) : OwnE (w.setCell ⟨gw, 0, none⟩ u) B v es := by
  obtain ⟨xs, h1, h2, h3⟩ := h
  have hm : ∀ b', b' ≠ gw → (w.setCell ⟨gw, 0, none⟩ u).heap[b']? = w.heap[b']? := fun b' hb => Below.heap_setCell w _ u b' hb
  have hown : ∀ g, v.ownBlock = some g → g ≠ gw := by
    intro g hgv
    obtain ⟨⟨hl, k⟩, _⟩ := h1
    rcases k with k | ⟨g', cap, cur, e, k1, k2, k3⟩
    · rw [k.1] at hgv; simp [Value.ownBlock] at hgv
    · rw [e] at hgv
      simp [Value.ownBlock] at hgv
      subst hgv
      intro hgw
      subst hgw
      have := k2.symm.trans hg
      simp at this
  refine ⟨xs, h1.same fun g hg' => hm g (hown g hg'), h2, fun j e hj => ?_⟩
  obtain ⟨p, hp, ht, Ai, ci, e1, e2, e3, e4⟩ := h3 j e hj
  refine ⟨p, hp, ht, Ai, ci, e1, e2, ⟨e3.1, fun h0 => ?_⟩, e4⟩
  obtain ⟨ad, ea, hc⟩ := e3.2 h0
  refine ⟨ad, ea, fun j' u' hu' => ?_⟩
  have hthis := hc j' u' hu'
  have hint : ∃ z, u' = .int .i64 z := by
    have := List.mem_of_getElem? hu'
    simp at this
    obtain ⟨z, _, e⟩ := this
    exact ⟨z, e.symm⟩
  obtain ⟨z, rfl⟩ := hint
  unfold Fz.cell heapF at hthis ⊢
  by_cases hbk : (ad.add j').block = gw
  · have hn := hg.set_ 0 u
    rw [hbk] at hthis ⊢
    rw [show (w.setCell ⟨gw, 0, none⟩ u).heap[gw]? = _ from hn]
    rw [show w.heap[gw]? = _ from hg] at hthis
    dsimp only at hthis ⊢
    split at hthis
    · cases hthis
    · rename_i hsp
      rw [if_neg hsp]
      rcases hoff : (ad.add j').off with _ | _ | o
      · rw [hoff] at hthis; simp at hthis
      · rw [hoff] at hthis; simpa using hthis
      · rw [hoff] at hthis; simp at hthis
  · rw [hm _ hbk]; exact hthis
end Go.Proofs.Ytgmbicjcfhmcdaa
