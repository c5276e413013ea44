/- One pass: blocks that hold no words, and that an append keeps them so: plain. -/
import Derived.Test.YtaomehlhopiblaaOnlK
set_option linter.unusedVariables false
set_option linter.unusedSimpArgs false
/-! One pass: blocks that hold no words, and that an append keeps them so: plain. -/
namespace Go.Proofs.Ytaomehlhopiblaa
open Go.RowKit
theorem NoU.blk {w : World} {g : Nat} {T : TypeId} {cs : Array Value} (hB : Blk w g T cs) (h : ∀ v ∈ cs.toList, ∀ x, v ≠ u x) : NoU w g := fun i v hc => by
  rw [hB.cell i] at hc
  exact h v (by have := Array.mem_of_getElem? hc; simpa using this)
theorem NoU.rowA {m n : Nat} {Gs : List Nat} {T : TypeId} {w : World} {g : Nat} {f : Nat → Fn} (h : RowA m n Gs T w g f) : NoU w g := by
  obtain ⟨cs, hB, h2, h3⟩ := h
  refine NoU.blk hB fun v hv x e => ?_
  obtain ⟨q, hq, e2⟩ := List.getElem_of_mem (by simpa using hv : v ∈ cs)
  obtain ⟨v', e3, _, _, _, _, rfl, _⟩ := h3 q (by omega)
  rw [List.getElem?_eq_getElem hq, e2] at e3
  injection e3 with e3
  rw [e3] at e
  cases e
theorem mem_zeroCells {z : Array Value} {n : Nat} (hz : 0 < z.size) {v : Value} (h : v ∈ (Builtin.zeroCells z n).toList) : v ∈ z.toList := by
  unfold Builtin.zeroCells at h
  simp only [Array.toList_map, List.mem_map] at h
  obtain ⟨i, _, rfl⟩ := h
  have hi : i % z.size < z.size := Nat.mod_lt _ hz
  rw [getElem!_pos z _ hi]
  simp
theorem append_noU {P : Program} (w : World) (base : Nat) (t ty e : TypeId) (i : TypeInfo) (z : Value) (size bytes : Nat) (ht : P.underlying t = some (.slice e)) (hi : P.info? e = some i) (hz : i.zero = some z)
    (hsize : i.size = size) (hby : i.bytes = bytes) (hzs : z.cells.size = size) (hsz : 0 < size)
    (v : Value) (n : Nat) (xs : List Value) (hown : w.ownsRow base e size v n xs)
    (a : Addr) (m c : Nat) (news : List Value) (hl : news.length = m * size) (hnews : ∀ j u, news[j]? = some u → w.cell? (a.add j) = some u) (h1 : ∀ u ∈ news, u.oneCell' = true)
    (hm : 0 < m) (h63 : n + m ≤ maxLen) (hbytes : (n + m) * bytes ≤ 140737488355328)
    (hU : ∀ g, v.ownBlock = some g → NoU w g) (hUn : ∀ y ∈ news, ∀ x, y ≠ u x) (hUz : ∀ y ∈ z.cells.toList, ∀ x, y ≠ u x) {v' : Value} {w' : World} (hr : (Builtin.append_ #[t, t] ty #[v, .slice (some a) m c]).run P w = .ok v' w') :
    (∀ g, v'.ownBlock = some g → NoU w' g) ∧ ∀ g, v.ownBlock = some g → NoU w' g := by
  subst hsize
  subst hby
  have hz0 : 0 < z.cells.size := by omega
  have hsmall : n + m ≤ 9223372036854775807 := by simp only [maxLen] at h63; omega
  have hxs : ∀ y ∈ xs, ∀ x, y ≠ u x := fun y hy x e => by
    obtain ⟨j, hj, e2⟩ := List.getElem_of_mem hy
    rcases hown.2 with ⟨rfl, rfl⟩ | ⟨g, cap, cur, rfl, _⟩
    · have := hown.1; omega
    · have h2 := hown.cells (g := g) rfl j y (by rw [List.getElem?_eq_getElem hj, e2])
      rw [add_lit0] at h2
      exact hU g rfl j y h2 x e
  rcases hown.2 with ⟨rfl, rfl⟩ | ⟨g, cap, cur, rfl, hbg, hg, hnc, hcm, hcs, htake⟩
  · have hr' := run_append_nil (P := P) w t ty e i z ht hi hz a m c news hl hnews hm (by omega) (by have hb := hbytes; simp only [Nat.zero_add] at hb; omega)
    rw [hr'] at hr
    injection hr with e1 e2
    subst e1 e2
    refine ⟨fun g hg => ?_, fun g hg => (by cases hg)⟩
    injection hg with hg
    subst hg
    refine NoU.blk (T := e) (heap_alloc_new w.drew _) fun y hy x => ?_
    simp only [Array.toList_append, List.mem_append] at hy
    rcases hy with hy | hy
    · exact hUn y (by simpa using hy) x
    · exact hUz y (mem_zeroCells hz0 hy) x
  · by_cases hroom : n + m ≤ cap
    · have hfit : n * i.size + news.length ≤ cur.size := by rw [hl, hcs, ← Nat.add_mul]; exact Nat.mul_le_mul_right _ hroom
      have hr' := run_append_room (P := P) w t ty e i ht hi g n cap cur hg a m c news hl hnews h1 hroom hfit
      rw [hr'] at hr
      injection hr with e1 e2
      subst e1 e2
      refine ⟨fun g' hg' => ?_, fun g' hg' => ?_⟩
      all_goals
       injection hg' with hg'
       subst hg'
       refine NoU.blk (T := e) (setRow_heap w g cur _ e _ hg) fun y hy x e2 => ?_
       have hcur : ∀ y ∈ cur.toList, ∀ x, y ≠ u x := fun y hy x e3 => by
         obtain ⟨j, hj, e4⟩ := List.getElem_of_mem hy
         have h5 : w.cell? ⟨g, j, none⟩ = cur[j]? := cell_of_row w g j cur e (0, 0) hg
         exact hU g rfl j y (by rw [h5, ← Array.getElem?_toList, List.getElem?_eq_getElem hj, e4]) x e3
       simp only [List.mem_append] at hy
       rcases hy with (hy | hy) | hy
       · exact hcur y (List.mem_of_mem_take hy) x e2
       · exact hUn y hy x e2
       · exact hcur y (List.mem_of_mem_drop hy) x e2
    · have holds : ∀ j u, xs[j]? = some u → w.cell? ((⟨g, 0, none⟩ : Addr).add j) = some u := hown.cells (g := g) rfl
      have hr' := run_append_grow (P := P) w t ty e i z ht hi hz ⟨g, 0, none⟩ n cap xs hown.1 holds a m c news hl hnews (by omega) (by omega) (growslice_fits (by omega) hbytes)
      rw [hr'] at hr
      injection hr with e1 e2
      subst e1 e2
      refine ⟨fun g' hg' => ?_, fun g' hg' => (hU g' hg').keep (Below.heap_alloc w.drew _ g' (by injection hg' with hg'; rw [← hg']; exact (Array.getElem?_eq_some_iff.1 hg).1))⟩
      injection hg' with hg'
      subst hg'
      refine NoU.blk (T := e) (heap_alloc_new w.drew _) fun y hy x => ?_
      simp only [Array.toList_append, List.mem_append] at hy
      rcases hy with (hy | hy) | hy
      · exact hxs y (by simpa using hy) x
      · exact hUn y (by simpa using hy) x
      · exact hUz y (mem_zeroCells hz0 hy) x
/-- A row of the call's own that holds no words. -/
def OwnU (F : Fz) (w : World) (B : Nat) (e : TypeId) (size : Nat) (v : Value) (n : Nat) (xs : List Value) : Prop := Own F w B e size v n xs ∧ ∀ g, v.ownBlock = some g → NoU w g
theorem OwnU.nil (F : Fz) (w : World) (B : Nat) (e : TypeId) (size : Nat) : OwnU F w B e size (.slice none 0 0) 0 [] := ⟨Own.nil _ _ _ _ _, fun g hg => (by cases hg)⟩
theorem OwnU.wr {F : Fz} {w w' : World} {B : Nat} {e : TypeId} {size n : Nat} {v : Value} {xs : List Value} (h : OwnU F w B e size v n xs) (hb : ∀ g, v.ownBlock = some g → w'.heap[g]? = w.heap[g]?) : OwnU F w' B e size v n xs :=
  ⟨h.1.same hb, fun g hg => (h.2 g hg).keep (hb g hg)⟩
theorem OwnU.call {F : Fz} {w w' : World} {B : Nat} {e : TypeId} {size n : Nat} {v : Value} {xs : List Value} (h : OwnU F w B e size v n xs) (hb : Below w.heap.size w w') : OwnU F w' B e size v n xs :=
  h.wr fun g hg => hb.block g (h.1.1.lt g hg).2
/-- append of one bucket, that lies in a block of its own. -/
theorem wpList_pushB {w : World} {ops : Array Oper} {rest : List Oper} {o : Oper} {a : Act} {Q : Exit → Act → World → Prop} (hgd : o.guard = none) (s x : Operand)
    (ho : o.op = .call { callee := .builtin .append, args := #[s, x], argTypes := #[57, 57] })
    {F : Fz} {B n q : Nat} {v : Value} {xs : List Value} {A : Option Addr} {k c' : Nat} (hown : OwnU F w B 59 2 v n xs) (hF : Sat F w) (hs : a.eval s = v)
    (g c : Nat) (hx : a.eval x = .slice (some ⟨g, 0, none⟩) 1 c) (hg : Blk w g 59 #[.int .i64 (q : Nat), .slice A k c']) (hn : n + 1 ≤ 1000000) (hB : B ≤ w.heap.size)
    (h : ∀ v' w', OwnU F w' B 59 2 v' (n + 1) (xs ++ [.int .i64 (q : Nat), .slice A k c']) → Sat F w' → Below B w w' → w.grownBy w' v.ownBlock → (v'.ownBlock = v.ownBlock ∨ v'.ownBlock = some w.heap.size) → (∀ g, v.ownBlock = some g → NoU w' g) → wpList Try.prog ops Q rest (a.put o.dst v') w') :
    wpList Try.prog ops Q (o :: rest) a w := by
  obtain ⟨i, hi, hz0, hz1, hz2⟩ := info_parts bucket_info
  have hl : ([.int .i64 (q : Nat), .slice A k c'] : List Value).length = 1 * 2 := rfl
  have hnews : ∀ j u, ([.int .i64 (q : Nat), .slice A k c'] : List Value)[j]? = some u → w.cell? ((⟨g, 0, none⟩ : Addr).add j) = some u := fun j u hu => by
    rw [add_lit0, hg.cell j]
    simpa using hu
  have h1 : ∀ u ∈ ([.int .i64 (q : Nat), .slice A k c'] : List Value), u.oneCell' = true := fun u hu => by
    simp at hu
    rcases hu with rfl | rfl <;> rfl
  have hml : n + 1 ≤ maxLen := by simp [maxLen]; omega
  obtain ⟨v', w', hr, h2, h3, _, h5⟩ := run_append_own_at (P := Try.prog) w B 57 o.type 59 i _ 2 32 Try.underlying57 hi hz0 hz1 hz2 rfl (by omega) v n xs hown.1.1 ⟨g, 0, none⟩ 1 c _ hl hnews h1 hml (by omega) hB
  have hNU := append_noU w B 57 o.type 59 i _ 2 32 Try.underlying57 hi hz0 hz1 hz2 rfl (by omega) v n xs hown.1.1 ⟨g, 0, none⟩ 1 c _ hl hnews h1 (by omega) hml (by omega) hown.2 (fun y hy x e => by
    simp at hy
    rcases hy with rfl | rfl <;> cases e) (fun y hy x e => by
    simp [Value.cells] at hy
    rcases hy with rfl | rfl <;> cases e) hr
  have hO : Own F w' B 59 2 v' (n + 1) (xs ++ [.int .i64 (q : Nat), .slice A k c']) := ⟨h2, fun g' hg' => by
    rcases h5 with h5 | h5
    · exact hown.1.2 g' (by rw [← h5]; exact hg')
    · rw [Option.some.inj (hg'.symm.trans h5)]
      exact hF.none_ (Nat.le_refl _)⟩
  refine wpList_plain hgd fun K hK => ?_
  unfold Oper.wp execOp
  simp only [ho, resolve, invoke, builtin, Sem.run_bind, Sem.run_pure, Result.andThen_ok, List.map_toArray, List.map_cons, List.map_nil, hs, hx, hr]
  exact hK _ _ (h v' w' ⟨hO, hNU.1⟩ (hF.grown h3 hown.1.2) ((Below.refl B w).grown h3 hB fun k hk => (hown.1.1.lt k hk).1) h3 h5 hNU.2)
end Go.Proofs.Ytaomehlhopiblaa
