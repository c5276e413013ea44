/- Words for memory: the frozen part of a world, slices that read as lists, rows of the call's own. Plain lemmas; no program in sight. -/
import Derived.Test.YtaomehlhopiblaaRows
import Derived.WalkKit
import Derived.WalkSpells
import Derived.WalkLawsBesides
import Derived.Maps.AppendAt
import Derived.Deep.AppendLies
import Derived.Deep.Draws
import Derived.Laws.CopyOwn
import Derived.Laws.Rows
import Derived.Lib.Hide
set_option linter.unusedVariables false
set_option linter.unusedSimpArgs false
namespace Go.Proofs.Ytaomehlhopiblaa
open Go.RowKit

theorem block_of_add (a : Addr) (n : Nat) : (a.add n).block = a.block := by unfold Addr.add; split <;> rfl
theorem add_of_add (a : Addr) (i j : Nat) : (a.add i).add j = a.add (i + j) := by
  unfold Addr.add
  by_cases hi : i = 0 <;> by_cases hj : j = 0 <;> simp [hi, hj, Nat.add_assoc]
theorem add_lit0 (g j : Nat) : (⟨g, 0, none⟩ : Addr).add j = ⟨g, j, none⟩ := by unfold Addr.add; split <;> simp_all

/-- The frozen part of a world: blocks that will not change any more. -/
abbrev Fz := Nat → Option Obj
def Sat (F : Fz) (w : World) : Prop := ∀ b o, F b = some o → w.heap[b]? = some o
/-- F' is F with more blocks, all of them new in w. -/
def Fle (w : World) (F F' : Fz) : Prop := (∀ b o, F b = some o → F' b = some o) ∧ ∀ b, b < w.heap.size → F' b = F b
def Fz.cell (F : Fz) (a : Addr) : Option Value :=
  match F a.block with
  | some (.cells c _ _) => if a.spot.isSome then none else c[a.off]?
  | _ => none
def heapF (w : World) : Fz := fun b => w.heap[b]?
def Fz.put (F : Fz) (g : Nat) (o : Obj) : Fz := fun b => if b = g then some o else F b

theorem sat_heapF (w : World) : Sat (heapF w) w := fun _ _ h => h
theorem Sat.lt {F : Fz} {w : World} (h : Sat F w) {b : Nat} {o : Obj} (hb : F b = some o) : b < w.heap.size := by
  have := h b o hb
  exact (Array.getElem?_eq_some_iff.1 this).1
theorem Sat.none_ {F : Fz} {w : World} (h : Sat F w) {b : Nat} (hb : w.heap.size ≤ b) : F b = none := by
  cases e : F b with
  | none => rfl
  | some o => have := h.lt e; omega
theorem Sat.cell {F : Fz} {w : World} (h : Sat F w) {a : Addr} {v : Value} (hc : F.cell a = some v) : w.cell? a = some v := by
  unfold Fz.cell at hc
  unfold World.cell?
  cases e : F a.block with
  | none => rw [e] at hc; cases hc
  | some o =>
    rw [h _ _ e]
    rw [e] at hc
    cases o <;> first | exact hc | cases hc
theorem Sat.clt {F : Fz} {w : World} (h : Sat F w) {a : Addr} {v : Value} (hc : F.cell a = some v) : a.block < w.heap.size := by
  unfold Fz.cell at hc
  cases e : F a.block with
  | none => rw [e] at hc; cases hc
  | some o => exact h.lt e
theorem Sat.below {F : Fz} {w w' : World} (h : Sat F w) (hb : Below w.heap.size w w') : Sat F w' :=
  fun b o hf => (hb.block b (h.lt hf)).trans (h b o hf)
theorem Sat.drew {F : Fz} {w : World} (h : Sat F w) : Sat F w.drew := h
theorem Sat.drewN {F : Fz} {w : World} (h : Sat F w) (n : Nat) : Sat F (w.drewN n) := h
theorem Sat.alloc {F : Fz} {w : World} (h : Sat F w) (o : Obj) : Sat F (w.alloc o) :=
  fun b _ hf => (Below.heap_alloc w o b (h.lt hf)).trans (h b _ hf)
theorem Sat.setCell {F : Fz} {w : World} (h : Sat F w) {p : Addr} (hp : F p.block = none) (u : Value) : Sat F (w.setCell p u) :=
  fun b o hf => (Below.heap_setCell w p u b (fun e => by rw [e, hp] at hf; cases hf)).trans (h b o hf)
theorem Sat.grown {F : Fz} {w w' : World} {row : Option Nat} (h : Sat F w) (hg : w.grownBy w' row) (hr : ∀ g, row = some g → F g = none) : Sat F w' :=
  fun b o hf => (hg.block b (h.lt hf) (fun e => by rw [hr b e.symm] at hf; cases hf)).trans (h b o hf)
theorem Fle.refl (w : World) (F : Fz) : Fle w F F := ⟨fun _ _ h => h, fun _ _ => rfl⟩
theorem Fle.trans {w w' : World} {F F' F'' : Fz} (h : Fle w F F') (k : Fle w' F' F'') (hs : w.heap.size ≤ w'.heap.size) : Fle w F F'' :=
  ⟨fun b o hb => k.1 b o (h.1 b o hb), fun b hb => (k.2 b (by omega)).trans (h.2 b hb)⟩
theorem Fle.old {w w' : World} {F F' : Fz} (h : Fle w' F F') (hs : w.heap.size ≤ w'.heap.size) : Fle w F F' := ⟨h.1, fun b hb => h.2 b (by omega)⟩
theorem Fle.cell {w : World} {F F' : Fz} (h : Fle w F F') {a : Addr} {v : Value} (hc : F.cell a = some v) : F'.cell a = some v := by
  unfold Fz.cell at hc ⊢
  cases e : F a.block with
  | none => rw [e] at hc; cases hc
  | some o => rw [h.1 _ _ e]; rw [e] at hc; exact hc
theorem Fle.put {w : World} {F : Fz} {g : Nat} (o : Obj) (hg : F g = none) (hw : w.heap.size ≤ g) : Fle w F (F.put g o) := by
  refine ⟨fun b o' h => ?_, fun b hb => ?_⟩
  · unfold Fz.put
    rw [if_neg]
    · exact h
    · rintro rfl; rw [hg] at h; cases h
  · unfold Fz.put
    rw [if_neg (by omega)]
theorem Sat.put {F : Fz} {w : World} {g : Nat} {o : Obj} (h : Sat F w) (hg : w.heap[g]? = some o) : Sat (F.put g o) w := by
  intro b o' hb
  unfold Fz.put at hb
  split at hb
  · rename_i e; subst e; injection hb with hb; subst hb; exact hg
  · exact h b o' hb

/-- The slice at A of n elements of 'size' cells reads as xs, all of it frozen. -/
def Rd (F : Fz) (size : Nat) (A : Option Addr) (n : Nat) (xs : List Value) : Prop :=
  xs.length = n * size ∧ (0 < n → ∃ ad, A = some ad ∧ ∀ j u, xs[j]? = some u → F.cell (ad.add j) = some u)
section
variable {F F' : Fz} {w w' : World} {size n : Nat} {A : Option Addr} {xs : List Value}
theorem Rd.nil : Rd F size A 0 [] := ⟨by simp, fun h => absurd h (by omega)⟩
theorem Rd.mono (h : Rd F size A n xs) (hle : Fle w F F') : Rd F' size A n xs :=
  ⟨h.1, fun hn => let ⟨ad, e, hc⟩ := h.2 hn; ⟨ad, e, fun j u hu => hle.cell (hc j u hu)⟩⟩
theorem Rd.at1 (h : Rd F 1 A n xs) {k : Nat} (hk : k < n) : ∃ ad u, A = some ad ∧ xs[k]? = some u ∧ F.cell (ad.add k) = some u := by
  obtain ⟨ad, e, hc⟩ := h.2 (by omega)
  have hl : k < xs.length := by have := h.1; omega
  exact ⟨ad, xs[k], e, List.getElem?_eq_getElem hl, hc k _ (List.getElem?_eq_getElem hl)⟩
theorem Rd.addr (h : Rd F size A n xs) (hn : 0 < n) : ∃ ad, A = some ad ∧ ∀ j u, xs[j]? = some u → F.cell (ad.add j) = some u := h.2 hn
theorem Rd.cut (h : Rd F size A n xs) {k cap : Nat} (hk : k ≤ n) (hc : n ≤ cap) :
    Rd F size (if cap = k then A else A.map (·.add (k * size))) (n - k) (xs.drop (k * size)) := by
  refine ⟨by rw [List.length_drop, h.1, Nat.sub_mul], fun hn => ?_⟩
  obtain ⟨ad, rfl, hcell⟩ := h.2 (by omega)
  rw [if_neg (by omega)]
  refine ⟨ad.add (k * size), rfl, fun j u hu => ?_⟩
  rw [add_of_add]
  exact hcell _ u (by rw [← hu, List.getElem?_drop])
theorem Rd.pre (h : Rd F size A n xs) {k : Nat} (hk : k ≤ n) : Rd F size A k (xs.take (k * size)) := by
  have hks : k * size ≤ n * size := Nat.mul_le_mul_right _ hk
  refine ⟨by rw [List.length_take, h.1]; omega, fun hn => ?_⟩
  obtain ⟨ad, rfl, hcell⟩ := h.2 (by omega)
  refine ⟨ad, rfl, fun j u hu => hcell j u ?_⟩
  rw [List.getElem?_take] at hu
  split at hu
  · exact hu
  · cases hu
end

/-- Block g is just the cells cs, none frozen. -/
def Blk (w : World) (g : Nat) (t : TypeId) (cs : Array Value) : Prop := w.heap[g]? = some (.cells cs t (0, 0))
section
variable {w w' : World} {g : Nat} {t : TypeId} {cs : Array Value} {F : Fz}
theorem Blk.lt (h : Blk w g t cs) : g < w.heap.size := by
  unfold Blk at h
  exact (Array.getElem?_eq_some_iff.1 h).1
theorem Blk.cell (h : Blk w g t cs) (i : Nat) : w.cell? ⟨g, i, none⟩ = cs[i]? := cell_of_row w g i cs t (0, 0) h
theorem Blk.frozen (h : Blk w g t cs) (i : Nat) : w.frozen? ⟨g, i, none⟩ = false := by
  unfold Blk at h
  simp [World.frozen?, h]
theorem Blk.new (w : World) (t : TypeId) (cs : Array Value) : Blk (w.alloc (.cells cs t)) w.heap.size t cs := heap_alloc_new w _
theorem Blk.drew (h : Blk w g t cs) : Blk w.drew g t cs := h
theorem Blk.drewN (h : Blk w g t cs) (n : Nat) : Blk (w.drewN n) g t cs := h
theorem Blk.alloc (h : Blk w g t cs) (o : Obj) : Blk (w.alloc o) g t cs := (Below.heap_alloc w o g h.lt).trans h
theorem Blk.set_ (h : Blk w g t cs) (i : Nat) (u : Value) : Blk (w.setCell ⟨g, i, none⟩ u) g t (cs.setIfInBounds i u) := by
  unfold Blk at h ⊢
  simp [World.setCell, Array.getElem?_modify, h]
theorem Blk.far (h : Blk w g t cs) {p : Addr} (hp : g ≠ p.block) (u : Value) : Blk (w.setCell p u) g t cs := (Below.heap_setCell w p u g hp).trans h
theorem Blk.below {B : Nat} (h : Blk w g t cs) (hb : Below B w w') (hg : g < B) : Blk w' g t cs := (hb.block g hg).trans h
theorem Blk.call (h : Blk w g t cs) (hb : Below w.heap.size w w') : Blk w' g t cs := (hb.block g h.lt).trans h
theorem Blk.grown {row : Option Nat} (h : Blk w g t cs) (hb : w.grownBy w' row) (hg : some g ≠ row) : Blk w' g t cs := (hb.block g h.lt hg).trans h
theorem Blk.ne_ {g' : Nat} {t' : TypeId} {cs' : Array Value} (h : Blk w g t cs) (h' : Blk w g' t' cs') (hne : t ≠ t') : g ≠ g' := by
  rintro rfl
  unfold Blk at h h'
  rw [h] at h'
  injection h' with h'
  injection h' with _ ht
  exact hne ht
/-- A block of the call's own is frozen: from now on it reads as the list. -/
theorem Blk.freeze (F : Fz) (g : Nat) (t : TypeId) (cs : Array Value) (n size : Nat) (hn : cs.size = n * size) : Rd (F.put g (.cells cs t (0, 0))) size (some ⟨g, 0, none⟩) n cs.toList := by
  refine ⟨by simpa using hn, fun _ => ⟨_, rfl, fun j u hu => ?_⟩⟩
  rw [add_lit0]
  unfold Fz.cell Fz.put
  simpa using hu
end

/-- A row of the call's own, apart from what is frozen. -/
def Own (F : Fz) (w : World) (B : Nat) (e : TypeId) (size : Nat) (v : Value) (n : Nat) (xs : List Value) : Prop :=
  w.ownsRow B e size v n xs ∧ ∀ g, v.ownBlock = some g → F g = none
section
variable {F : Fz} {w w' : World} {B : Nat} {e : TypeId} {size n : Nat} {v : Value} {xs : List Value}
theorem Own.nil (F : Fz) (w : World) (B : Nat) (e : TypeId) (size : Nat) : Own F w B e size (.slice none 0 0) 0 [] := ⟨World.ownsRow_nil w B e size, by simp [Value.ownBlock]⟩
theorem Own.drew (h : Own F w B e size v n xs) : Own F w.drew B e size v n xs := h
theorem Own.drewN (h : Own F w B e size v n xs) (k : Nat) : Own F (w.drewN k) B e size v n xs := h
theorem Own.alloc (h : Own F w B e size v n xs) (o : Obj) : Own F (w.alloc o) B e size v n xs := ⟨h.1.alloc o, h.2⟩
theorem Own.kept {row : Option Nat} (h : Own F w B e size v n xs) (hg : w.grownBy w' row) (hne : v.ownBlock = none ∨ v.ownBlock ≠ row) : Own F w' B e size v n xs := ⟨h.1.kept hg hne, h.2⟩
theorem grown_of_below (hb : Below w.heap.size w w') : w.grownBy w' none := ⟨hb.os, hb.tape, hb.output, hb.size, fun k hk _ => hb.block k hk⟩
theorem Own.call (h : Own F w B e size v n xs) (hb : Below w.heap.size w w') : Own F w' B e size v n xs :=
  h.kept (grown_of_below hb) (by cases hv : v.ownBlock <;> simp)
theorem Own.le {F' : Fz} (h : Own F w B e size v n xs) (hle : Fle w F F') : Own F' w B e size v n xs :=
  ⟨h.1, fun g hg => (hle.2 g (h.1.lt g hg).2).trans (h.2 g hg)⟩
theorem Own.setFar (h : Own F w B e size v n xs) {a : Addr} (ha : v.ownBlock ≠ some a.block) (u : Value) : Own F (w.setCell a u) B e size v n xs := ⟨ownsRow_setCell_other h.1 ha u, h.2⟩
/-- A row of the call's own is frozen. -/
theorem Own.freeze (h : Own F w B e size v n xs) (hs : Sat F w) (w0 : World) (hB : w0.heap.size ≤ B) :
    ∃ F' A c, v = .slice A n c ∧ n ≤ c ∧ Rd F' size A n xs ∧ Sat F' w ∧ Fle w0 F F' ∧ ∀ b, v.ownBlock ≠ some b → F' b = F b := by
  obtain ⟨⟨hl, h1⟩, h2⟩ := h
  rcases h1 with ⟨rfl, rfl⟩ | ⟨g, cap, cur, rfl, hg, hh, hc1, hc2, hc3, hc4⟩
  · obtain rfl : xs = [] := List.eq_nil_of_length_eq_zero (by simpa using hl)
    exact ⟨F, none, 0, rfl, Nat.le_refl _, Rd.nil, hs, Fle.refl _ _, fun _ _ => rfl⟩
  · have hFg : F g = none := h2 g rfl
    refine ⟨F.put g (.cells cur e (0, 0)), _, _, rfl, hc1, ⟨hl, fun _ => ⟨_, rfl, fun j u hu => ?_⟩⟩, hs.put hh, Fle.put _ hFg (by omega), fun b hb => ?_⟩
    · rw [add_lit0]
      rw [← hc4, List.getElem?_take] at hu
      unfold Fz.cell Fz.put
      split at hu
      · simpa using hu
      · cases hu
    · unfold Fz.put
      rw [if_neg]
      rintro rfl
      exact hb rfl
end

/-- n zero cells. -/
def zeros (z : Value) (n : Nat) : Array Value := (List.replicate n z).toArray
theorem run_make1 {P : Program} (t e : TypeId) (z : Value) (bytes : Nat) (ht : P.underlying t = some (.slice e)) (hi : (P.info? e).map (fun i => (i.zero, i.size, i.bytes)) = some (some z, 1, bytes)) (hz : z.cells = #[z])
    (n : Nat) (hb : bytes * n ≤ 281474976710656) (hn : n ≤ 9223372036854775807) (w : World) :
    (Instr.makeSlice t (.int .i64 (n : Int)) (.int .i64 (n : Int))).run P w = .ok (.slice (some ⟨w.heap.size, 0, none⟩) n n) (w.alloc (.cells (zeros z n) e)) := by
  obtain ⟨i, hi, hz0, hz1, hz2⟩ := info_parts hi
  have hb' : (i.bytes : Int) * (n : Int) ≤ 281474976710656 := by
    rw [hz2]
    have : ((bytes * n : Nat) : Int) ≤ 281474976710656 := by omega
    rwa [Int.natCast_mul] at this
  have hr := run_make (P := P) w t e i z ht hi hz0 .i64 .i64 n n (by omega) (by omega) hb' (by omega)
  simp only [Int.toNat_natCast] at hr
  rw [hr, hz1, hz, Nat.mul_one]
  have : madeCells #[z] n = zeros z n := by
    apply Array.toList_inj.1
    rw [toList_madeCells_one]
    simp [zeros]
  rw [this]

theorem min_cases (n W : Nat) : Nat.min n W ≤ n ∧ Nat.min n W ≤ W ∧ (Nat.min n W = n ∨ Nat.min n W = W) := by
  refine ⟨Nat.min_le_left _ _, Nat.min_le_right _ _, ?_⟩
  rcases Nat.le_total n W with h | h
  · exact .inl (Nat.min_eq_left h)
  · exact .inr (Nat.min_eq_right h)
theorem splice_zero (z : Value) (W n : Nat) (xs : List Value) (hn : xs.length = n) : splice (List.replicate W z) 0 (xs.take (Nat.min n W)) = (List.range W).map fun i => xs.getD i z := by
  obtain ⟨hm1, hm2, hm3⟩ := min_cases n W
  generalize Nat.min n W = k at hm1 hm2 hm3 ⊢
  have hlen : (xs.take k).length = k := by rw [List.length_take]; omega
  apply List.ext_getElem
  · simp [splice]; omega
  · intro i h1 h2
    simp only [List.getElem_map, List.getElem_range]
    have hiW : i < W := by simpa using h2
    unfold splice
    simp only [List.take_zero, List.nil_append, Nat.zero_add, hlen]
    by_cases hi : i < k
    · rw [List.getElem_append_left (by rw [hlen]; exact hi)]
      simp only [List.getElem_take, List.getD]
      rw [List.getElem?_eq_getElem (by omega)]
      rfl
    · rw [List.getElem_append_right (by rw [hlen]; omega)]
      have hin : n ≤ i := by omega
      have : xs.getD i z = z := by simp [List.getD, hn ▸ hin]
      rw [this]
      simp
/-- The first W values, as many zeros behind as are wanted. -/
def padV (z : Value) (W : Nat) (xs : List Value) : Array Value := ((List.range W).map fun i => xs.getD i z).toArray
/-- copy into a new row of zeros. -/
theorem wpList_copy_new {P : Program} {w : World} {ops : Array Oper} {rest : List Oper} {o : Oper} {a : Act} {Q : Exit → Act → World → Prop} (hgd : o.guard = none) (d s : Operand) (dT sT : TypeId)
    (ho : o.op = .call { callee := .builtin .copy, args := #[d, s], argTypes := #[dT, sT] }) (elem : TypeId) (hu : P.underlying dT = some (.slice elem)) (hsz : (P.info? elem).map (·.size) = some 1)
    (g W : Nat) (hd : a.eval d = .slice (some ⟨g, 0, none⟩) W W) (A : Option Addr) (n c : Nat) (hs : a.eval s = .slice A n c) {F : Fz} (hF : Sat F w) (xs : List Value) (hA : Rd F 1 A n xs) (h1 : ∀ v ∈ xs, v.oneCell' = true)
    (z : Value) (hg : Blk w g elem (zeros z W)) (B : Nat) (w0 : World) (hb : Below B w0 w) (hB : B ≤ g)
    (h' : ∀ w', Blk w' g elem (padV z W xs) → Below B w0 w' → ∀ k, wpList P ops Q rest (a.put o.dst (goInt k)) w') :
    wpList P ops Q (o :: rest) a w := by
  have hl : xs.length = n := by have := hA.1; omega
  obtain ⟨hm1, hm2, hm3⟩ := min_cases n W
  have hlt : (xs.take (Nat.min n W)).length = Nat.min n W := by rw [List.length_take, hl]; omega
  refine wpList_copy_splice hgd d s dT sT ho elem hu hsz _ _ W W n c hd hs g 0 (List.replicate W z) elem hg (xs.take (Nat.min n W)) hlt ?_ ?_ ?_ B w0 hb hB ?_
  · intro hpos
    have hn : 0 < n := by rw [hlt] at hpos; omega
    obtain ⟨ad, e, hc⟩ := hA.2 hn
    refine ⟨rfl, ad, e, fun j v hv => hF.cell (hc j v ?_)⟩
    rw [List.getElem?_take] at hv
    split at hv
    · exact hv
    · cases hv
  · rw [hlt, List.length_replicate]; omega
  · intro v hv; exact h1 v (List.mem_of_mem_take hv)
  · intro w' hw' hb'
    have hw' := hw'.out
    rw [splice_zero z W n xs hl] at hw'
    exact h' w' hw' hb' _

/-! A list whose first k elements are turned already. -/
def upto {α : Type} (f : α → α) (k : Nat) (xs : List α) : List α := (xs.take k).map f ++ xs.drop k
section
variable {α : Type} {f : α → α} {k : Nat} {xs : List α}
theorem upto_zero (f : α → α) (xs : List α) : upto f 0 xs = xs := by simp [upto]
theorem length_upto (f : α → α) (k : Nat) (xs : List α) : (upto f k xs).length = xs.length := by simp [upto]; omega
theorem upto_all (f : α → α) (h : xs.length ≤ k) : upto f k xs = xs.map f := by
  unfold upto
  rw [List.take_of_length_le h, List.drop_of_length_le h, List.append_nil]
theorem upto_cons (f : α → α) (k : Nat) (x : α) (xs : List α) : upto f (k + 1) (x :: xs) = f x :: upto f k xs := rfl
theorem upto_get (f : α → α) : ∀ {k : Nat} {xs : List α} (h : k < xs.length), (upto f k xs)[k]? = some xs[k]
  | 0, x :: xs, _ => rfl
  | k + 1, x :: xs, h => by
    rw [upto_cons, List.getElem?_cons_succ]
    exact upto_get f (by simpa using h)
theorem upto_set (f : α → α) : ∀ {k : Nat} {xs : List α} (h : k < xs.length), (upto f k xs).set k (f xs[k]) = upto f (k + 1) xs
  | 0, x :: xs, _ => rfl
  | k + 1, x :: xs, h => by
    rw [upto_cons, upto_cons, List.set_cons_succ]
    exact congrArg _ (upto_set f (by simpa using h))
end
/-- The same where the turning hangs on the place. -/
def uptoI {α : Type} (f : Nat → α → α) (k : Nat) (xs : List α) : List α := xs.mapIdx fun i x => if i < k then f i x else x
section
variable {α : Type} {f : Nat → α → α} {k : Nat} {xs : List α}
theorem uptoI_zero (f : Nat → α → α) (xs : List α) : uptoI f 0 xs = xs := by
  apply List.ext_getElem?
  intro i
  simp [uptoI]
theorem length_uptoI (f : Nat → α → α) (k : Nat) (xs : List α) : (uptoI f k xs).length = xs.length := by simp [uptoI]
theorem uptoI_all (f : Nat → α → α) (h : xs.length ≤ k) : uptoI f k xs = xs.mapIdx f := by
  apply List.ext_getElem?
  intro i
  simp only [uptoI, List.getElem?_mapIdx]
  by_cases hi : i < xs.length
  · simp [List.getElem?_eq_getElem hi, show i < k by omega]
  · simp [List.getElem?_eq_none (l := xs) (i := i) (by omega)]
theorem uptoI_get (f : Nat → α → α) (h : k < xs.length) : (uptoI f k xs)[k]? = some xs[k] := by simp [uptoI, h]
theorem uptoI_set (f : Nat → α → α) (h : k < xs.length) : (uptoI f k xs).set k (f k xs[k]) = uptoI f (k + 1) xs := by
  apply List.ext_getElem?
  intro i
  rw [List.getElem?_set, length_uptoI]
  simp only [uptoI, List.getElem?_mapIdx]
  by_cases hi : k = i
  · subst hi
    simp [h]
  · rw [if_neg hi]
    have : i < k ↔ i < k + 1 := by omega
    simp [this]
end
/-- A cell of a block that reads as a list is turned. -/
theorem Blk.setL {w : World} {g : Nat} {t : TypeId} {α : Type} {enc : α → Value} {xs ys : List α} (h : Blk w g t (xs.map enc).toArray) (k : Nat) (y : α) (e : xs.set k y = ys) : Blk (w.setCell ⟨g, k, none⟩ (enc y)) g t (ys.map enc).toArray := by
  have := h.set_ k (enc y)
  rwa [List.setIfInBounds_toArray, ← List.map_set, e] at this
theorem Blk.cellL {w : World} {g : Nat} {t : TypeId} {α : Type} {enc : α → Value} {xs : List α} (h : Blk w g t (xs.map enc).toArray) {k : Nat} {x : α} (e : xs[k]? = some x) : w.cell? ⟨g, k, none⟩ = some (enc x) := by
  rw [h.cell k]
  simp [e]
/-- A block of the call's own that reads as a list is frozen. -/
theorem Blk.rd {w : World} {g : Nat} {t : TypeId} {α : Type} {enc : α → Value} {xs : List α} {F : Fz} (hF : Sat F w) (h : Blk w g t (xs.map enc).toArray) :
    Sat (F.put g (.cells (xs.map enc).toArray t (0, 0))) w ∧ Rd (F.put g (.cells (xs.map enc).toArray t (0, 0))) 1 (some ⟨g, 0, none⟩) xs.length (xs.map enc) := by
  refine ⟨hF.put h, ?_⟩
  have := Blk.freeze F g t (xs.map enc).toArray xs.length 1 (by simp)
  simpa using this
/-- A block of the call's own, read as it lies in the whole memory. -/
theorem Blk.rdH {w : World} {g : Nat} {t : TypeId} {α : Type} {enc : α → Value} {xs : List α} (h : Blk w g t (xs.map enc).toArray) : Rd (heapF w) 1 (some ⟨g, 0, none⟩) xs.length (xs.map enc) := by
  refine ⟨by simp, fun _ => ⟨_, rfl, fun j u hu => ?_⟩⟩
  rw [add_lit0]
  unfold Fz.cell heapF
  rw [h]
  simpa using hu
theorem below_drewN {B : Nat} {a w : World} (h : Below B a w) (n : Nat) : Below B a (w.drewN n) := ⟨h.os, h.tape, h.output, h.size, h.block⟩
theorem bthen {w w1 w2 : World} (h : Below w.heap.size w w1) (k : Below w1.heap.size w1 w2) : Below w.heap.size w w2 := h.trans (k.mono h.size)
theorem balloc (w : World) (o : Obj) : Below w.heap.size w (w.alloc o) := (Below.refl _ _).alloc (Nat.le_refl _) o
/-- What is frozen lies in the whole memory. -/
theorem Rd.heap {F : Fz} {w : World} {size n : Nat} {A : Option Addr} {xs : List Value} (h : Rd F size A n xs) (hF : Sat F w) : Rd (heapF w) size A n xs :=
  ⟨h.1, fun hn => let ⟨ad, e, hc⟩ := h.2 hn; ⟨ad, e, fun j u hu => by
    have h1 := hF.cell (hc j u hu)
    unfold Fz.cell heapF
    exact h1⟩⟩
theorem Rd.put {F : Fz} {size n : Nat} {A : Option Addr} {xs : List Value} (h : Rd F size A n xs) {g : Nat} {o : Obj} (hg : F g = none) : Rd (F.put g o) size A n xs :=
  ⟨h.1, fun hn => let ⟨ad, e, hc⟩ := h.2 hn; ⟨ad, e, fun j u hu => by
    have h1 := hc j u hu
    unfold Fz.cell Fz.put at *
    have : (ad.add j).block ≠ g := fun e => by rw [e, hg] at h1; cases h1
    rw [if_neg this]
    exact h1⟩⟩

/-- append of one element, that lies in a block of its own, onto a row of the call's own. -/
theorem wpList_push {P : Program} {w : World} {ops : Array Oper} {rest : List Oper} {o : Oper} {a : Act} {Q : Exit → Act → World → Prop} (hgd : o.guard = none) (s x : Operand) (t : TypeId)
    (ho : o.op = .call { callee := .builtin .append, args := #[s, x], argTypes := #[t, t] })
    (e : TypeId) (z : Value) (size bytes : Nat) (ht : P.underlying t = some (.slice e)) (hi : (P.info? e).map (fun i => (i.zero, i.size, i.bytes)) = some (some z, size, bytes)) (hzs : z.cells.size = size) (hsz : 0 < size)
    {F : Fz} {B n : Nat} {v : Value} {xs : List Value} (hown : Own F w B e size v n xs) (hF : Sat F w) (hs : a.eval s = v)
    (g c : Nat) (cs : Array Value) (hx : a.eval x = .slice (some ⟨g, 0, none⟩) 1 c) (hg : Blk w g e cs) (hcs : cs.size = size) (h1 : ∀ u ∈ cs.toList, u.oneCell' = true)
    (h63 : n + 1 ≤ maxLen) (hbytes : (n + 1) * bytes ≤ 140737488355328) (hB : B ≤ w.heap.size)
    (h : ∀ v' w', Own F w' B e size v' (n + 1) (xs ++ cs.toList) → Sat F w' → Below B w w' → w.grownBy w' v.ownBlock → (v'.ownBlock = v.ownBlock ∨ v'.ownBlock = some w.heap.size) → wpList P ops Q rest (a.put o.dst v') w') :
    wpList P ops Q (o :: rest) a w := by
  obtain ⟨i, hi, hz0, hz1, hz2⟩ := info_parts hi
  refine wpList_append_own_at w hgd s x t ho B e i z size bytes ht hi hz0 hz1 hz2 hzs hsz v n xs hs hown.1 ⟨g, 0, none⟩ 1 c cs.toList hx (by simp [hcs]) (fun j u hu => ?_) h1 h63 hbytes hB ?_
  · rw [add_lit0, hg.cell j]
    simpa using hu
  · intro v' w' h2 h3 _ h5
    refine h v' w' ⟨h2, fun g' hg' => ?_⟩ (hF.grown h3 hown.2) ((Below.refl B w).grown h3 hB fun k hk => (hown.1.lt k hk).1) h3 h5
    rcases h5 with h5 | h5
    · exact hown.2 g' (by rw [← h5]; exact hg')
    · rw [hg'] at h5
      injection h5 with h5
      subst h5
      exact hF.none_ (Nat.le_refl _)

end Go.Proofs.Ytaomehlhopiblaa
