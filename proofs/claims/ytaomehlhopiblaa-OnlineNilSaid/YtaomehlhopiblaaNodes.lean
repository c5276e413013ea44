/- Lists of nodes: their cells in a row, frozen with their kids; rows of nodes of the call's own; rows of ints that are turned in place. -/
import Derived.Test.YtaomehlhopiblaaSizes
import Derived.Test.YtaomehlhopiblaaApp
set_option linter.unusedVariables false
set_option linter.unusedSimpArgs false
namespace Go.Proofs.Ytaomehlhopiblaa
open Go.RowKit

/-- All that reads in F reads so in F'. -/
def CLe (F F' : Fz) : Prop := ∀ a v, F.cell a = some v → F'.cell a = some v
theorem CLe.refl (F : Fz) : CLe F F := fun _ _ h => h
theorem CLe.trans {F F' F'' : Fz} (h : CLe F F') (k : CLe F' F'') : CLe F F'' := fun a v hc => k a v (h a v hc)
theorem Fle.cle {w : World} {F F' : Fz} (h : Fle w F F') : CLe F F' := fun _ _ hc => h.cell hc
theorem Sat.cle {F : Fz} {w : World} (h : Sat F w) : CLe F (heapF w) := fun a v hc => by
  have h1 := h.cell hc
  unfold Fz.cell heapF
  exact h1
theorem cle_below {w w' : World} (hb : Below w.heap.size w w') : CLe (heapF w) (heapF w') := ((sat_heapF w).below hb).cle
theorem Rd.cle {F F' : Fz} {size n : Nat} {A : Option Addr} {xs : List Value} (h : Rd F size A n xs) (hle : CLe F F') : Rd F' size A n xs :=
  ⟨h.1, fun hn => let ⟨ad, e, hc⟩ := h.2 hn; ⟨ad, e, fun j u hu => hle _ _ (hc j u hu)⟩⟩
/-- The cells of a node. -/
def ndVals (n : Nd) (A : Option Addr) (c : Nat) : List Value := [.int .i64 n.kind, .string n.name, .int .i64 n.lo, .int .i64 n.hi, .slice A n.kids.length c]
/-- The cells of a list of nodes, whose kids are frozen in F. -/
inductive NodesV (F : Fz) : List Nd → List Value → Prop
  | nil : NodesV F [] []
  | cons (n : Nd) (l : List Nd) (A : Option Addr) (c : Nat) (xs : List Value) (hc : n.kids.length ≤ c) (hr : Rd F 1 A n.kids.length (n.kids.map (Value.int .i64))) (h : NodesV F l xs) : NodesV F (n :: l) (ndVals n A c ++ xs)
namespace NodesV
variable {F F' : Fz}
theorem len {l : List Nd} {xs : List Value} (h : NodesV F l xs) : xs.length = l.length * 5 := by
  induction h with
  | nil => rfl
  | cons n l A c xs _ _ _ ih => simp [ndVals, ih]; omega
theorem cle {l : List Nd} {xs : List Value} (h : NodesV F l xs) (hle : CLe F F') : NodesV F' l xs := by
  induction h with
  | nil => exact .nil
  | cons n l A c xs hc hr _ ih => exact .cons n l A c xs hc (hr.cle hle) ih
theorem append {l l' : List Nd} {xs xs' : List Value} (h : NodesV F l xs) (h' : NodesV F l' xs') : NodesV F (l ++ l') (xs ++ xs') := by
  induction h with
  | nil => exact h'
  | cons n l A c xs hc hr _ ih => rw [List.append_assoc]; exact .cons n _ A c _ hc hr ih
theorem one {n : Nd} {A : Option Addr} {c : Nat} (hc : n.kids.length ≤ c) (hr : Rd F 1 A n.kids.length (n.kids.map (Value.int .i64))) : NodesV F [n] (ndVals n A c) := by
  have := NodesV.cons n [] A c [] hc hr .nil
  simpa using this
theorem snoc {l : List Nd} {xs : List Value} (h : NodesV F l xs) {n : Nd} {A : Option Addr} {c : Nat} (hc : n.kids.length ≤ c) (hr : Rd F 1 A n.kids.length (n.kids.map (Value.int .i64))) : NodesV F (l ++ [n]) (xs ++ ndVals n A c) := h.append (one hc hr)
theorem ones {l : List Nd} {xs : List Value} (h : NodesV F l xs) : ∀ u ∈ xs, u.oneCell' = true := by
  induction h with
  | nil => intro u hu; cases hu
  | cons n l A c xs _ _ _ ih =>
    intro u hu
    rcases List.mem_append.1 hu with h | h
    · unfold ndVals at h
      simp at h
      rcases h with rfl | rfl | rfl | rfl | rfl <;> rfl
    · exact ih u h
theorem take {l : List Nd} {xs : List Value} (h : NodesV F l xs) : ∀ k, NodesV F (l.take k) (xs.take (k * 5)) := by
  induction h with
  | nil => intro k; simp; exact .nil
  | cons n l A c xs hc hr _ ih =>
    intro k
    cases k with
    | zero => simp; exact .nil
    | succ k =>
      have := NodesV.cons n _ A c _ hc hr (ih k)
      rw [List.take_succ_cons, show (k + 1) * 5 = (ndVals n A c).length + k * 5 by simp [ndVals]; omega, List.take_length_add_append]
      exact this
theorem at_ {l : List Nd} {xs : List Value} (h : NodesV F l xs) : ∀ (i : Nat) (hi : i < l.length), ∃ A c, l[i].kids.length ≤ c ∧ Rd F 1 A l[i].kids.length (l[i].kids.map (Value.int .i64)) ∧ ∀ j, j < 5 → xs[i * 5 + j]? = (ndVals l[i] A c)[j]? := by
  induction h with
  | nil => intro i hi; simp at hi
  | cons n l A c xs hc hr _ ih =>
    intro i hi
    cases i with
    | zero =>
      refine ⟨A, c, hc, hr, fun j hj => ?_⟩
      rw [Nat.zero_mul, Nat.zero_add, List.getElem?_append_left (by simp [ndVals]; omega)]
      rfl
    | succ i =>
      obtain ⟨A', c', h1, h2, h3⟩ := ih i (by simpa using hi)
      refine ⟨A', c', h1, h2, fun j hj => ?_⟩
      have h4 := h3 j hj
      rw [List.getElem?_append_right (by simp [ndVals]; omega), show (i + 1) * 5 + j - (ndVals n A c).length = i * 5 + j by simp [ndVals]; omega]
      exact h4
end NodesV
theorem add_succ (p : Addr) (j : Nat) : p.add (j + 1) = ⟨p.block, p.off + (j + 1), none⟩ := by unfold Addr.add; simp
theorem ndCells_iff {f : Addr → Option Value} {p : Addr} {n : Nd} {A : Option Addr} {c : Nat} : ndCells f p n A c ↔ ∀ j u, (ndVals n A c)[j]? = some u → f (p.add j) = some u := by
  have a0 : p.add 0 = p := by unfold Addr.add; simp
  unfold ndCells
  constructor
  · rintro ⟨h0, h1, h2, h3, h4⟩ j u hj
    match j, hj with
    | 0, hj => injection hj with hj; subst hj; rw [a0]; exact h0
    | 1, hj => injection hj with hj; subst hj; rw [add_succ]; exact h1
    | 2, hj => injection hj with hj; subst hj; rw [add_succ]; exact h2
    | 3, hj => injection hj with hj; subst hj; rw [add_succ]; exact h3
    | 4, hj => injection hj with hj; subst hj; rw [add_succ]; exact h4
    | j + 5, hj => cases hj
  · intro h
    have h0 := h 0 _ rfl
    have h1 := h 1 _ rfl
    have h2 := h 2 _ rfl
    have h3 := h 3 _ rfl
    have h4 := h 4 _ rfl
    rw [a0] at h0
    rw [add_succ] at h1 h2 h3 h4
    exact ⟨h0, h1, h2, h3, h4⟩
theorem NodesV.toF {F : Fz} {l : List Nd} {xs : List Value} (h : NodesV F l xs) {A : Option Addr} {n : Nat} (hr : Rd F 5 A n xs) : NodesF F A n l := by
  have hlen := h.len
  have hn : l.length = n := by have := hr.1; omega
  refine ⟨hn, fun hp => ?_⟩
  obtain ⟨ad, e, hc⟩ := hr.2 hp
  refine ⟨ad, e, fun i hi => ?_⟩
  obtain ⟨Ak, ck, h1, h2, h3⟩ := h.at_ i hi
  refine ⟨Ak, ck, h1, h2, ndCells_iff.2 fun j u hj => ?_⟩
  rw [add_of_add]
  refine hc _ _ ?_
  rw [h3 j (by have := (List.getElem?_eq_some_iff.1 hj).1; simpa [ndVals] using this)]
  exact hj
theorem nodesV_of {F : Fz} : ∀ (l : List Nd) (ad : Addr), (∀ i (h : i < l.length), ∃ Ak ck, l[i].kids.length ≤ ck ∧ Rd F 1 Ak l[i].kids.length (l[i].kids.map (Value.int .i64)) ∧ ndCells F.cell (ad.add (i * 5)) l[i] Ak ck) →
    ∃ xs, NodesV F l xs ∧ ∀ j u, xs[j]? = some u → F.cell (ad.add j) = some u
  | [], _, _ => ⟨[], .nil, fun j u h => by simp at h⟩
  | n :: l, ad, h => by
    obtain ⟨A, c, h1, h2, h3⟩ := h 0 (by simp)
    obtain ⟨xs, h4, h5⟩ := nodesV_of l (ad.add 5) (fun i hi => by
      obtain ⟨A, c, h1, h2, h3⟩ := h (i + 1) (by simpa using hi)
      refine ⟨A, c, h1, h2, ?_⟩
      rw [add_of_add, show 5 + i * 5 = (i + 1) * 5 by omega]
      exact h3)
    refine ⟨_, .cons n l A c xs h1 h2 h4, fun j u hj => ?_⟩
    by_cases hj5 : j < 5
    · rw [List.getElem?_append_left (by simpa [ndVals] using hj5)] at hj
      have := ndCells_iff.1 h3 j u hj
      rw [add_of_add, Nat.zero_mul, Nat.zero_add] at this
      exact this
    · rw [List.getElem?_append_right (by simp [ndVals]; omega)] at hj
      have := h5 _ u hj
      rw [add_of_add, show 5 + (j - (ndVals n A c).length) = j by simp [ndVals]; omega] at this
      exact this
theorem NodesF.toV {F : Fz} {A : Option Addr} {n : Nat} {l : List Nd} (h : NodesF F A n l) : ∃ xs, Rd F 5 A n xs ∧ NodesV F l xs := by
  obtain ⟨rfl, h⟩ := h
  rcases Nat.eq_zero_or_pos l.length with h0 | h0
  · obtain rfl := List.eq_nil_of_length_eq_zero h0
    exact ⟨[], Rd.nil, .nil⟩
  · obtain ⟨ad, rfl, hL⟩ := h h0
    obtain ⟨xs, h1, h2⟩ := nodesV_of l ad hL
    exact ⟨xs, ⟨h1.len, fun _ => ⟨ad, rfl, h2⟩⟩, h1⟩
theorem NodesF.cle {F F' : Fz} {A : Option Addr} {n : Nat} {l : List Nd} (h : NodesF F A n l) (hle : CLe F F') : NodesF F' A n l := by
  obtain ⟨xs, h1, h2⟩ := h.toV
  exact (h2.cle hle).toF (h1.cle hle)
theorem NodesF.nil (F : Fz) (A : Option Addr) : NodesF F A 0 [] := ⟨rfl, fun h => absurd h (by omega)⟩
theorem NodesF.cut {F : Fz} {A : Option Addr} {n : Nat} {l : List Nd} (h : NodesF F A n l) {k cap : Nat} (hk : k ≤ n) (hc : n ≤ cap) : NodesF F (if cap = k then A else A.map (·.add (k * 5))) (n - k) (l.drop k) := by
  obtain ⟨rfl, h⟩ := h
  refine ⟨by simp, fun hn => ?_⟩
  obtain ⟨ad, rfl, hL⟩ := h (by omega)
  rw [if_neg (by omega)]
  refine ⟨ad.add (k * 5), rfl, fun i hi => ?_⟩
  obtain ⟨Ak, ck, h1, h2, h3⟩ := hL (k + i) (by simp at hi; omega)
  simp only [List.getElem_drop]
  refine ⟨Ak, ck, h1, h2, ?_⟩
  rw [add_of_add, show k * 5 + i * 5 = (k + i) * 5 by omega]
  exact h3
theorem NodesF.pre {F : Fz} {A : Option Addr} {n : Nat} {l : List Nd} (h : NodesF F A n l) {k : Nat} (hk : k ≤ n) : NodesF F A k (l.take k) := by
  obtain ⟨rfl, h⟩ := h
  refine ⟨by simp; omega, fun hn => ?_⟩
  obtain ⟨ad, rfl, hL⟩ := h (by omega)
  refine ⟨ad, rfl, fun i hi => ?_⟩
  obtain ⟨Ak, ck, h1, h2, h3⟩ := hL i (by simp at hi; omega)
  simp only [List.getElem_take]
  exact ⟨Ak, ck, h1, h2, h3⟩

/-- Block g begins with the cells xs; it is the call's own. -/
def BlkL (w : World) (g : Nat) (t : TypeId) (xs : List Value) : Prop := ∃ cs, Blk w g t cs ∧ ∀ (j : Nat) (u : Value), xs[j]? = some u → cs[j]? = some u
namespace BlkL
variable {w w' : World} {g : Nat} {t : TypeId} {xs : List Value} {F : Fz}
theorem of (h : Blk w g t xs.toArray) : BlkL w g t xs := ⟨_, h, fun j u hj => by simpa using hj⟩
theorem lt (h : BlkL w g t xs) : g < w.heap.size := let ⟨_, h1, _⟩ := h; h1.lt
theorem cell (h : BlkL w g t xs) {j : Nat} {u : Value} (hj : xs[j]? = some u) : w.cell? ⟨g, j, none⟩ = some u := by
  obtain ⟨cs, h1, h2⟩ := h
  rw [h1.cell j]
  exact h2 j u hj
theorem frozen (h : BlkL w g t xs) (i : Nat) : w.frozen? ⟨g, i, none⟩ = false := let ⟨_, h1, _⟩ := h; h1.frozen i
theorem drewN (h : BlkL w g t xs) (n : Nat) : BlkL (w.drewN n) g t xs := h
theorem alloc (h : BlkL w g t xs) (o : Obj) : BlkL (w.alloc o) g t xs := let ⟨cs, h1, h2⟩ := h; ⟨cs, h1.alloc o, h2⟩
theorem call (h : BlkL w g t xs) (hb : Below w.heap.size w w') : BlkL w' g t xs := let ⟨cs, h1, h2⟩ := h; ⟨cs, h1.call hb, h2⟩
theorem below {B : Nat} (h : BlkL w g t xs) (hb : Below B w w') (hg : g < B) : BlkL w' g t xs := let ⟨cs, h1, h2⟩ := h; ⟨cs, h1.below hb hg, h2⟩
theorem far (h : BlkL w g t xs) {p : Addr} (hp : g ≠ p.block) (u : Value) : BlkL (w.setCell p u) g t xs := let ⟨cs, h1, h2⟩ := h; ⟨cs, h1.far hp u, h2⟩
theorem grown {row : Option Nat} (h : BlkL w g t xs) (hb : w.grownBy w' row) (hg : some g ≠ row) : BlkL w' g t xs := let ⟨cs, h1, h2⟩ := h; ⟨cs, h1.grown hb hg, h2⟩
theorem set_ (h : BlkL w g t xs) (k : Nat) (u : Value) : BlkL (w.setCell ⟨g, k, none⟩ u) g t (xs.set k u) := by
  obtain ⟨cs, h1, h2⟩ := h
  refine ⟨_, h1.set_ k u, fun j v hj => ?_⟩
  rw [List.getElem?_set] at hj
  split at hj
  · rename_i e
    subst e
    split at hj
    · rename_i hk
      injection hj with hj
      subst hj
      have := h2 k _ (List.getElem?_eq_getElem hk)
      have hk2 : k < cs.size := (Array.getElem?_eq_some_iff.1 this).1
      simp [hk2]
    · cases hj
  · rename_i e
    rw [Array.getElem?_setIfInBounds_ne (by omega)]
    exact h2 j v hj
theorem ne_ {g' : Nat} {t' : TypeId} {xs' : List Value} (h : BlkL w g t xs) (h' : BlkL w g' t' xs') (hne : t ≠ t') : g ≠ g' := let ⟨_, h1, _⟩ := h; let ⟨_, h2, _⟩ := h'; h1.ne_ h2 hne
/-- It is frozen. -/
theorem freeze (h : BlkL w g t xs) (hF : Sat F w) {n size : Nat} (hl : xs.length = n * size) : ∃ o, Sat (F.put g o) w ∧ Rd (F.put g o) size (some ⟨g, 0, none⟩) n xs := by
  obtain ⟨cs, h1, h2⟩ := h
  refine ⟨_, hF.put h1, hl, fun _ => ⟨_, rfl, fun j u hu => ?_⟩⟩
  rw [add_lit0]
  unfold Fz.cell Fz.put
  simpa using h2 j u hu
end BlkL
/-- A row of the call's own that is no nil slice lies in a block of its own. -/
theorem Own.blk {F : Fz} {w : World} {B : Nat} {e : TypeId} {size n : Nat} {v : Value} {xs : List Value} (h : Own F w B e size v n xs) : (v = .slice none 0 0 ∧ n = 0 ∧ xs = []) ∨ ∃ g cap, v = .slice (some ⟨g, 0, none⟩) n cap ∧ n ≤ cap ∧ B ≤ g ∧ F g = none ∧ BlkL w g e xs := by
  obtain ⟨⟨hl, h1⟩, h2⟩ := h
  rcases h1 with ⟨rfl, rfl⟩ | ⟨g, cap, cur, rfl, hg, hh, hc1, hc2, hc3, hc4⟩
  · exact .inl ⟨rfl, rfl, List.eq_nil_of_length_eq_zero (by simpa using hl)⟩
  · refine .inr ⟨g, cap, rfl, hc1, hg, h2 g rfl, cur, hh, fun j u hj => ?_⟩
    rw [← hc4, List.getElem?_take] at hj
    split at hj
    · simpa using hj
    · cases hj
/-- A row of nodes of the call's own. -/
def OwnN (F : Fz) (w : World) (B : Nat) (v : Value) (l : List Nd) : Prop := ∃ xs, Own F w B 48 5 v l.length xs ∧ NodesV F l xs
namespace OwnN
variable {F F' : Fz} {w w' : World} {B : Nat} {v : Value} {l : List Nd}
theorem nil (F : Fz) (w : World) (B : Nat) : OwnN F w B (.slice none 0 0) [] := ⟨[], Own.nil _ _ _ _ _, .nil⟩
theorem call (h : OwnN F w B v l) (hb : Below w.heap.size w w') : OwnN F w' B v l := let ⟨xs, h1, h2⟩ := h; ⟨xs, h1.call hb, h2⟩
theorem alloc (h : OwnN F w B v l) (o : Obj) : OwnN F (w.alloc o) B v l := let ⟨xs, h1, h2⟩ := h; ⟨xs, h1.alloc o, h2⟩
theorem drewN (h : OwnN F w B v l) (n : Nat) : OwnN F (w.drewN n) B v l := h
theorem le (h : OwnN F w B v l) (hle : Fle w F F') : OwnN F' w B v l := let ⟨xs, h1, h2⟩ := h; ⟨xs, h1.le hle, h2.cle hle.cle⟩
theorem setFar (h : OwnN F w B v l) {a : Addr} (ha : v.ownBlock ≠ some a.block) (u : Value) : OwnN F (w.setCell a u) B v l := let ⟨xs, h1, h2⟩ := h; ⟨xs, h1.setFar ha u, h2⟩
theorem lt (h : OwnN F w B v l) : ∀ g, v.ownBlock = some g → B ≤ g ∧ g < w.heap.size := let ⟨_, h1, _⟩ := h; h1.1.lt
theorem freeze (h : OwnN F w B v l) (hF : Sat F w) (w0 : World) (hB : w0.heap.size ≤ B) : ∃ F' A c, v = .slice A l.length c ∧ l.length ≤ c ∧ NodesF F' A l.length l ∧ Sat F' w ∧ Fle w0 F F' ∧ ∀ b, v.ownBlock ≠ some b → F' b = F b := by
  obtain ⟨xs, h1, h2⟩ := h
  obtain ⟨F', A, c, e, hc, hr, hs, hle, hb⟩ := h1.freeze hF w0 hB
  exact ⟨F', A, c, e, hc, (h2.cle hle.cle).toF hr, hs, hle, hb⟩
end OwnN
/-- What a function that gives a list of nodes leaves. -/
def RetN (F : Fz) (w : World) (l : List Nd) (e : Ending) (w' : World) : Prop := ∃ A c F', e = .returned (.slice A l.length c) ∧ l.length ≤ c ∧ NodesF F' A l.length l ∧ Below w.heap.size w w' ∧ Sat F' w' ∧ Fle w F F'
theorem node_info : (Try.prog.info? 48).map (fun i => (i.zero, i.size, i.bytes)) = some (some (.agg #[.int .i64 0, .string ⟨#[]⟩, .int .i64 0, .int .i64 0, .slice none 0 0]), 5, 64) := by kernel_rfl
end Go.Proofs.Ytaomehlhopiblaa
