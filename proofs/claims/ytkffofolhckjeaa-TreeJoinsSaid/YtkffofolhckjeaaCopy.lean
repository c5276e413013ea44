/- Rows of nodes whose kids lie in blocks of their own, one above the other; fields that are stored anew. -/
import Derived.Test.YtkffofolhckjeaaNodes2
import Derived.Test.YtkffofolhckjeaaOver
set_option linter.unusedVariables false
set_option linter.unusedSimpArgs false
/-! Rows of nodes whose kids lie in blocks of their own, one above the other; fields that are stored anew. -/
namespace Go.Proofs.Ytkffofolhckjeaa
open Go.RowKit
/-- The kids of a node in a block of their own, or none at all. -/
def KidsO (F : Fz) (lo hi : Nat) (A : Option Addr) (ks : List Int) : Prop := ks = [] ∨ ∃ g cs, A = some ⟨g, 0, none⟩ ∧ lo ≤ g ∧ g < hi ∧ F g = some (.cells cs 3 (0, 0)) ∧ ∀ (j : Nat) (z : Int), ks[j]? = some z → cs[j]? = some (.int .i64 z)
theorem rd_block {F : Fz} {g : Nat} {cs : Array Value} {t : TypeId} {ks : List Int} (hF : F g = some (.cells cs t (0, 0))) (hr : ∀ (j : Nat) (z : Int), ks[j]? = some z → cs[j]? = some (.int .i64 z)) : Rd F 1 (some ⟨g, 0, none⟩) ks.length (ks.map (Value.int .i64)) := by
  refine ⟨by simp, fun _ => ⟨_, rfl, fun j u hu => ?_⟩⟩
  rw [add_lit0]
  unfold Fz.cell
  rw [hF]
  rw [List.getElem?_map] at hu
  cases hz : ks[j]? with
  | none => rw [hz] at hu; cases hu
  | some z =>
    rw [hz] at hu
    injection hu with hu
    subst hu
    simpa using hr j z hz
namespace KidsO
variable {F F' : Fz} {lo hi : Nat} {A : Option Addr} {ks : List Int}
theorem rd (h : KidsO F lo hi A ks) : Rd F 1 A ks.length (ks.map (Value.int .i64)) := by
  rcases h with rfl | ⟨g, cs, rfl, _, _, h3, h4⟩
  · exact Rd.nil
  · exact rd_block h3 h4
theorem agree (h : KidsO F lo hi A ks) (ha : ∀ b, lo ≤ b → b < hi → F' b = F b) : KidsO F' lo hi A ks := by
  rcases h with rfl | ⟨g, cs, rfl, h1, h2, h3, h4⟩
  · exact .inl rfl
  · exact .inr ⟨g, cs, rfl, h1, h2, (ha g h1 h2).trans h3, h4⟩
theorem le (h : KidsO F lo hi A ks) (ha : ∀ b o, F b = some o → F' b = some o) : KidsO F' lo hi A ks := by
  rcases h with rfl | ⟨g, cs, rfl, h1, h2, h3, h4⟩
  · exact .inl rfl
  · exact .inr ⟨g, cs, rfl, h1, h2, ha _ _ h3, h4⟩
theorem up (h : KidsO F lo hi A ks) {hi' : Nat} (hh : hi ≤ hi') : KidsO F lo hi' A ks := by
  rcases h with rfl | ⟨g, cs, rfl, h1, h2, h3, h4⟩
  · exact .inl rfl
  · exact .inr ⟨g, cs, rfl, h1, by omega, h3, h4⟩
end KidsO
inductive NodesK (F : Fz) (lo : Nat) : Nat → List Nd → List Value → Prop
  | nil (hi : Nat) (h : lo ≤ hi) : NodesK F lo hi [] []
  | snoc (mid hi : Nat) (l : List Nd) (xs : List Value) (h : NodesK F lo mid l xs) (n : Nd) (A : Option Addr) (c : Nat) (hc : n.kids.length ≤ c) (hm : mid ≤ hi) (hk : KidsO F mid hi A n.kids) : NodesK F lo hi (l ++ [n]) (xs ++ ndVals n A c)
theorem ndVals_kids (n : Nd) (ks : List Int) (h : ks.length = n.kids.length) (A : Option Addr) (c : Nat) : ndVals { n with kids := ks } A c = ndVals n A c := by
  simp [ndVals, h]
namespace NodesK
variable {F F' : Fz} {lo hi : Nat} {l : List Nd} {xs : List Value}
theorem le_ (h : NodesK F lo hi l xs) : lo ≤ hi := by
  induction h with
  | nil hi h => exact h
  | snoc mid hi l xs _ n A c _ hm _ ih => omega
theorem v (h : NodesK F lo hi l xs) : NodesV F l xs := by
  induction h with
  | nil hi h => exact .nil
  | snoc mid hi l xs _ n A c hc _ hk ih => exact ih.snoc hc hk.rd
theorem agree (h : NodesK F lo hi l xs) (ha : ∀ b, lo ≤ b → b < hi → F' b = F b) : NodesK F' lo hi l xs := by
  induction h with
  | nil hi h => exact .nil hi h
  | snoc mid hi l xs h n A c hc hm hk ih => exact .snoc mid hi l xs (ih fun b h1 h2 => ha b h1 (by omega)) n A c hc hm (hk.agree fun b h1 h2 => ha b (by have := h.le_; omega) h2)
theorem le (h : NodesK F lo hi l xs) (ha : ∀ b o, F b = some o → F' b = some o) : NodesK F' lo hi l xs := by
  induction h with
  | nil hi h => exact .nil hi h
  | snoc mid hi l xs h n A c hc hm hk ih => exact .snoc mid hi l xs ih n A c hc hm (hk.le ha)
theorem up (h : NodesK F lo hi l xs) {hi' : Nat} (hh : hi ≤ hi') : NodesK F lo hi' l xs := by
  cases h with
  | nil _ h => exact .nil hi' (by omega)
  | snoc mid _ l xs h n A c hc hm hk => exact .snoc mid hi' l xs h n A c hc (by omega) (hk.up hh)
/-- The first kid of a node is stored anew. -/
theorem store (h : NodesK F lo hi l xs) : ∀ (i : Nat) (hi' : i < l.length), l[i].kids ≠ [] → ∃ g cs c, xs[i * 5 + 4]? = some (.slice (some ⟨g, 0, none⟩) l[i].kids.length c) ∧ l[i].kids.length ≤ c ∧ lo ≤ g ∧ g < hi ∧ F g = some (.cells cs 3 (0, 0)) ∧ (∀ (j : Nat) (z : Int), l[i].kids[j]? = some z → cs[j]? = some (.int .i64 z)) ∧
    ∀ z : Int, NodesV (F.put g (.cells (cs.setIfInBounds 0 (.int .i64 z)) 3 (0, 0))) (l.set i { l[i] with kids := l[i].kids.set 0 z }) xs := by
  induction h with
  | nil hi h => intro i hi'; exact absurd hi' (by simp)
  | snoc mid hi l xs h n A c hc hm hk ih =>
    intro i hi' hne
    have hlen := h.v.len
    have hlo := h.le_
    by_cases hil : i < l.length
    · have e : (l ++ [n])[i] = l[i] := List.getElem_append_left hil
      rw [e] at hne
      obtain ⟨g, cs, c', h1, h2, h3, h4, h5, h6, h7⟩ := ih i hil hne
      simp only [e]
      refine ⟨g, cs, c', ?_, h2, h3, by omega, h5, h6, fun z => ?_⟩
      · rw [List.getElem?_append_left (by omega)]; exact h1
      · rw [List.set_append_left _ _ hil]
        refine (h7 z).snoc hc (hk.agree fun b hb1 hb2 => ?_).rd
        unfold Fz.put
        rw [if_neg (by omega)]
    · obtain rfl : i = l.length := by simp at hi'; omega
      have e : (l ++ [n])[l.length] = n := by simp
      rw [e] at hne
      rcases hk with hk | ⟨g, cs, rfl, h1, h2, h3, h4⟩
      · exact absurd hk hne
      simp only [e]
      refine ⟨g, cs, c, ?_, hc, by omega, h2, h3, h4, fun z => ?_⟩
      · rw [List.getElem?_append_right (by omega), show l.length * 5 + 4 - xs.length = 4 by omega]; rfl
      · have e2 : (l ++ [n]).set l.length { n with kids := n.kids.set 0 z } = l ++ [{ n with kids := n.kids.set 0 z }] := by
          rw [List.set_append_right _ _ (Nat.le_refl _)]; simp
        rw [e2, ← ndVals_kids n (n.kids.set 0 z) (by simp) (some ⟨g, 0, none⟩) c]
        have hp : NodesV (F.put g (.cells (cs.setIfInBounds 0 (.int .i64 z)) 3 (0, 0))) l xs := (h.agree fun b hb1 hb2 => by
          unfold Fz.put
          rw [if_neg (by omega)]).v
        refine hp.snoc (by simpa using hc) (rd_block (by unfold Fz.put; rw [if_pos rfl]) fun j y hj => ?_)
        have hpos : 0 < cs.size := by
          obtain ⟨k, ks, hks⟩ := List.exists_cons_of_ne_nil hne
          have := h4 0 k (by rw [hks]; rfl)
          exact (Array.getElem?_eq_some_iff.1 this).1
        rw [List.getElem?_set] at hj
        by_cases hj0 : 0 = j
        · subst hj0
          rw [if_pos rfl] at hj
          split at hj
          · injection hj with hj
            subst hj
            simp [hpos]
          · cases hj
        · rw [if_neg hj0] at hj
          rw [Array.getElem?_setIfInBounds_ne (by omega)]
          exact h4 j y hj
end NodesK
theorem NodesV.set_kind {F : Fz} {l : List Nd} {xs : List Value} (h : NodesV F l xs) (x : Int) : ∀ (i : Nat) (hi : i < l.length), NodesV F (l.set i { l[i] with kind := x }) (xs.set (i * 5 + 0) (.int .i64 x)) := by
  induction h with
  | nil => intro i hi; exact absurd hi (by simp)
  | cons n l A c xs hc hr h ih =>
    intro i hi
    cases i with
    | zero => exact .cons { n with kind := x } l A c xs hc hr h
    | succ i =>
      have e : (ndVals n A c ++ xs).set ((i + 1) * 5 + 0) (.int .i64 x) = ndVals n A c ++ xs.set (i * 5 + 0) (.int .i64 x) := by
        rw [List.set_append_right _ _ (by simp [ndVals]; omega)]
        congr 2
        simp [ndVals]
        omega
      rw [e]
      exact .cons n _ A c _ hc hr (ih i (by simpa using hi))
theorem NodesV.set_name {F : Fz} {l : List Nd} {xs : List Value} (h : NodesV F l xs) (x : ByteArray) : ∀ (i : Nat) (hi : i < l.length), NodesV F (l.set i { l[i] with name := x }) (xs.set (i * 5 + 1) (.string x)) := by
  induction h with
  | nil => intro i hi; exact absurd hi (by simp)
  | cons n l A c xs hc hr h ih =>
    intro i hi
    cases i with
    | zero => exact .cons { n with name := x } l A c xs hc hr h
    | succ i =>
      have e : (ndVals n A c ++ xs).set ((i + 1) * 5 + 1) (.string x) = ndVals n A c ++ xs.set (i * 5 + 1) (.string x) := by
        rw [List.set_append_right _ _ (by simp [ndVals]; omega)]
        congr 2
        simp [ndVals]
        omega
      rw [e]
      exact .cons n _ A c _ hc hr (ih i (by simpa using hi))
theorem NodesV.set_lo {F : Fz} {l : List Nd} {xs : List Value} (h : NodesV F l xs) (x : Int) : ∀ (i : Nat) (hi : i < l.length), NodesV F (l.set i { l[i] with lo := x }) (xs.set (i * 5 + 2) (.int .i64 x)) := by
  induction h with
  | nil => intro i hi; exact absurd hi (by simp)
  | cons n l A c xs hc hr h ih =>
    intro i hi
    cases i with
    | zero => exact .cons { n with lo := x } l A c xs hc hr h
    | succ i =>
      have e : (ndVals n A c ++ xs).set ((i + 1) * 5 + 2) (.int .i64 x) = ndVals n A c ++ xs.set (i * 5 + 2) (.int .i64 x) := by
        rw [List.set_append_right _ _ (by simp [ndVals]; omega)]
        congr 2
        simp [ndVals]
        omega
      rw [e]
      exact .cons n _ A c _ hc hr (ih i (by simpa using hi))
theorem NodesV.set_hi {F : Fz} {l : List Nd} {xs : List Value} (h : NodesV F l xs) (x : Int) : ∀ (i : Nat) (hi : i < l.length), NodesV F (l.set i { l[i] with hi := x }) (xs.set (i * 5 + 3) (.int .i64 x)) := by
  induction h with
  | nil => intro i hi; exact absurd hi (by simp)
  | cons n l A c xs hc hr h ih =>
    intro i hi
    cases i with
    | zero => exact .cons { n with hi := x } l A c xs hc hr h
    | succ i =>
      have e : (ndVals n A c ++ xs).set ((i + 1) * 5 + 3) (.int .i64 x) = ndVals n A c ++ xs.set (i * 5 + 3) (.int .i64 x) := by
        rw [List.set_append_right _ _ (by simp [ndVals]; omega)]
        congr 2
        simp [ndVals]
        omega
      rw [e]
      exact .cons n _ A c _ hc hr (ih i (by simpa using hi))
theorem NodesV.set_kids {F : Fz} {l : List Nd} {xs : List Value} (h : NodesV F l xs) (ks : List Int) (A' : Option Addr) (c' : Nat) (hc' : ks.length ≤ c') (hr' : Rd F 1 A' ks.length (ks.map (Value.int .i64))) : ∀ (i : Nat) (hi : i < l.length), NodesV F (l.set i { l[i] with kids := ks }) (xs.set (i * 5 + 4) (.slice A' ks.length c')) := by
  induction h with
  | nil => intro i hi; exact absurd hi (by simp)
  | cons n l A c xs hc hr h ih =>
    intro i hi
    cases i with
    | zero => exact .cons { n with kids := ks } l A' c' xs hc' hr' h
    | succ i =>
      have e : (ndVals n A c ++ xs).set ((i + 1) * 5 + 4) (.slice A' ks.length c') = ndVals n A c ++ xs.set (i * 5 + 4) (.slice A' ks.length c') := by
        rw [List.set_append_right _ _ (by simp [ndVals]; omega)]
        congr 2
        simp [ndVals]
        omega
      rw [e]
      exact .cons n _ A c _ hc hr (ih i (by simpa using hi))
/-- A row of ints of the call's own, as a node's kids. -/
theorem Own.kidsO {F : Fz} {w : World} {B : Nat} {v : Value} {ks : List Int} (h : Own F w B 3 1 v ks.length (ks.map (Value.int .i64))) (hF : Sat F w) (w0 : World) (hB : w0.heap.size ≤ B) :
    ∃ F' A c, v = .slice A ks.length c ∧ ks.length ≤ c ∧ KidsO F' B w.heap.size A ks ∧ Sat F' w ∧ Fle w0 F F' ∧ ∀ b, b < B → F' b = F b := by
  rcases h.blk with ⟨rfl, h1, _⟩ | ⟨g, cap, rfl, hc, hg, hFg, cs, hb, hr⟩
  · have h0 := List.eq_nil_of_length_eq_zero h1
    subst h0
    exact ⟨F, none, 0, rfl, Nat.le_refl _, .inl rfl, hF, Fle.refl _ _, fun _ _ => rfl⟩
  · refine ⟨F.put g (.cells cs 3 (0, 0)), _, cap, rfl, hc, .inr ⟨g, cs, rfl, hg, hb.lt, by unfold Fz.put; rw [if_pos rfl], fun j z hj => hr j _ (by rw [List.getElem?_map, hj]; rfl)⟩, hF.put hb, Fle.put _ hFg (by omega), fun b hb' => ?_⟩
    unfold Fz.put
    rw [if_neg (by omega)]
theorem KidsO.wide {F : Fz} {lo hi lo' hi' : Nat} {A : Option Addr} {ks : List Int} (h : KidsO F lo hi A ks) (h1 : lo' ≤ lo) (h2 : hi ≤ hi') : KidsO F lo' hi' A ks := by
  rcases h with rfl | ⟨g, cs, rfl, g1, g2, h3, h4⟩
  · exact .inl rfl
  · exact .inr ⟨g, cs, rfl, by omega, by omega, h3, h4⟩
end Go.Proofs.Ytkffofolhckjeaa
/-! The walk of Copy: a list of its own, each node's kids in a block of their own. -/
namespace Go.Proofs.Ytkffofolhckjeaa
open Go.RowKit
set_option maxRecDepth 100000 in
set_option maxHeartbeats 4000000 in
theorem copy_w {F : Fz} {w : World} (hF : Sat F w) (l : List Nd) (hn : l.length ≤ 1000) (hkids : ∀ x ∈ l, x.kids.length ≤ 1000) (A : Option Addr) (n c : Nat) (hl : NodesF F A n l) :
    Calls Try.prog 42 #[.slice A n c] w fun e w' => ∃ v F' xs, e = .returned v ∧ Own F' w' w.heap.size 57 5 v n xs ∧ NodesK F' w.heap.size w'.heap.size l xs ∧ Below w.heap.size w w' ∧ Sat F' w' ∧ Fle w F F' := by
  obtain ⟨hlb, hb2⟩ := hl
  rw [hlb] at hn
  have HLB := Lib.hid hlb
  have HKD := Lib.hid hkids
  clear hlb hkids
  go_enter Try.func42, Try.ntmps42
  go_wp2_with fail
  go_loopw [3, 5, 8] (fun o _ i wr => ∃ (m : Nat) (F' : Fz) (A3 : Option Addr) (c3 : Nat) (xs : List Value), m ≤ n ∧ i = .int .i64 m ∧ o = .slice A3 m c3 ∧ m ≤ c3 ∧ Own F' wr w.heap.size 57 5 (.slice A3 m c3) m xs ∧ NodesK F' w.heap.size wr.heap.size (l.take m) xs ∧ Below w.heap.size w wr ∧ Sat F' wr ∧ Fle w F F') (fun _ _ i _ => n - (intOf i).toNat)
  case atStart => exact ⟨0, F, none, 0, [], Nat.zero_le _, rfl, rfl, Nat.le_refl _, Own.nil _ _ _ _ _, .nil _ (Nat.le_refl _), Below.refl _ _, hF, Fle.refl _ _⟩
  case round =>
    obtain ⟨m, F', A3, c3, xs, hm, rfl, rfl, hc3, hO, hK, hbl, hF', hle⟩ := hrel
    obtain ⟨W, hW⟩ : ∃ W, W = wr := ⟨_, rfl⟩
    subst hW
    have hgr := fun g (h : (Value.slice A3 m c3).ownBlock = some g) => hO.1.lt g h
    have hWz := hbl.size
    by_cases hlt : m < n
    · have hml : m < l.length := by rw [HLB.out]; exact hlt
      obtain ⟨ad, rfl, hL⟩ := hb2 (by omega)
      obtain ⟨Akk, ckk, hck, hKr, hd⟩ := hL m hml
      obtain ⟨c0, c1, c2, c3', c4⟩ := hd.sat (hF.below hbl)
      have hltI : (m : Int) < (n : Int) := by omega
      have htk : l.take (m + 1) = l.take m ++ [l[m]] := List.take_succ_eq_append_getElem hml
      have hkl := HKD.out _ (List.getElem_mem hml)
      generalize hnd : l[m] = nd at *
      have HTK := Lib.hid htk
      have HK := Lib.hid hK
      clear hnd htk hd hL hK
      have hNB := Blk.new W 57 #[.int .i64 nd.kind, .string nd.name, .int .i64 nd.lo, .int .i64 nd.hi, .slice Akk nd.kids.length ckk]
      have hFn : F' W.heap.size = none := hF'.none_ (Nat.le_refl _)
      go_wp2_with (first | (at_builtin; refine wpList_allI rfl (.tmp 12) (.tmp 14) rfl (xs := []) (B := W.heap.size + 1) (Own.empty F' (W.alloc (.cells #[.int .i64 nd.kind, .string nd.name, .int .i64 nd.lo, .int .i64 nd.hi, .slice Akk nd.kids.length ckk] 57)) (W.heap.size + 1) _ 1 (hF'.alloc _) rfl (by simp)) ((hF'.alloc _).alloc _) (by simp <;> rfl) Akk nd.kids.length ckk nd.kids (by rfl) (((hF.below hbl).alloc _).alloc _) hKr (by omega) (by simp) ?_; intro v1 w1 hO1 hF1 hb1 hg1 hat1; rw [List.nil_append, Nat.zero_add] at hO1; obtain ⟨F2, A2, c2', rfl, hc2, hKO, hF2, hle2, hFb⟩ := hO1.kidsO hF1 W (by omega); have hNB1 := (hNB.alloc (.cells #[] 3)).below hb1 (by simp); obtain ⟨f0, f1, f2, f3, f4⟩ := ndBlk' hNB1; have fz := hNB1.frozen 4; have hz1 : W.heap.size + 2 ≤ w1.heap.size := (by have := hb1.size; simpa using this); have hFn2 : F2 W.heap.size = none := (hFb _ (by omega)).trans hFn; have hOa := ((((hO.alloc (.cells #[.int .i64 nd.kind, .string nd.name, .int .i64 nd.lo, .int .i64 nd.hi, .slice Akk nd.kids.length ckk] 57)).alloc (.cells #[] 3)).below2 hb1 (fun g h => by have := hgr g h; omega)).le2 (fun g h => hFb g (by have := hgr g h; omega))).setFar (a := ⟨W.heap.size, 4, none⟩) (fun e => by have := hgr _ e; simp at this) (.slice A2 nd.kids.length c2'); have hF4 := hF2.setCell (p := ⟨W.heap.size, 4, none⟩) hFn2 (.slice A2 nd.kids.length c2'); have hBN := newNd nd nd A2 c2' rfl rfl (w1.setCell ⟨W.heap.size, 4, none⟩ (.slice A2 nd.kids.length c2')); rw [size_setCell] at hBN; have HBN := Lib.hid hBN; clear hBN) | (at_builtin; refine wpList_push rfl (.tmp 17) (.tmp 19) _ rfl 57 _ 5 64 Try.underlying47 node_info rfl (by omega) (hOa.alloc _) (hF4.alloc _) (by rfl) w1.heap.size 1 (ndVals nd A2 c2').toArray (by rfl) HBN.out rfl (by intro u hu; exact (NodesV.one hc2 hKO.rd).ones u (by simpa using hu)) (by simp [maxLen]; omega) (by omega) (by simp; omega) ?_; intro v2 w2 hO2 hFF hb2 hg2 hat2; obtain ⟨A', cp', rfl, hcp'⟩ := hO2.shape))
      go_roundw
      case rel =>
        have hb3 : Below w.heap.size w w1 := hbl.trans ((((balloc _ _).trans ((balloc _ _).mono (by simp))).trans (hb1.mono (by omega))).mono hWz)
        have hz2 := hb2.size
        simp at hz2
        refine ⟨m + 1, F2, A', cp', xs ++ ndVals nd A2 c2', by omega, by go_num, rfl, hcp', by simpa using hO2, ?_, ((hb3.setCell (Nat.le_trans hWz (Nat.le_refl _)) _).alloc (by rw [size_setCell]; omega) _).trans hb2, hFF, hle.trans hle2 hWz⟩
        rw [HTK.out]
        exact .snoc W.heap.size _ _ xs (HK.out.le hle2.1) nd A2 c2' hc2 (by omega) (hKO.wide (by omega) (by omega))
      case measure => simp [intOf]; omega
    · obtain rfl : m = n := by omega
      have hdec : decide ((m : Int) < (m : Int)) = false := decide_eq_false (by omega)
      have htl : l.take m = l := by rw [← HLB.out, List.take_length]
      rw [htl] at hK
      clear htl
      go_wp2_with fail
      go_ret
      exact ⟨_, F', xs, rfl, hO, hK, hbl, hF', hle⟩
end Go.Proofs.Ytkffofolhckjeaa
