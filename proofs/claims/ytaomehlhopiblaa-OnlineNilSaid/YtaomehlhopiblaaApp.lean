/- The walks of tree.May, Form, Reg, Plain. -/
import Derived.Test.YtaomehlhopiblaaSizes
import Derived.Test.YtaomehlhopiblaaMem
set_option linter.unusedVariables false
set_option linter.unusedSimpArgs false
namespace Go.Proofs.Ytaomehlhopiblaa
open Go.RowKit

def mayS (l : List Nd) : Bool := (treeS l).isSome
def formL (l : List Nd) : Bool := match treeS l with | some t => !regS t.root.kind | none => false
def regL (l : List Nd) : Bool := match treeS l with | some t => regS t.root.kind | none => false
def sugarS (k : Int) : Bool := decide (k = 7) || decide (8 ≤ k ∧ k ≤ 15)
def plainS (l : List Nd) : Bool := mayS l && !(l.any fun n => sugarS n.kind)
def id_ (b : Bool) : Bool := b
theorem tree_len {l : List Nd} {t : Tr} (h : treeS l = some t) : l.length = t.size := by
  rw [tree_flat h, Tr.length_flat]
theorem tree_last {l : List Nd} {t : Tr} (h : treeS l = some t) : ∃ h : l.length - 1 < l.length, l[l.length - 1].kind = t.root.kind := by
  have hl := tree_len h
  have hp := t.size_pos
  obtain ⟨k, hk⟩ := Tr.last_flat t 0
  rw [← tree_flat h, ← hl] at hk
  have hlt : l.length - 1 < l.length := by omega
  refine ⟨hlt, ?_⟩
  rw [List.getElem?_eq_getElem hlt] at hk
  injection hk with hk
  rw [hk]
theorem may_w {F : Fz} {w : World} (hF : Sat F w) (l : List Nd) (hn : l.length ≤ 1000) (A : Option Addr) (n c : Nat) (hl : NodesF F A n l) (b : Bool) (hb : mayS l = b) :
    Calls Try.prog 49 #[.slice A n c] w fun e w' => e = .returned (.bool b) ∧ Below w.heap.size w w' := by
  have HS := Lib.hid (sizes_w hF l hn A n c hl)
  have HB := Lib.hid hb
  clear hb
  go_enter Try.func49, Try.ntmps49
  go_wp2_with (go_at_call 53; refine HS.out.mono ?_; rintro e w' ⟨hw, (⟨ht, rfl⟩ | ⟨t, g, cap, ht, rfl, hB⟩)⟩)
  · go_ret
    exact ⟨by rw [← HB.out, mayS, ht] <;> rfl, hw⟩
  · go_ret
    exact ⟨by rw [← HB.out, mayS, ht] <;> rfl, hw⟩
theorem form_w {F : Fz} {w : World} (hF : Sat F w) (l : List Nd) (hn : l.length ≤ 1000) (A : Option Addr) (n c : Nat) (hl : NodesF F A n l) (b : Bool) (hb : formL l = b) :
    Calls Try.prog 32 #[.slice A n c] w fun e w' => e = .returned (.bool b) ∧ Below w.heap.size w w' := by
  have HL := Lib.hid hl
  obtain ⟨rfl, hl2⟩ := hl
  cases ht : treeS l with
  | none =>
    have HS := Lib.hid (may_w hF l hn A _ c HL.out false (by unfold mayS; rw [ht]; rfl))
    have HB : Hid (b = false) := Lib.hid (by rw [← hb, formL, ht])
    clear hb ht hl2
    go_enter Try.func32, Try.ntmps32
    go_wp2_with (go_at_call 49; refine HS.out.mono ?_; rintro e w' ⟨rfl, hw⟩)
    go_ret
    exact ⟨by rw [HB.out] <;> rfl, hw⟩
  | some t =>
    have HS := Lib.hid (may_w hF l hn A _ c HL.out true (by unfold mayS; rw [ht]; rfl))
    obtain ⟨hlt, hk⟩ := tree_last ht
    obtain ⟨ad, rfl, hL⟩ := hl2 (by omega)
    obtain ⟨Ak, ck, _, _, hd⟩ := hL _ hlt
    have hsub : ((l.length : Int) - 1) = ((l.length - 1 : Nat) : Int) := by omega
    have hsubI : (l.length : Int) - 1 < (l.length : Int) := by omega
    have hsub0 : (0 : Int) ≤ (l.length : Int) - 1 := by omega
    have hN : ((l.length : Int) - 1).toNat = l.length - 1 := by omega
    have hd0 := hd.1
    rw [hk] at hd0
    have hR := Lib.hid (reg_w t.root.kind)
    have HB : Hid (b = (! (regS t.root.kind))) := Lib.hid (by rw [← hb, formL, ht] <;> rfl)
    generalize t.root.kind = kd at *
    clear hb ht hl2 hL hd hk
    go_enter Try.func32, Try.ntmps32
    go_wp2_with (first | (go_at_call 49; refine HS.out.mono ?_; rintro e w' ⟨rfl, hw⟩; have c0 := (hF.below hw).cell hd0) | (go_at_call 50; refine (hR.out _).mono ?_; rintro e w'' ⟨rfl, rfl⟩))
    go_ret
    exact ⟨by rw [HB.out] <;> rfl, hw⟩
theorem treg_w {F : Fz} {w : World} (hF : Sat F w) (l : List Nd) (hn : l.length ≤ 1000) (A : Option Addr) (n c : Nat) (hl : NodesF F A n l) (b : Bool) (hb : regL l = b) :
    Calls Try.prog 70 #[.slice A n c] w fun e w' => e = .returned (.bool b) ∧ Below w.heap.size w w' := by
  have HL := Lib.hid hl
  obtain ⟨rfl, hl2⟩ := hl
  cases ht : treeS l with
  | none =>
    have HS := Lib.hid (may_w hF l hn A _ c HL.out false (by unfold mayS; rw [ht]; rfl))
    have HB : Hid (b = false) := Lib.hid (by rw [← hb, regL, ht])
    clear hb ht hl2
    go_enter Try.func70, Try.ntmps70
    go_wp2_with (go_at_call 49; refine HS.out.mono ?_; rintro e w' ⟨rfl, hw⟩)
    go_ret
    exact ⟨by rw [HB.out] <;> rfl, hw⟩
  | some t =>
    have HS := Lib.hid (may_w hF l hn A _ c HL.out true (by unfold mayS; rw [ht]; rfl))
    obtain ⟨hlt, hk⟩ := tree_last ht
    obtain ⟨ad, rfl, hL⟩ := hl2 (by omega)
    obtain ⟨Ak, ck, _, _, hd⟩ := hL _ hlt
    have hsub : ((l.length : Int) - 1) = ((l.length - 1 : Nat) : Int) := by omega
    have hsubI : (l.length : Int) - 1 < (l.length : Int) := by omega
    have hsub0 : (0 : Int) ≤ (l.length : Int) - 1 := by omega
    have hN : ((l.length : Int) - 1).toNat = l.length - 1 := by omega
    have hd0 := hd.1
    rw [hk] at hd0
    have hR := Lib.hid (reg_w t.root.kind)
    have HB : Hid (b = (id_ (regS t.root.kind))) := Lib.hid (by rw [← hb, regL, ht] <;> rfl)
    generalize t.root.kind = kd at *
    clear hb ht hl2 hL hd hk
    go_enter Try.func70, Try.ntmps70
    go_wp2_with (first | (go_at_call 49; refine HS.out.mono ?_; rintro e w' ⟨rfl, hw⟩; have c0 := (hF.below hw).cell hd0) | (go_at_call 50; refine (hR.out _).mono ?_; rintro e w'' ⟨rfl, rfl⟩))
    go_ret
    exact ⟨by rw [HB.out] <;> rfl, hw⟩
theorem sugar_w (n : Nd) (A : Option Addr) (c : Nat) (w : World) :
    Calls Try.prog 52 #[.agg #[.int .i64 n.kind, .string n.name, .int .i64 n.lo, .int .i64 n.hi, .slice A n.kids.length c]] w fun e w' => e = .returned (.bool (sugarS n.kind)) ∧ Below w.heap.size w w' := by
  obtain ⟨kind, name, lo, hi, kids⟩ := n
  dsimp only
  by_cases h7 : kind = 7
  · have e7 : (kind == 7) = true := by rw [h7]; rfl
    have H : Hid (sugarS kind = true) := Lib.hid (by unfold sugarS; simp [h7])
    clear h7
    go_enter Try.func52, Try.ntmps52
    go_wp2_with fail
    go_ret
    exact ⟨by rw [H.out] <;> rfl, balloc _ _⟩
  · have e7 : (kind == 7) = false := by rw [beq_eq_false_iff_ne]; exact h7
    by_cases h8 : 8 ≤ kind
    · have H : Hid (sugarS kind = decide (kind ≤ 15)) := Lib.hid (by unfold sugarS; simp [h7, h8])
      clear h7
      go_enter Try.func52, Try.ntmps52
      go_wp2_with fail
      go_ret
      exact ⟨by rw [H.out] <;> rfl, balloc _ _⟩
    · have H : Hid (sugarS kind = false) := Lib.hid (by unfold sugarS; simp [h7, h8])
      have h8' : decide (8 ≤ kind) = false := decide_eq_false h8
      clear h7 h8
      go_enter Try.func52, Try.ntmps52
      go_wp2_with fail
      go_ret
      exact ⟨by rw [H.out] <;> rfl, balloc _ _⟩
theorem indexFunc_w {F : Fz} {w : World} (hF : Sat F w) (l : List Nd) (hn : l.length ≤ 1000) (A : Option Addr) (n c : Nat) (hl : NodesF F A n l) :
    Calls Try.prog 65 #[.slice A n c, .func (.func 52) #[] #[]] w fun e w' => (∃ i : Int, e = .returned (.int .i64 i) ∧ decide (0 ≤ i) = l.any fun n => sugarS n.kind) ∧ Below w.heap.size w w' := by
  obtain ⟨rfl, hl⟩ := hl
  go_enter Try.func65, Try.ntmps65
  go_wp2_with fail
  go_loopw [5, 8] (fun _ i wr => ∃ k : Nat, k ≤ l.length ∧ i = .int .i64 k ∧ Hid ((l.take k).any (fun n => sugarS n.kind) = false) ∧ Below w.heap.size w wr) (fun _ i _ => l.length - (intOf i).toNat)
  case atStart => exact ⟨0, Nat.zero_le _, rfl, Lib.hid (by simp), Below.refl _ _⟩
  case round =>
    obtain ⟨k, hk, rfl, hr, hb⟩ := hrel
    by_cases hlt : k < l.length
    · obtain ⟨ad, rfl, hL⟩ := hl (by omega)
      obtain ⟨Ak, ck, _, _, hd⟩ := hL k hlt
      obtain ⟨c0, c1, c2, c3, c4⟩ := hd.sat (hF.below hb)
      have hltI : (k : Int) < (l.length : Int) := by omega
      have hS := sugar_w l[k] Ak ck
      have hany : (l.take (k + 1)).any (fun n => sugarS n.kind) = sugarS l[k].kind := by
        rw [List.take_succ_eq_append_getElem hlt, List.any_append, hr.out]
        simp
      cases hs : sugarS l[k].kind
      · rw [hs] at hS hany
        have HA := Lib.hid hany
        have HS := Lib.hid hS
        clear hS hany hs hd
        go_wp2_with (go_at_call 52; refine (HS.out _).mono ?_; rintro e w1 ⟨rfl, hw1⟩)
        go_roundw
        case rel => exact ⟨k + 1, by omega, by go_num, HA, bthen hb hw1⟩
        case measure => simp [intOf]; omega
      · rw [hs] at hS
        have HA : Hid (l.any (fun n => sugarS n.kind) = true) := Lib.hid (List.any_eq_true.2 ⟨_, List.getElem_mem hlt, hs⟩)
        have HS := Lib.hid hS
        clear hS hany hs hd
        go_wp2_with (go_at_call 52; refine (HS.out _).mono ?_; rintro e w1 ⟨rfl, hw1⟩)
        go_ret
        exact ⟨⟨(k : Int), rfl, by rw [HA.out]; simp⟩, bthen hb hw1⟩
    · have HA : Hid (l.any (fun n => sugarS n.kind) = false) := Lib.hid (by have := hr.out; rwa [List.take_of_length_le (by omega)] at this)
      have hltI : decide ((k : Int) < (l.length : Int)) = false := decide_eq_false (by omega)
      go_wp2_with fail
      go_ret
      exact ⟨⟨-1, rfl, by rw [HA.out] <;> rfl⟩, hb⟩
theorem containsFunc_w {F : Fz} {w : World} (hF : Sat F w) (l : List Nd) (hn : l.length ≤ 1000) (A : Option Addr) (n c : Nat) (hl : NodesF F A n l) :
    Calls Try.prog 51 #[.slice A n c, .func (.func 52) #[] #[]] w fun e w' => e = .returned (.bool (l.any fun n => sugarS n.kind)) ∧ Below w.heap.size w w' := by
  have HI := Lib.hid (indexFunc_w hF l hn A n c hl)
  go_enter Try.func51, Try.ntmps51
  go_wp2_with (go_at_call 65; refine HI.out.mono ?_; rintro e w' ⟨⟨i, rfl, hi⟩, hw⟩)
  go_ret
  exact ⟨by rw [← hi] <;> rfl, hw⟩
theorem plain_w {F : Fz} {w : World} (hF : Sat F w) (l : List Nd) (hn : l.length ≤ 1000) (A : Option Addr) (n c : Nat) (hl : NodesF F A n l) (b : Bool) (hb : plainS l = b) :
    Calls Try.prog 33 #[.slice A n c] w fun e w' => e = .returned (.bool b) ∧ Below w.heap.size w w' := by
  cases hm : mayS l
  · have HM := Lib.hid (may_w hF l hn A n c hl _ hm)
    have HB : Hid (b = false) := Lib.hid (by rw [← hb, plainS, hm]; rfl)
    clear hb hm
    go_enter Try.func33, Try.ntmps33
    go_wp2_with (go_at_call 49; refine HM.out.mono ?_; rintro e w' ⟨rfl, hw⟩)
    go_ret
    exact ⟨by rw [HB.out] <;> rfl, hw⟩
  · have HM := Lib.hid (may_w hF l hn A n c hl _ hm)
    have HB : Hid (b = !(l.any fun n => sugarS n.kind)) := Lib.hid (by rw [← hb, plainS, hm]; rfl)
    have HC := Lib.hid (fun (w' : World) (h : Sat F w') => containsFunc_w h l hn A n c hl)
    clear hb hm
    go_enter Try.func33, Try.ntmps33
    go_wp2_with (first | (go_at_call 49; refine HM.out.mono ?_; rintro e w' ⟨rfl, hw⟩) | (go_at_call 51; refine (HC.out _ (hF.below hw)).mono ?_; rintro e w'' ⟨rfl, hw2⟩))
    go_ret
    exact ⟨by rw [HB.out] <;> rfl, bthen hw hw2⟩
end Go.Proofs.Ytaomehlhopiblaa
/-! append of a whole slice onto a row of the call's own: the source nil, empty or not. Plain lemmas. -/
namespace Go.Proofs.Ytaomehlhopiblaa
open Go.RowKit
section
variable {P : Program}
theorem run_append_of_nil (w : World) (base : Nat) (t ty e : TypeId) (i : TypeInfo) (size : Nat) (ht : P.underlying t = some (.slice e)) (hi : P.info? e = some i)
    (v : Value) (n : Nat) (xs : List Value) (hown : w.ownsRow base e size v n xs) (c : Nat) : (Builtin.append_ #[t, t] ty #[v, .slice none 0 c]).run P w = .ok v w := by
  rcases hown.2 with ⟨rfl, rfl⟩ | ⟨g, cap, cur, rfl, _, _, hnc, _⟩
  · simp [Builtin.append_, run_underlying ht, sizeOf, typeInfo, hi, Builtin.lenOf, Builtin.firstCells]
  · simp [Builtin.append_, run_underlying ht, sizeOf, typeInfo, hi, Builtin.lenOf, Builtin.firstCells, hnc, storeCells]
/-- append of what a slice reads as, onto a row of the call's own. -/
theorem wpList_pushAll {w : World} {ops : Array Oper} {rest : List Oper} {o : Oper} {a : Act} {Q : Exit → Act → World → Prop} (hgd : o.guard = none) (s x : Operand) (t : TypeId)
    (ho : o.op = .call { callee := .builtin .append, args := #[s, x], argTypes := #[t, t] })
    (e : TypeId) (z : Value) (size bytes : Nat) (ht : P.underlying t = some (.slice e)) (hi : (P.info? e).map (fun i => (i.zero, i.size, i.bytes)) = some (some z, size, bytes)) (hzs : z.cells.size = size) (hsz : 0 < size)
    {F F' : Fz} {B n : Nat} {v : Value} {xs : List Value} (hown : Own F w B e size v n xs) (hF : Sat F w) (hs : a.eval s = v)
    (A : Option Addr) (m c : Nat) (news : List Value) (hx : a.eval x = .slice A m c) (hF' : Sat F' w) (hr : Rd F' size A m news) (h1 : ∀ u ∈ news, u.oneCell' = true)
    (h63 : n + m ≤ maxLen) (hbytes : (n + m) * bytes ≤ 140737488355328) (hB : B ≤ w.heap.size)
    (h : ∀ v' w', Own F w' B e size v' (n + m) (xs ++ news) → Sat F w' → Below B w w' → w.grownBy w' v.ownBlock → (v'.ownBlock = v.ownBlock ∨ v'.ownBlock = some w.heap.size) → wpList P ops Q rest (a.put o.dst v') w') :
    wpList P ops Q (o :: rest) a w := by
  obtain ⟨i, hi, hz0, hz1, hz2⟩ := info_parts hi
  have fin : ∀ v' w', w'.ownsRow B e size v' (n + m) (xs ++ news) → w.grownBy w' v.ownBlock → (v'.ownBlock = v.ownBlock ∨ v'.ownBlock = some w.heap.size) → wpList P ops Q rest (a.put o.dst v') w' := by
    intro v' w' h2 h3 h5
    refine h v' w' ⟨h2, fun g' hg' => ?_⟩ (hF.grown h3 hown.2) ((Below.refl B w).grown h3 hB fun k hk => (hown.1.lt k hk).1) h3 h5
    rcases h5 with h5 | h5
    · exact hown.2 g' (by rw [← h5]; exact hg')
    · rw [hg'] at h5
      injection h5 with h5
      subst h5
      exact hF.none_ (Nat.le_refl _)
  rcases A with _ | ad
  · have hm : m = 0 := by
      rcases Nat.eq_zero_or_pos m with h0 | h0
      · exact h0
      · obtain ⟨ad, h, _⟩ := hr.2 h0
        cases h
    subst hm
    have hn : news = [] := List.eq_nil_of_length_eq_zero (by simpa using hr.1)
    subst hn
    refine wpList_plain hgd fun K hK => ?_
    have hrun := run_append_of_nil (P := P) w B t o.type e i size ht hi v n xs hown.1 c
    unfold Oper.wp execOp
    simp only [ho, resolve, invoke, builtin, Sem.run_bind, Sem.run_pure, Result.andThen_ok, List.map_toArray, List.map_cons, List.map_nil, hs, hx, hrun]
    exact hK _ _ (fin v w (by simpa using hown.1) (World.grownBy.refl w _) (.inl rfl))
  · refine wpList_append_own_at w hgd s x t ho B e i z size bytes ht hi hz0 hz1 hz2 hzs hsz v n xs hs hown.1 ad m c news hx hr.1 (fun j u hu => ?_) h1 h63 hbytes hB fun v' w' h2 h3 _ h5 => fin v' w' h2 h3 h5
    rcases Nat.eq_zero_or_pos m with h0 | h0
    · subst h0
      have hn : news = [] := List.eq_nil_of_length_eq_zero (by simpa using hr.1)
      subst hn
      simp at hu
    · obtain ⟨ad', h', hc⟩ := hr.2 h0
      injection h' with h'
      subst h'
      exact hF'.cell (hc j u hu)
/-- A row that was made empty. -/
theorem Own.empty (F : Fz) (w : World) (B : Nat) (e : TypeId) (size : Nat) {w' : World} (hF : Sat F w) (hw : w' = w.alloc (.cells #[] e)) (hB : B ≤ w.heap.size) : Own F w' B e size (.slice (some ⟨w.heap.size, 0, none⟩) 0 0) 0 [] := by
  subst hw
  refine ⟨⟨by simp, .inr ⟨w.heap.size, 0, #[], rfl, hB, heap_alloc_new w _, Nat.le_refl _, by simp [maxLen], by simp, by simp⟩⟩, fun g hg => ?_⟩
  simp [Value.ownBlock] at hg
  subst hg
  exact hF.none_ (Nat.le_refl _)
/-- A row of the call's own reads as its list. -/
theorem Own.rdH {F : Fz} {w : World} {B : Nat} {e : TypeId} {size n : Nat} {v : Value} {xs : List Value} (h : Own F w B e size v n xs) : ∃ A c, v = .slice A n c ∧ n ≤ c ∧ Rd (heapF w) size A n xs := by
  obtain ⟨⟨hl, h1⟩, _⟩ := h
  rcases h1 with ⟨rfl, rfl⟩ | ⟨g, cap, cur, rfl, hg, hh, hc1, hc2, hc3, hc4⟩
  · obtain rfl : xs = [] := List.eq_nil_of_length_eq_zero (by simpa using hl)
    exact ⟨none, 0, rfl, Nat.le_refl _, Rd.nil⟩
  · refine ⟨_, _, rfl, hc1, hl, fun _ => ⟨_, rfl, fun j u hu => ?_⟩⟩
    rw [add_lit0]
    rw [← hc4, List.getElem?_take] at hu
    unfold Fz.cell heapF
    rw [hh]
    split at hu
    · simpa using hu
    · cases hu
end
end Go.Proofs.Ytaomehlhopiblaa
/-! append onto rows of ints. -/
namespace Go.Proofs.Ytaomehlhopiblaa
open Go.RowKit
abbrev encI (z : Int) : Value := .int .i64 z
theorem ones_i (xs : List Int) : ∀ v ∈ xs.map encI, v.oneCell' = true := by
  intro v hv
  obtain ⟨x, _, rfl⟩ := List.mem_map.1 hv
  rfl
theorem wpList_allI {w : World} {ops : Array Oper} {rest : List Oper} {o : Oper} {a : Act} {Q : Exit → Act → World → Prop} (hgd : o.guard = none) (s x : Operand)
    (ho : o.op = .call { callee := .builtin .append, args := #[s, x], argTypes := #[30, 30] })
    {F F' : Fz} {B n : Nat} {v : Value} {xs : List Int} (hown : Own F w B 3 1 v n (xs.map encI)) (hF : Sat F w) (hs : a.eval s = v)
    (A : Option Addr) (m c : Nat) (ys : List Int) (hx : a.eval x = .slice A m c) (hF' : Sat F' w) (hr : Rd F' 1 A m (ys.map encI)) (hn : n + m ≤ 1000000) (hB : B ≤ w.heap.size)
    (h : ∀ v' w', Own F w' B 3 1 v' (n + m) ((xs ++ ys).map encI) → Sat F w' → Below B w w' → w.grownBy w' v.ownBlock → (v'.ownBlock = v.ownBlock ∨ v'.ownBlock = some w.heap.size) → wpList Try.prog ops Q rest (a.put o.dst v') w') :
    wpList Try.prog ops Q (o :: rest) a w := by
  refine wpList_pushAll hgd s x _ ho 3 (.int .i64 0) 1 8 Try.underlying30 (by kernel_rfl) rfl (by omega) hown hF hs A m c _ hx hF' hr (ones_i ys) (by simp [maxLen]; omega) (by omega) hB ?_
  intro v' w' h1 h2 h3 h4 h5
  exact h v' w' (by rw [List.map_append]; exact h1) h2 h3 h4 h5
theorem wpList_pushI {w : World} {ops : Array Oper} {rest : List Oper} {o : Oper} {a : Act} {Q : Exit → Act → World → Prop} (hgd : o.guard = none) (s x : Operand)
    (ho : o.op = .call { callee := .builtin .append, args := #[s, x], argTypes := #[30, 30] })
    {F : Fz} {B n : Nat} {v : Value} {xs : List Int} (hown : Own F w B 3 1 v n (xs.map encI)) (hF : Sat F w) (hs : a.eval s = v)
    (g c : Nat) (y : Int) (hx : a.eval x = .slice (some ⟨g, 0, none⟩) 1 c) (hg : Blk w g 3 #[.int .i64 y]) (hn : n + 1 ≤ 1000000) (hB : B ≤ w.heap.size)
    (h : ∀ v' w', Own F w' B 3 1 v' (n + 1) ((xs ++ [y]).map encI) → Sat F w' → Below B w w' → w.grownBy w' v.ownBlock → (v'.ownBlock = v.ownBlock ∨ v'.ownBlock = some w.heap.size) → wpList Try.prog ops Q rest (a.put o.dst v') w') :
    wpList Try.prog ops Q (o :: rest) a w := by
  refine wpList_push hgd s x _ ho 3 (.int .i64 0) 1 8 Try.underlying30 (by kernel_rfl) rfl (by omega) hown hF hs g c #[.int .i64 y] hx hg rfl (by intro u hu; simp at hu; subst hu; rfl) (by simp [maxLen]; omega) (by omega) hB ?_
  intro v' w' h1 h2 h3 h4 h5
  exact h v' w' (by rw [List.map_append]; exact h1) h2 h3 h4 h5
end Go.Proofs.Ytaomehlhopiblaa
