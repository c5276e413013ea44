/- Nodes in memory; the walk of tree.fields. -/
import Derived.Test.YtaomehlhopiblaaLex2
set_option linter.unusedVariables false
set_option linter.unusedSimpArgs false
/-! Nodes in memory; the walk of tree.fields. -/
namespace Go.Proofs.Ytaomehlhopiblaa
open Go.RowKit

theorem quiet_eq {P : Program} {f : FuncId} {args : Array Value} {w : World} {n : Nat} {v : Value}
    (h : Calls P f args (w.drewN n) fun e w' => e = .returned v ∧ w.drewN n = w') : Calls P f args (w.drewN n) fun e w'' => e = .returned v ∧ ∃ m, w'' = w.drewN m :=
  h.mono fun _ _ ⟨he, hm⟩ => ⟨he, n, hm.symm⟩
theorem quiet_add {P : Program} {f : FuncId} {args : Array Value} {w : World} {a n : Nat} {v : Value}
    (h : Calls P f args (w.drewN (a + n)) fun e w' => e = .returned v ∧ w.drewN (a + n) = w') : Calls P f args (w.drewN (a + n)) fun e w'' => e = .returned v ∧ ∃ m, w'' = w.drewN (a + m) :=
  h.mono fun _ _ ⟨he, hm⟩ => ⟨he, n, hm.symm⟩
theorem blk5 {w : World} {g : Nat} {t : TypeId} {a b c d e : Value} (h : Blk w g t #[a, b, c, d, e]) :
    w.cell? ⟨g, 0, none⟩ = some a ∧ w.cell? ⟨g, 1, none⟩ = some b ∧ w.cell? ⟨g, 2, none⟩ = some c ∧ w.cell? ⟨g, 3, none⟩ = some d ∧ w.cell? ⟨g, 4, none⟩ = some e :=
  ⟨h.cell 0, h.cell 1, h.cell 2, h.cell 3, h.cell 4⟩
theorem isEmpty_data (s : ByteArray) : s.data.toList.isEmpty = s.toList.isEmpty := by rw [ByteArray.toList_eq]
theorem lexName_b (s : ByteArray) (b : Bool) (hb : nameS s.data.toList = b) (w : World) :
    Calls Try.prog 73 #[.string s] w fun e w' => e = .returned (.bool b) ∧ Below w.heap.size w w' := hb ▸ lexName_w s w
theorem timed_b (k : Int) (b : Bool) (hb : timedS k = b) (w : World) : Calls Try.prog 74 #[.int .i64 k] w fun e w' => e = .returned (.bool b) ∧ w = w' := hb ▸ timed_w k w
/-- Two spans. -/
def spEq (a b c d : Int) : Bool := a == c && b == d
theorem span_eq (lo hi lo' hi' : Int) (w : World) : (Op.equalIn 10000 46 (.agg #[.int .i64 lo, .int .i64 hi]) (.agg #[.int .i64 lo', .int .i64 hi'])).run Try.prog w = .ok (spEq lo hi lo' hi') w := by
  by_cases h1 : lo = lo' <;> by_cases h2 : hi = hi' <;> simp [go_sem, h1, h2, spEq]
attribute [local go_sem ↓] span_eq
theorem fieldsS_eq (n : Nd) : fieldsS n = ((if n.kind = 3 then nameS n.name.data.toList else n.name.toList.isEmpty) && (if timedS n.kind then spanS n.lo n.hi else spEq n.lo n.hi 0 0) && ((n.kids.length : Int) == arityS n.kind)) := by
  unfold fieldsS
  rw [isEmpty_data]
  congr 1
  congr 1
  congr 1
  unfold spEq
  rw [Bool.eq_iff_iff]
  simp
theorem fields_w (n : Nd) (A : Option Addr) (c : Nat) (w : World) :
    Calls Try.prog 66 #[.agg #[.int .i64 n.kind, .string n.name, .int .i64 n.lo, .int .i64 n.hi, .slice A n.kids.length c]] w fun e w' => e = .returned (.bool (fieldsS n)) ∧ Below w.heap.size w w' := by
  have hS := fieldsS_eq n
  obtain ⟨kind, name, lo, hi, kids⟩ := n
  dsimp only at hS ⊢
  generalize fieldsS ⟨kind, name, lo, hi, kids⟩ = fin at hS ⊢
  have HA := Lib.hid (arity_w kind)
  by_cases h3 : kind = 3
  · subst h3
    rw [if_pos rfl, if_neg (by decide)] at hS
    have HT := Lib.hid (timed_b 3 false rfl)
    cases hb : nameS name.data.toList
    · have HN := Lib.hid (lexName_b name _ hb)
      rw [hb, Bool.false_and, Bool.false_and] at hS
      have HS := Lib.hid hS
      clear hS hb
      go_enter Try.func66, Try.ntmps66
      go_wp2_with (first | (go_at_call 73; refine (HN.out _).mono ?_; rintro e w1 ⟨rfl, hw1⟩; obtain ⟨c0, c1, c2, c3, c4⟩ := blk5 ((Blk.new _ _ _).call hw1)) | (go_at_call 74; refine (HT.out _).mono ?_; rintro e w' ⟨rfl, rfl⟩))
      go_quiet (fail)
      go_wp2_with fail
      go_ret
      exact ⟨by rw [HS.out] <;> rfl, below_drewN (bthen (balloc _ _) hw1) _⟩
    · have HN := Lib.hid (lexName_b name _ hb)
      rw [hb, Bool.true_and] at hS
      cases hc : spEq lo hi 0 0
      · rw [hc, Bool.false_and] at hS
        have HS := Lib.hid hS
        clear hS hb
        go_enter Try.func66, Try.ntmps66
        go_wp2_with (first | (go_at_call 73; refine (HN.out _).mono ?_; rintro e w1 ⟨rfl, hw1⟩; obtain ⟨c0, c1, c2, c3, c4⟩ := blk5 ((Blk.new _ _ _).call hw1)) | (go_at_call 74; refine (HT.out _).mono ?_; rintro e w' ⟨rfl, rfl⟩))
        go_quiet (fail)
        go_wp2_with fail
        go_ret
        exact ⟨by rw [HS.out] <;> rfl, below_drewN (bthen (balloc _ _) hw1) _⟩
      · rw [hc, Bool.true_and] at hS
        have HS := Lib.hid hS
        clear hS hb
        go_enter Try.func66, Try.ntmps66
        go_wp2_with (first | (go_at_call 73; refine (HN.out _).mono ?_; rintro e w1 ⟨rfl, hw1⟩; obtain ⟨c0, c1, c2, c3, c4⟩ := blk5 ((Blk.new _ _ _).call hw1)) | (go_at_call 74; refine (HT.out _).mono ?_; rintro e w' ⟨rfl, rfl⟩))
        go_quiet ((go_at_call 75; exact quiet_eq (HA.out _)))
        go_wp2_with fail
        go_ret
        exact ⟨by rw [HS.out] <;> rfl, below_drewN (bthen (balloc _ _) hw1) _⟩
  · have e3 : (kind == 3) = false := by rw [beq_eq_false_iff_ne]; exact h3
    rw [if_neg h3] at hS
    clear h3
    cases hb : name.toList.isEmpty
    · have hb' : ¬ name.toList = [] := List.isEmpty_eq_false_iff.1 hb
      rw [hb, Bool.false_and, Bool.false_and] at hS
      have HS := Lib.hid hS
      clear hS
      cases ht : timedS kind
      · have HT := Lib.hid (timed_b kind _ ht)
        clear ht
        cases hc : spEq lo hi 0 0
        all_goals
          go_enter Try.func66, Try.ntmps66
          go_wp2_with (go_at_call 74; refine (HT.out _).mono ?_; rintro e w' ⟨rfl, rfl⟩)
          go_quiet (fail)
          go_wp2_with fail
          go_ret
          exact ⟨by rw [HS.out] <;> rfl, below_drewN (balloc _ _) _⟩
      · have HT := Lib.hid (timed_b kind _ ht)
        have HI := Lib.hid (ivalMay_w lo hi)
        clear ht
        generalize spanS lo hi = sp at HI
        cases sp
        all_goals
          go_enter Try.func66, Try.ntmps66
          go_wp2_with (first | (go_at_call 74; refine (HT.out _).mono ?_; rintro e w' ⟨rfl, rfl⟩) | (go_at_call 62; refine (HI.out _).mono ?_; rintro e w1 ⟨rfl, hw1⟩; obtain ⟨c0, c1, c2, c3, c4⟩ := blk5 ((Blk.new _ _ _).call hw1)))
          go_quiet (fail)
          go_wp2_with fail
          go_ret
          exact ⟨by rw [HS.out] <;> rfl, below_drewN (bthen (balloc _ _) hw1) _⟩
    · have hb' : name.toList = [] := List.isEmpty_iff.1 hb
      rw [hb, Bool.true_and] at hS
      cases ht : timedS kind
      · have HT := Lib.hid (timed_b kind _ ht)
        rw [ht, if_neg (by decide)] at hS
        clear ht
        cases hc : spEq lo hi 0 0
        · rw [hc, Bool.false_and] at hS
          have HS := Lib.hid hS
          clear hS
          go_enter Try.func66, Try.ntmps66
          go_wp2_with (go_at_call 74; refine (HT.out _).mono ?_; rintro e w' ⟨rfl, rfl⟩)
          go_quiet (fail)
          go_wp2_with fail
          go_ret
          exact ⟨by rw [HS.out] <;> rfl, below_drewN (balloc _ _) _⟩
        · rw [hc, Bool.true_and] at hS
          have HS := Lib.hid hS
          clear hS
          go_enter Try.func66, Try.ntmps66
          go_wp2_with (go_at_call 74; refine (HT.out _).mono ?_; rintro e w' ⟨rfl, rfl⟩)
          go_quiet ((go_at_call 75; exact quiet_eq (HA.out _)))
          go_wp2_with fail
          go_ret
          exact ⟨by rw [HS.out] <;> rfl, below_drewN (balloc _ _) _⟩
      · have HT := Lib.hid (timed_b kind _ ht)
        rw [ht, if_pos rfl] at hS
        have HI := Lib.hid (ivalMay_w lo hi)
        clear ht
        generalize spanS lo hi = sp at HI hS
        cases sp
        · rw [Bool.false_and] at hS
          have HS := Lib.hid hS
          clear hS
          go_enter Try.func66, Try.ntmps66
          go_wp2_with (first | (go_at_call 74; refine (HT.out _).mono ?_; rintro e w' ⟨rfl, rfl⟩) | (go_at_call 62; refine (HI.out _).mono ?_; rintro e w1 ⟨rfl, hw1⟩; obtain ⟨c0, c1, c2, c3, c4⟩ := blk5 ((Blk.new _ _ _).call hw1)))
          go_quiet (fail)
          go_wp2_with fail
          go_ret
          exact ⟨by rw [HS.out] <;> rfl, below_drewN (bthen (balloc _ _) hw1) _⟩
        · rw [Bool.true_and] at hS
          have HS := Lib.hid hS
          clear hS
          go_enter Try.func66, Try.ntmps66
          go_wp2_with (first | (go_at_call 74; refine (HT.out _).mono ?_; rintro e w' ⟨rfl, rfl⟩) | (go_at_call 62; refine (HI.out _).mono ?_; rintro e w1 ⟨rfl, hw1⟩; obtain ⟨c0, c1, c2, c3, c4⟩ := blk5 ((Blk.new _ _ _).call hw1)))
          go_quiet ((go_at_call 75; exact quiet_eq (HA.out _)))
          go_wp2_with fail
          go_ret
          exact ⟨by rw [HS.out] <;> rfl, below_drewN (bthen (balloc _ _) hw1) _⟩
end Go.Proofs.Ytaomehlhopiblaa
/-! Lists of nodes in memory; the walk of tree.sizes. -/
namespace Go.Proofs.Ytaomehlhopiblaa
open Go.RowKit

/-- The cells of a node at p. -/
def ndCells (f : Addr → Option Value) (p : Addr) (n : Nd) (A : Option Addr) (c : Nat) : Prop :=
  f p = some (.int .i64 n.kind) ∧ f ⟨p.block, p.off + 1, none⟩ = some (.string n.name) ∧ f ⟨p.block, p.off + 2, none⟩ = some (.int .i64 n.lo) ∧
    f ⟨p.block, p.off + 3, none⟩ = some (.int .i64 n.hi) ∧ f ⟨p.block, p.off + 4, none⟩ = some (.slice A n.kids.length c)
/-- The list of nodes at A, frozen with its kids. -/
def NodesF (F : Fz) (A : Option Addr) (k : Nat) (l : List Nd) : Prop :=
  l.length = k ∧ (0 < k → ∃ ad, A = some ad ∧ ∀ i (h : i < l.length), ∃ Ak ck, l[i].kids.length ≤ ck ∧ Rd F 1 Ak l[i].kids.length (l[i].kids.map (Value.int .i64)) ∧ ndCells F.cell (ad.add (i * 5)) l[i] Ak ck)
theorem ndCells.mono {f g : Addr → Option Value} {p : Addr} {n : Nd} {A : Option Addr} {c : Nat} (h : ndCells f p n A c) (hfg : ∀ a v, f a = some v → g a = some v) : ndCells g p n A c :=
  ⟨hfg _ _ h.1, hfg _ _ h.2.1, hfg _ _ h.2.2.1, hfg _ _ h.2.2.2.1, hfg _ _ h.2.2.2.2⟩
theorem ndCells.sat {F : Fz} {w : World} {p : Addr} {n : Nd} {A : Option Addr} {c : Nat} (h : ndCells F.cell p n A c) (hF : Sat F w) : ndCells w.cell? p n A c := h.mono fun _ _ h => hF.cell h
/-- A node's block, as its cells are read. -/
theorem ndBlk {w : World} {g : Nat} {t : TypeId} {n : Nd} {A : Option Addr} {c : Nat} (h : Blk w g t #[.int .i64 n.kind, .string n.name, .int .i64 n.lo, .int .i64 n.hi, .slice A n.kids.length c]) :
    w.cell? ⟨g, 0, none⟩ = some (.int .i64 n.kind) ∧ w.cell? ⟨g, 1, none⟩ = some (.string n.name) ∧ w.cell? ⟨g, 2, none⟩ = some (.int .i64 n.lo) ∧ w.cell? ⟨g, 3, none⟩ = some (.int .i64 n.hi) ∧ w.cell? ⟨g, 4, none⟩ = some (.slice A n.kids.length c) := blk5 h
/-- An int that counts. -/
abbrev encN (k : Nat) : Value := .int .i64 (k : Int)
theorem makeI {w : World} (n : Nat) (hn : n ≤ 100000) : (Instr.makeSlice 30 (.int .i64 (n : Int)) (.int .i64 (n : Int))).run Try.prog w = .ok (.slice (some ⟨w.heap.size, 0, none⟩) n n) (w.alloc (.cells (zeros (.int .i64 0) n) 3)) :=
  run_make1 _ _ _ 8 Try.underlying30 (by kernel_rfl) rfl n (by omega) (by omega) w
theorem fields_b (n : Nd) (b : Bool) (hb : fieldsS n = b) (A : Option Addr) (c : Nat) (w : World) :
    Calls Try.prog 66 #[.agg #[.int .i64 n.kind, .string n.name, .int .i64 n.lo, .int .i64 n.hi, .slice A n.kids.length c]] w fun e w' => e = .returned (.bool b) ∧ Below w.heap.size w w' := hb ▸ fields_w n A c w
/-- What stands at the top of a stack's lower part. -/
theorem top_of {l : List Nd} {k : Nat} {st pre st' : List Tr} {a : Tr} (hk : k ≤ l.length) (hst : parseS (l.take k) = some st) (hpre : st = pre ++ a :: st') :
    ∃ T : Nat, ∃ h : T < l.length, T < k ∧ T + 1 = total (a :: st') ∧ l[T].kind = a.root.kind ∧ (sizesOf st)[T]? = some a.size := by
  have htot := parse_total hst
  rw [List.length_take, Nat.min_eq_left hk] at htot
  have hlst := parse_list hst
  obtain ⟨kk, hg⟩ := get_listOf pre a st'
  have hs := get_sizesOf pre a st'
  rw [← hpre, hlst] at hg
  rw [← hpre] at hs
  have hp : 0 < total (a :: st') := total_pos.2 (by simp)
  have hle : total (a :: st') ≤ total st := by rw [hpre]; simp [total]
  refine ⟨total (a :: st') - 1, by omega, by omega, by omega, ?_, hs⟩
  have : l[total (a :: st') - 1]? = some { a.root with kids := kk } := by
    rw [← hg, List.getElem?_take, if_pos (by omega)]
  rw [List.getElem?_eq_getElem (by omega)] at this
  injection this with this
  rw [this]
theorem popK_step {W : Bool} {ks : List Int} {st st' : List Tr} {kk : Nat} (hk : kk < ks.length) (hp : popK W (ks.reverse.take (ks.length - (kk + 1))) st = some st') :
    popK W (ks.reverse.take (ks.length - kk)) st = popK W [ks[kk]] st' := by
  have hl : ks.length - (kk + 1) < ks.reverse.length := by rw [List.length_reverse]; omega
  rw [show ks.length - kk = ks.length - (kk + 1) + 1 by omega, List.take_succ_eq_append_getElem hl, popK_snoc, hp]
  have : ks.reverse[ks.length - (kk + 1)] = ks[kk] := by
    rw [List.getElem_reverse]
    congr 1
    omega
  rw [this]
  rfl
theorem popK_fail {W : Bool} {ks : List Int} {st st' : List Tr} {kk : Nat} (hk : kk < ks.length) (hp : popK W (ks.reverse.take (ks.length - (kk + 1))) st = some st') (hf : popK W [ks[kk]] st' = none) :
    popK W ks.reverse st = none := by
  have h1 : popK W (ks.reverse.take (ks.length - kk)) st = none := (popK_step hk hp).trans hf
  have h2 : ks.reverse = ks.reverse.take (ks.length - kk) ++ ks.reverse.drop (ks.length - kk) := (List.take_append_drop _ _).symm
  rw [h2]
  generalize ks.reverse.take (ks.length - kk) = A at h1
  generalize ks.reverse.drop (ks.length - kk) = B
  clear h2 hp hf
  induction A generalizing st with
  | nil => cases h1
  | cons x A ih =>
    cases st with
    | nil => rfl
    | cons a st =>
      rw [List.cons_append]
      simp only [popK] at h1 ⊢
      split
      · rename_i hc; rw [if_pos hc] at h1; exact ih h1
      · rfl
theorem push_fail {l : List Nd} {k : Nat} (hk : k < l.length) {st : List Tr} (hst : parseS (l.take k) = some st) (h : pushS st l[k] = none) : treeS l = none := by
  refine tree_none_of (parse_none (i := k + 1) ?_)
  rw [parse_take hk, hst]
  exact h
theorem push_nofields {st : List Tr} {n : Nd} (h : fieldsS n = false) : pushS st n = none := by unfold pushS; rw [if_neg (by simp [h])]

set_option maxRecDepth 100000 in
set_option maxHeartbeats 4000000 in
theorem sizes_w {F : Fz} {w : World} (hF : Sat F w) (l : List Nd) (hn : l.length ≤ 1000) (A : Option Addr) (n c : Nat) (hl : NodesF F A n l) :
    Calls Try.prog 53 #[.slice A n c] w fun e w' => Below w.heap.size w w' ∧
      ((treeS l = none ∧ e = .returned (.slice none 0 0)) ∨ (∃ t g cap, treeS l = some t ∧ e = .returned (.slice (some ⟨g, 0, none⟩) n cap) ∧ Blk w' g 3 (t.sizes.map encN).toArray)) := by
  obtain ⟨rfl, hl⟩ := hl
  have hmk := makeI (w := w) l.length (by omega)
  by_cases h0 : l.length = 0
  · have e0 : ((l.length : Int) == 0) = true := by rw [h0]; rfl
    have HN : Hid (treeS l = none) := Lib.hid (by rw [List.eq_nil_of_length_eq_zero h0]; rfl)
    clear h0
    go_enter Try.func53, Try.ntmps53
    go_wp2_with fail
    go_ret
    exact ⟨Below.refl _ _, .inl ⟨HN.out, rfl⟩⟩
  · have h0' : 0 < l.length := by omega
    obtain ⟨ad, rfl, hL⟩ := hl h0'
    have e0 : ((l.length : Int) == 0) = false := by rw [beq_eq_false_iff_ne]; omega
    go_enter Try.func53, Try.ntmps53
    go_wp2_with fail
    go_loopw [4, 5, 6, 7, 16] (fun _ _ _ _ i wr => ∃ k : Nat, k ≤ l.length ∧ i = .int .i64 k ∧ Below w.heap.size w wr ∧ ∃ st, Hid (parseS (l.take k) = some st) ∧ Blk wr w.heap.size 3 ((sizesOf st ++ List.replicate (l.length - k) 0).map encN).toArray) (fun _ _ _ _ i _ => l.length - (intOf i).toNat)
    case atStart => exact ⟨0, Nat.zero_le _, rfl, balloc _ _, [], Lib.hid rfl, by rw [show sizesOf [] = [] from rfl, List.nil_append, Nat.sub_zero, List.map_replicate]; exact Blk.new _ _ _⟩
    case round =>
      obtain ⟨k, hk, rfl, hb, st, hst, hB⟩ := hrel
      by_cases hlt : k < l.length
      · obtain ⟨Ak, ck, hck, hK, hd⟩ := hL k hlt
        have hFr := hF.below hb
        obtain ⟨c0, c1, c2, c3, c4⟩ := hd.sat hFr
        have hltI : (k : Int) < (l.length : Int) := by omega
        have hpf := push_fail hlt hst.out
        have htk : parseS (l.take (k + 1)) = pushS st l[k] := by rw [parse_take hlt, hst.out]; rfl
        generalize hnd : l[k] = nd at *
        have HND := Lib.hid hnd
        have HTK := Lib.hid htk
        have HPF := Lib.hid hpf
        clear hnd htk hpf
        cases hb1 : fieldsS nd
        · have HFd := Lib.hid (fields_b nd _ hb1 Ak ck)
          have HN : Hid (treeS l = none) := Lib.hid (HPF.out (push_nofields hb1))
          clear hb1
          go_wp2_with (go_at_call 66; refine (HFd.out _).mono ?_; rintro e w1 ⟨rfl, hw1⟩)
          go_ret
          exact ⟨hb.trans ((balloc _ _).trans (hw1.mono (by simp)) |>.mono hb.size), .inl ⟨HN.out, rfl⟩⟩
        · have HFd := Lib.hid (fields_b nd _ hb1 Ak ck)
          have HB1 := Lib.hid hb1
          have hk2 : nd.kids.length ≤ 2 := by have h1 := fields_kids hb1; have h2 := arity_le nd.kind; omega
          clear hb1
          go_wp2_with (go_at_call 66; refine (HFd.out _).mono ?_; rintro e w1 ⟨rfl, hw1⟩; obtain ⟨f0, f1, f2, f3, f4⟩ := ndBlk (n := nd) ((Blk.new _ _ _).call hw1))
          go_loopw [6, 7] (fun a j wr2 => ∃ (kk : Nat) (J X : Int) (st' : List Tr), kk ≤ nd.kids.length ∧ j = .int .i64 J ∧ J = (kk : Int) - 1 ∧ a = .int .i64 X ∧ X = (total st' : Int) - 1 ∧ Hid (popK (wantsS nd.kind) (nd.kids.reverse.take (nd.kids.length - kk)) st = some st') ∧ ∃ q, wr2 = w1.drewN q) (fun _ j _ => (intOf j + 1).toNat)
          case atStart => exact ⟨nd.kids.length, (nd.kids.length : Int) - 1, (k : Int) - 1, st, Nat.le_refl _, by go_num, rfl, by go_num, by rw [parse_total hst.out, List.length_take, Nat.min_eq_left (by omega)], Lib.hid (by simp [popK]), 0, rfl⟩
          case round =>
            obtain ⟨kk, J, X, st', hkk, rfl, hJ, rfl, hX, hp, q, rfl⟩ := hrel
            cases kk with
            | zero =>
              obtain rfl : J = -1 := by omega
              have hp2 := hp.out
              rw [Nat.sub_zero, ← List.length_reverse, List.take_length] at hp2
              obtain ⟨t, hpu, hts⟩ := (push_pop HB1.out).2 st' hp2
              have htot := parse_total hst.out
              rw [List.length_take, Nat.min_eq_left hk] at htot
              have HV : Hid ((k : Int) - X = (t.size : Int)) := Lib.hid (by omega)
              have hX1 : -1 ≤ X := by omega
              have hX2 : X < (k : Int) := by have := t.size_pos; omega
              have HTS : Hid (t.size ≤ k + 1) := Lib.hid (by omega)
              obtain ⟨t', st0, e1, hsz, _⟩ := push_sizes hpu
              injection e1 with e1 e2
              subst e1 e2
              have HST : Hid (parseS (l.take (k + 1)) = some (t :: st')) := Lib.hid (HTK.out.trans hpu)
              have hlen := length_sizesOf st
              have HSET : Hid ((sizesOf st ++ List.replicate (l.length - k) 0).set k t.size = sizesOf (t :: st') ++ List.replicate (l.length - (k + 1)) 0) := Lib.hid (by
                rw [hsz, List.set_append_right _ _ (by omega), hlen, htot, Nat.sub_self, show l.length - k = (l.length - (k + 1)) + 1 by omega, List.replicate_succ, List.set_cons_zero, List.append_assoc]
                rfl)
              have hB1 := (hB.alloc (.cells #[.int .i64 nd.kind, .string nd.name, .int .i64 nd.lo, .int .i64 nd.hi, .slice Ak nd.kids.length ck] 48)).call hw1
              have hfz := hB1.frozen k
              have hoc := hB1.cellL (k := k) (x := 0) (by rw [List.getElem?_append_right (by omega), hlen, htot, Nat.sub_self, List.getElem?_replicate, if_pos (by omega)])
              clear hJ hX hp2 hts htot hpu hsz hlen
              go_wp2_with fail
              go_roundw
              case rel => exact ⟨k + 1, by omega, by go_num, (below_drewN (hb.trans ((balloc _ _).trans (hw1.mono (by simp)) |>.mono hb.size)) q).setCell (Nat.le_refl _) _, _, HST, by rw [show ((k : Int) - X) = (t.size : Int) from HV.out]; exact (hB1.drewN q).setL k _ HSET.out⟩
              case measure => simp [intOf]; omega
            | succ kk =>
              obtain rfl : J = (kk : Int) := by omega
              obtain ⟨Akd, v, rfl, hv, hcell⟩ := hK.at1 (k := kk) (by omega)
              have hkl : kk < nd.kids.length := by omega
              obtain rfl : Value.int .i64 nd.kids[kk] = v := by simpa [hkl] using hv
              have hFq : Sat F w1 := hFr.below ((balloc _ _).trans (hw1.mono (by simp)))
              have hcz := hFq.cell hcell
              have hkI : (kk : Int) < (nd.kids.length : Int) := by omega
              have hPF : popK (wantsS nd.kind) [nd.kids[kk]] st' = none → treeS l = none := fun hf => HPF.out (by
                exact (push_pop HB1.out).1 (popK_fail hkl hp.out hf))
              have hstep := popK_step hkl hp.out
              cases st' with
              | nil =>
                obtain rfl : X = -1 := by rw [hX]; rfl
                have HN : Hid (treeS l = none) := Lib.hid (hPF rfl)
                clear hPF hstep hv hcell hJ hX
                go_wp2_with fail
                go_quiet (fail)
                go_wp2_with fail
                go_ret
                exact ⟨below_drewN (below_drewN ((hb.trans ((balloc _ _).trans (hw1.mono (by simp)) |>.mono hb.size))) _) _, .inl ⟨HN.out, rfl⟩⟩
              | cons a st'' =>
                obtain ⟨pre, hpre⟩ := popK_part hp.out
                obtain ⟨T, hT, hTk, hTt, hkind, hsz⟩ := top_of (by omega) hst.out hpre
                obtain rfl : X = (T : Int) := by omega
                clear hX hJ hcell hv
                have hR : popK (wantsS nd.kind) [nd.kids[kk]] (a :: st'') = if nd.kids[kk] = (T : Int) ∧ regS l[T].kind = wantsS nd.kind then some st'' else none := by
                  simp only [popK, hkind, ← hTt]
                  congr 1
                  rw [show (((T + 1 : Nat) : Int) - 1) = (T : Int) by omega]
                obtain ⟨At, ct, _, _, hdt⟩ := hL T hT
                obtain ⟨t0, _, _, _, _⟩ := hdt.sat hFq
                clear hdt
                have hTI : (T : Int) < (l.length : Int) := by omega
                have hT0 : decide ((T : Int) < 0) = false := decide_eq_false (by omega)
                by_cases hz : nd.kids[kk] = (T : Int)
                · have hzz : (nd.kids[kk] != (T : Int)) = false := by rw [bne_eq_false_iff_eq]; exact hz
                  cases hrw : (regS l[T].kind == wantsS nd.kind)
                  · have hne : ¬ (nd.kids[kk] = (T : Int) ∧ regS l[T].kind = wantsS nd.kind) := by rintro ⟨_, h⟩; rw [h] at hrw; simp at hrw
                    rw [if_neg hne] at hR
                    have HN : Hid (treeS l = none) := Lib.hid (hPF hR)
                    have HRg := Lib.hid (reg_w l[T].kind)
                    have HWa := Lib.hid (wants_w nd.kind)
                    clear hPF hstep hR hz hkind hne hsz
                    generalize l[T].kind = kd at *
                    go_wp2_with fail
                    go_quiet (first | (go_at_call 50; exact quiet_add (HRg.out _)) | (go_at_call 67; exact quiet_add (HWa.out _)))
                    go_wp2_with fail
                    go_ret
                    exact ⟨below_drewN (below_drewN ((hb.trans ((balloc _ _).trans (hw1.mono (by simp)) |>.mono hb.size))) _) _, .inl ⟨HN.out, rfl⟩⟩
                  · have hrw' : regS l[T].kind = wantsS nd.kind := by simpa using hrw
                    rw [hR, if_pos ⟨hz, hrw'⟩] at hstep
                    have HST := Lib.hid hstep
                    have HRg := Lib.hid (reg_w l[T].kind)
                    have HWa := Lib.hid (wants_w nd.kind)
                    have htt : total st'' + a.size = T + 1 := by rw [hTt, total_cons]; omega
                    have hap := a.size_pos
                    have hB1 := hB.alloc (.cells #[.int .i64 nd.kind, .string nd.name, .int .i64 nd.lo, .int .i64 nd.hi, .slice (some Akd) nd.kids.length ck] 48)
                    have hoc := (hB1.call hw1).cellL (k := T) (x := a.size) (by rw [List.getElem?_append_left (List.getElem?_eq_some_iff.1 hsz).1]; exact hsz)
                    clear hPF hstep hR hz hkind hrw' hsz hB1
                    generalize l[T].kind = kd at *
                    go_wp2_with fail
                    go_quiet (first | (go_at_call 50; exact quiet_add (HRg.out _)) | (go_at_call 67; exact quiet_add (HWa.out _)))
                    go_wp2_with fail
                    go_roundw
                    case rel => exact ⟨kk, (kk : Int) - 1, (T : Int) - (a.size : Int), st'', by omega, by go_num, rfl, by go_num, by omega, HST, _, rfl⟩
                    case measure => simp [intOf] <;> omega
                · have hzz : (nd.kids[kk] != (T : Int)) = true := by rw [bne_iff_ne]; exact hz
                  rw [if_neg (fun h => hz h.1)] at hR
                  have HN : Hid (treeS l = none) := Lib.hid (hPF hR)
                  clear hPF hstep hR hz hkind hsz
                  go_wp2_with fail
                  go_quiet (fail)
                  go_wp2_with fail
                  go_ret
                  exact ⟨below_drewN (below_drewN ((hb.trans ((balloc _ _).trans (hw1.mono (by simp)) |>.mono hb.size))) _) _, .inl ⟨HN.out, rfl⟩⟩
      · obtain rfl : k = l.length := by omega
        rw [Nat.sub_self, List.replicate_zero, List.append_nil] at hB
        have hpl : parseS l = some st := by have := hst.out; rwa [List.take_length] at this
        have htot := parse_total hpl
        cases st with
        | nil => exact absurd htot (by simp [total]; omega)
        | cons t st' =>
          have hoc0 := get_sizesOf [] t st'
          rw [List.nil_append, htot] at hoc0
          have hoc := hB.cellL hoc0
          have hsub : ((l.length : Int) - 1) = ((l.length - 1 : Nat) : Int) := by omega
          have hsubI : (l.length : Int) - 1 < (l.length : Int) := by omega
          have hsub0 : (0 : Int) ≤ (l.length : Int) - 1 := by omega
          have hN : ((l.length : Int) - 1).toNat = l.length - 1 := by omega
          have hltI : decide ((l.length : Int) < (l.length : Int)) = false := decide_eq_false (by omega)
          rcases tree_single hpl with ⟨h1, h2, rfl⟩ | ⟨h1, h2⟩
          · have hne : ((t.size : Int) != (l.length : Int)) = false := by rw [h2]; simp
            have H1 := Lib.hid h1
            have hB' : Blk wr w.heap.size 3 (t.sizes.map encN).toArray := by simpa [sizesOf] using hB
            clear h1 h2 hpl htot hoc0 hsub
            go_wp2_with fail
            go_ret
            exact ⟨hb, .inr ⟨t, _, _, H1.out, rfl, hB'⟩⟩
          · have hne : ((t.size : Int) != (l.length : Int)) = true := by rw [bne_iff_ne]; omega
            have H1 := Lib.hid h1
            clear h1 h2 hpl htot hoc0 hsub
            go_wp2_with fail
            go_ret
            exact ⟨hb, .inl ⟨H1.out, rfl⟩⟩
end Go.Proofs.Ytaomehlhopiblaa
