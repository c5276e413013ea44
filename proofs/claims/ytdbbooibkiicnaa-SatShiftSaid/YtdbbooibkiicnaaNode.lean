/- Nodes in memory; the walk of tree.fields. -/
import Derived.Test.YtdbbooibkiicnaaLex2
set_option linter.unusedVariables false
set_option linter.unusedSimpArgs false
namespace Go.Proofs.Ytdbbooibkiicnaa
open Go.RowKit

theorem quiet_eq {P : Program} {f : FuncId} {args : Array Value} {w : World} {n : Nat} {v : Value}
    (h : Calls P f args (w.drewN n) fun e w' => e = .returned v ∧ w.drewN n = w') : Calls P f args (w.drewN n) fun e w'' => e = .returned v ∧ ∃ m, w'' = w.drewN m :=
  h.mono fun _ _ ⟨he, hm⟩ => ⟨he, n, hm.symm⟩
theorem quiet_add {P : Program} {f : FuncId} {args : Array Value} {w : World} {a n : Nat} {v : Value}
    (h : Calls P f args (w.drewN (a + n)) fun e w' => e = .returned v ∧ w.drewN (a + n) = w') : Calls P f args (w.drewN (a + n)) fun e w'' => e = .returned v ∧ ∃ m, w'' = w.drewN (a + m) :=
  h.mono fun _ _ ⟨he, hm⟩ => ⟨he, n, hm.symm⟩
theorem blk5 {w : World} {g : Nat} {t : TypeId} {a b c d e : Value} (h : Blk w g t #[a, b, c, d, e]) :
    w.cell? ⟨g, 0, none⟩ = some a ∧ w.cell? ⟨g, 1, none⟩ = some b ∧ w.cell? ⟨g, 2, none⟩ = some c ∧ w.cell? ⟨g, 3, none⟩ = some d ∧ w.cell? ⟨g, 4, none⟩ = some e :=
  ⟨h.cell 0, h.cell 1, h.cell 2, h.cell 3, h.cell 4⟩
theorem isEmpty_data (s : ByteArray) : s.data.toList.isEmpty = s.toList.isEmpty := by rw [ByteArray.toList_eq]
theorem lexName_b (s : ByteArray) (b : Bool) (hb : nameS s.data.toList = b) (w : World) :
    Calls Try.prog 113 #[.string s] w fun e w' => e = .returned (.bool b) ∧ Below w.heap.size w w' := hb ▸ lexName_w s w
theorem ivalMay_b (lo hi : Int) (b : Bool) (hb : spanS lo hi = b) (w : World) :
    Calls Try.prog 46 #[.agg #[.int .i64 lo, .int .i64 hi]] w fun e w' => e = .returned (.bool b) ∧ Below w.heap.size w w' := hb ▸ ivalMay_w lo hi w
theorem timed_b (k : Int) (b : Bool) (hb : timedS k = b) (w : World) : Calls Try.prog 114 #[.int .i64 k] w fun e w' => e = .returned (.bool b) ∧ w = w' := hb ▸ timed_w k w
/-- Two spans. -/
def spEq (a b c d : Int) : Bool := a == c && b == d
theorem span_eq (lo hi lo' hi' : Int) (w : World) : (Op.equalIn 10000 26 (.agg #[.int .i64 lo, .int .i64 hi]) (.agg #[.int .i64 lo', .int .i64 hi'])).run Try.prog w = .ok (spEq lo hi lo' hi') w := by
  by_cases h1 : lo = lo' <;> by_cases h2 : hi = hi' <;> simp [go_sem, h1, h2, spEq]
attribute [local go_sem ↓] span_eq
theorem fieldsS_eq (n : Nd) : fieldsS n = ((if n.kind = 3 then nameS n.name.data.toList else n.name.toList.isEmpty) && (if timedS n.kind then spanS n.lo n.hi else spEq n.lo n.hi 0 0) && ((n.kids.length : Int) == arityS n.kind)) := by
  unfold fieldsS
  rw [isEmpty_data]
  congr 1
  congr 1
  congr 1
  unfold spEq
  rw [Bool.eq_iff_iff]
  simp
theorem fields_w (n : Nd) (A : Option Addr) (c : Nat) (w : World) :
    Calls Try.prog 74 #[.agg #[.int .i64 n.kind, .string n.name, .int .i64 n.lo, .int .i64 n.hi, .slice A n.kids.length c]] w fun e w' => e = .returned (.bool (fieldsS n)) ∧ Below w.heap.size w w' := by
  have hS := fieldsS_eq n
  obtain ⟨kind, name, lo, hi, kids⟩ := n
  dsimp only at hS ⊢
  generalize fieldsS ⟨kind, name, lo, hi, kids⟩ = fin at hS ⊢
  have HA := Lib.hid (arity_w kind)
  by_cases h3 : kind = 3
  · subst h3
    rw [if_pos rfl, if_neg (by decide)] at hS
    have HT := Lib.hid (timed_b 3 false rfl)
    cases hb : nameS name.data.toList
    · have HN := Lib.hid (lexName_b name _ hb)
      rw [hb, Bool.false_and, Bool.false_and] at hS
      have HS := Lib.hid hS
      clear hS hb
      go_enter Try.func74, Try.ntmps74
      go_wp2_with (first | (go_at_call 113; refine (HN.out _).mono ?_; rintro e w1 ⟨rfl, hw1⟩; obtain ⟨c0, c1, c2, c3, c4⟩ := blk5 ((Blk.new _ _ _).call hw1)) | (go_at_call 114; refine (HT.out _).mono ?_; rintro e w' ⟨rfl, rfl⟩))
      go_quiet (fail)
      go_wp2_with fail
      go_ret
      exact ⟨by rw [HS.out] <;> rfl, below_drewN (bthen (balloc _ _) hw1) _⟩
    · have HN := Lib.hid (lexName_b name _ hb)
      rw [hb, Bool.true_and] at hS
      cases hc : spEq lo hi 0 0
      · rw [hc, Bool.false_and] at hS
        have HS := Lib.hid hS
        clear hS hb
        go_enter Try.func74, Try.ntmps74
        go_wp2_with (first | (go_at_call 113; refine (HN.out _).mono ?_; rintro e w1 ⟨rfl, hw1⟩; obtain ⟨c0, c1, c2, c3, c4⟩ := blk5 ((Blk.new _ _ _).call hw1)) | (go_at_call 114; refine (HT.out _).mono ?_; rintro e w' ⟨rfl, rfl⟩))
        go_quiet (fail)
        go_wp2_with fail
        go_ret
        exact ⟨by rw [HS.out] <;> rfl, below_drewN (bthen (balloc _ _) hw1) _⟩
      · rw [hc, Bool.true_and] at hS
        have HS := Lib.hid hS
        clear hS hb
        go_enter Try.func74, Try.ntmps74
        go_wp2_with (first | (go_at_call 113; refine (HN.out _).mono ?_; rintro e w1 ⟨rfl, hw1⟩; obtain ⟨c0, c1, c2, c3, c4⟩ := blk5 ((Blk.new _ _ _).call hw1)) | (go_at_call 114; refine (HT.out _).mono ?_; rintro e w' ⟨rfl, rfl⟩))
        go_quiet ((go_at_call 115; exact quiet_eq (HA.out _)))
        go_wp2_with fail
        go_ret
        exact ⟨by rw [HS.out] <;> rfl, below_drewN (bthen (balloc _ _) hw1) _⟩
  · have e3 : (kind == 3) = false := by rw [beq_eq_false_iff_ne]; exact h3
    rw [if_neg h3] at hS
    clear h3
    cases hb : name.toList.isEmpty
    · have hb' : ¬ name.toList = [] := List.isEmpty_eq_false_iff.1 hb
      rw [hb, Bool.false_and, Bool.false_and] at hS
      have HS := Lib.hid hS
      clear hS
      cases ht : timedS kind
      · have HT := Lib.hid (timed_b kind _ ht)
        clear ht
        cases hc : spEq lo hi 0 0
        all_goals
          go_enter Try.func74, Try.ntmps74
          go_wp2_with (go_at_call 114; refine (HT.out _).mono ?_; rintro e w' ⟨rfl, rfl⟩)
          go_quiet (fail)
          go_wp2_with fail
          go_ret
          exact ⟨by rw [HS.out] <;> rfl, below_drewN (balloc _ _) _⟩
      · have HT := Lib.hid (timed_b kind _ ht)
        have HI := Lib.hid (ivalMay_w lo hi)
        clear ht
        generalize spanS lo hi = sp at HI
        cases sp
        all_goals
          go_enter Try.func74, Try.ntmps74
          go_wp2_with (first | (go_at_call 114; refine (HT.out _).mono ?_; rintro e w' ⟨rfl, rfl⟩) | (go_at_call 46; refine (HI.out _).mono ?_; rintro e w1 ⟨rfl, hw1⟩; obtain ⟨c0, c1, c2, c3, c4⟩ := blk5 ((Blk.new _ _ _).call hw1)))
          go_quiet (fail)
          go_wp2_with fail
          go_ret
          exact ⟨by rw [HS.out] <;> rfl, below_drewN (bthen (balloc _ _) hw1) _⟩
    · have hb' : name.toList = [] := List.isEmpty_iff.1 hb
      rw [hb, Bool.true_and] at hS
      cases ht : timedS kind
      · have HT := Lib.hid (timed_b kind _ ht)
        rw [ht, if_neg (by decide)] at hS
        clear ht
        cases hc : spEq lo hi 0 0
        · rw [hc, Bool.false_and] at hS
          have HS := Lib.hid hS
          clear hS
          go_enter Try.func74, Try.ntmps74
          go_wp2_with (go_at_call 114; refine (HT.out _).mono ?_; rintro e w' ⟨rfl, rfl⟩)
          go_quiet (fail)
          go_wp2_with fail
          go_ret
          exact ⟨by rw [HS.out] <;> rfl, below_drewN (balloc _ _) _⟩
        · rw [hc, Bool.true_and] at hS
          have HS := Lib.hid hS
          clear hS
          go_enter Try.func74, Try.ntmps74
          go_wp2_with (go_at_call 114; refine (HT.out _).mono ?_; rintro e w' ⟨rfl, rfl⟩)
          go_quiet ((go_at_call 115; exact quiet_eq (HA.out _)))
          go_wp2_with fail
          go_ret
          exact ⟨by rw [HS.out] <;> rfl, below_drewN (balloc _ _) _⟩
      · have HT := Lib.hid (timed_b kind _ ht)
        rw [ht, if_pos rfl] at hS
        have HI := Lib.hid (ivalMay_w lo hi)
        clear ht
        generalize spanS lo hi = sp at HI hS
        cases sp
        · rw [Bool.false_and] at hS
          have HS := Lib.hid hS
          clear hS
          go_enter Try.func74, Try.ntmps74
          go_wp2_with (first | (go_at_call 114; refine (HT.out _).mono ?_; rintro e w' ⟨rfl, rfl⟩) | (go_at_call 46; refine (HI.out _).mono ?_; rintro e w1 ⟨rfl, hw1⟩; obtain ⟨c0, c1, c2, c3, c4⟩ := blk5 ((Blk.new _ _ _).call hw1)))
          go_quiet (fail)
          go_wp2_with fail
          go_ret
          exact ⟨by rw [HS.out] <;> rfl, below_drewN (bthen (balloc _ _) hw1) _⟩
        · rw [Bool.true_and] at hS
          have HS := Lib.hid hS
          clear hS
          go_enter Try.func74, Try.ntmps74
          go_wp2_with (first | (go_at_call 114; refine (HT.out _).mono ?_; rintro e w' ⟨rfl, rfl⟩) | (go_at_call 46; refine (HI.out _).mono ?_; rintro e w1 ⟨rfl, hw1⟩; obtain ⟨c0, c1, c2, c3, c4⟩ := blk5 ((Blk.new _ _ _).call hw1)))
          go_quiet ((go_at_call 115; exact quiet_eq (HA.out _)))
          go_wp2_with fail
          go_ret
          exact ⟨by rw [HS.out] <;> rfl, below_drewN (bthen (balloc _ _) hw1) _⟩
end Go.Proofs.Ytdbbooibkiicnaa
