/- Law 8's traces: plain definitions and lemmas. -/
import Derived.Test.YtgmbicjcfhmcdaaSatB
import Derived.Test.YtgmbicjcfhmcdaaSatF
set_option linter.unusedVariables false
set_option linter.unusedSimpArgs false
/-! Law 8's traces: plain definitions and lemmas. -/
namespace Go.Proofs.Ytgmbicjcfhmcdaa
/-- Ids of three names, by bits. -/
def idsM (n : Nat) : List Int := ((List.range 3).filter fun i => n.testBit i).map fun i : Nat => (i : Int)
def gapM (n : Nat) : Nat := if 65000 ≤ n then 1125899906842624 else if n / 32 % 32 = 31 then 3000 else n / 8 % 4
def evM : Nat → List Nat → List Evt
  | _, [] => []
  | t, n :: r => ⟨t + gapM n, idsM (n % 8)⟩ :: evM (t + gapM n) r
def nowM (t : Nat) (ns : List Nat) : Nat := t + (ns.map gapM).sum
theorem nowM_snoc (t : Nat) (ns : List Nat) (n : Nat) : nowM t (ns ++ [n]) = nowM t ns + gapM n := by unfold nowM; simp; omega
theorem gapM_le (n : Nat) : gapM n ≤ 1125899906842624 := by unfold gapM; (repeat' split) <;> omega
theorem nowM_le (t : Nat) : ∀ ns : List Nat, nowM t ns ≤ t + ns.length * 1125899906842624
  | [] => by simp [nowM]
  | n :: r => by
    have h1 := nowM_le t r
    have h2 := gapM_le n
    unfold nowM at h1 ⊢
    simp only [List.map_cons, List.sum_cons, List.length_cons]
    omega
theorem evM_snoc : ∀ (ns : List Nat) (t n : Nat), evM t (ns ++ [n]) = evM t ns ++ [⟨nowM t ns + gapM n, idsM (n % 8)⟩]
  | [], t, n => by simp [evM, nowM]
  | m :: r, t, n => by
    simp only [List.cons_append, evM]
    rw [evM_snoc r]
    unfold nowM
    simp only [List.map_cons, List.sum_cons]
    simp only [Nat.add_assoc]
theorem length_evM : ∀ (ns : List Nat) (t : Nat), (evM t ns).length = ns.length
  | [], _ => rfl
  | n :: r, t => by simp [evM, length_evM r]
theorem idsM_len (n : Nat) : (idsM n).length ≤ 3 := by
  unfold idsM
  rw [List.length_map]
  exact Nat.le_trans (List.length_filter_le _ _) (by simp)
theorem evM_ids : ∀ (ns : List Nat) (t : Nat), ∀ e ∈ evM t ns, e.ids.length ≤ 3
  | [], _ => by simp [evM]
  | n :: r, t => by
    intro e he
    simp only [evM, List.mem_cons] at he
    rcases he with rfl | he
    · exact idsM_len _
    · exact evM_ids r _ e he
theorem allI_iff {p : Nat → Bool} : ∀ {m i : Nat}, allI p m i = true ↔ ∀ j, i ≤ j → j < i + m → p j = true
  | 0, i => by
    unfold allI
    exact ⟨fun _ j h1 h2 => by omega, fun _ => rfl⟩
  | m + 1, i => by
    unfold allI
    rw [Bool.and_eq_true, allI_iff]
    constructor
    · rintro ⟨h1, h2⟩ j h3 h4
      rcases Nat.lt_or_ge i j with h | h
      · exact h2 j (by omega) (by omega)
      · rw [show j = i by omega]; exact h1
    · intro h
      exact ⟨h i (Nat.le_refl _) (by omega), fun j h1 h2 => h j (by omega) (by omega)⟩
theorem idsM_ok (n : Nat) (hn : n < 8) : idsOk (idsM n) 3 = true := by
  rcases (show n = 0 ∨ n = 1 ∨ n = 2 ∨ n = 3 ∨ n = 4 ∨ n = 5 ∨ n = 6 ∨ n = 7 by omega) with rfl | rfl | rfl | rfl | rfl | rfl | rfl | rfl <;> rfl
theorem timeE_evM : ∀ (ns : List Nat) (t i : Nat), i < ns.length → timeE (evM t ns) i = nowM t (ns.take (i + 1))
  | [], _, _, h => by simp at h
  | n :: r, t, 0, _ => by simp [evM, timeE, nowM]
  | n :: r, t, i + 1, h => by
    have := timeE_evM r (t + gapM n) i (by simpa using h)
    unfold timeE at this ⊢
    simp only [evM, List.getElem?_cons_succ]
    rw [this]
    unfold nowM
    simp [Nat.add_assoc]
theorem evM_at : ∀ (ns : List Nat) (t i : Nat) (e : Evt), (evM t ns)[i]? = some e → ∃ n, ns[i]? = some n ∧ e.ids = idsM (n % 8) ∧ e.time = timeE (evM t ns) i
  | [], _, _, _, h => by simp [evM] at h
  | n :: r, t, 0, e, h => by
    simp only [evM, List.getElem?_cons_zero, Option.some.injEq] at h
    subst h
    exact ⟨n, rfl, rfl, rfl⟩
  | n :: r, t, i + 1, e, h => by
    simp only [evM, List.getElem?_cons_succ] at h
    obtain ⟨m, h1, h2, h3⟩ := evM_at r _ i e h
    exact ⟨m, by simpa using h1, h2, by rw [h3]; rfl⟩
def namesM : List ByteArray := [⟨#[112]⟩, ⟨#[113]⟩, ⟨#[114]⟩]
theorem namesM_ok : namesOk namesM = true := by decide +kernel
theorem mayT_evM (t : Nat) (ns : List Nat) : mayT namesM (evM t ns) = true := by
  unfold mayT
  rw [namesM_ok, Bool.true_and, allI_iff]
  intro j _ hj
  rw [length_evM] at hj
  unfold evtAt
  cases h : (evM t ns)[j]? with
  | none => rfl
  | some e =>
    obtain ⟨n, h1, h2, h3⟩ := evM_at ns t j e h
    simp only
    rw [h2, show namesM.length = 3 from rfl, show ((3 : Nat) : Int) = 3 from rfl, idsM_ok _ (Nat.mod_lt _ (by omega)), Bool.true_and, h3]
    rcases Nat.eq_zero_or_pos j with e0 | h0
    · subst e0; simp
    · rw [timeE_evM ns t j (by omega), timeE_evM ns t (j - 1) (by omega), show j - 1 + 1 = j by omega, List.take_succ_eq_append_getElem (by omega), nowM_snoc]
      simp
end Go.Proofs.Ytgmbicjcfhmcdaa
/-! Traces of the call's own: rows of events; law 8's ids. -/
namespace Go.Proofs.Ytgmbicjcfhmcdaa
open Go.RowKit
attribute [local go_sem ↓] Go.wp_at_zero Go.wp_at_succ
def noF : Fz := fun _ => none
theorem sat_noF (w : World) : Sat noF w := fun b o h => by cases h
/-- Ids of the first k names. -/
def idsK (n k : Nat) : List Int := ((List.range k).filter fun i => n.testBit i).map fun i : Nat => (i : Int)
theorem idsK_step (n k : Nat) : idsK n (k + 1) = idsK n k ++ if n.testBit k = true then [(k : Int)] else [] := by
  unfold idsK
  rw [List.range_succ, List.filter_append, List.map_append]
  congr 1
  by_cases h : n.testBit k = true <;> simp [h]
theorem bits16 : ∀ n < 8, ∀ k < 3, (bits BinOp.and IntKind.u16 (((n : Nat) : Int) / 2 ^ k) 1 == 1) = n.testBit k := by
  intro n hn k hk
  rcases (show n = 0 ∨ n = 1 ∨ n = 2 ∨ n = 3 ∨ n = 4 ∨ n = 5 ∨ n = 6 ∨ n = 7 by omega) with rfl | rfl | rfl | rfl | rfl | rfl | rfl | rfl <;> rcases (show k = 0 ∨ k = 1 ∨ k = 2 by omega) with rfl | rfl | rfl <;> rfl
set_option maxRecDepth 100000 in
set_option maxHeartbeats 2000000 in
theorem ids8_w {w : World} (n : Nat) (hn : n < 8) :
    Calls Try.prog 44 #[.int .u16 (n : Nat)] w (RetIF w (idsM n)) := by
  go_enter Try.func44, Try.ntmps44
  go_wp2_with fail
  go_loopw [3, 4, 5] (fun o _ i wr => ∃ (k : Nat) (xs : List Int) (A3 : Option Addr) (n3 c3 : Nat), k ≤ 3 ∧ i = .int .i64 k ∧ o = .slice A3 n3 c3 ∧ n3 ≤ k ∧ Hid (xs = idsK n k) ∧ Own noF wr w.heap.size 3 1 (.slice A3 n3 c3) n3 (xs.map encI) ∧ Hid (n3 = xs.length) ∧ Below w.heap.size w wr) (fun _ _ i _ => 3 - (intOf i).toNat)
  case atStart => exact ⟨0, [], none, 0, 0, Nat.zero_le _, rfl, rfl, Nat.le_refl _, Lib.hid (by simp [idsK]), Own.nil _ _ _ _ _, Lib.hid rfl, Below.refl _ _⟩
  case round =>
    obtain ⟨k, xs, A3, n3, c3, hk, rfl, rfl, hn3, HX, hO3, H3, hbl⟩ := hrel
    have hzl := hbl.size
    by_cases hk3 : k < 3
    · have hkI : (k : Int) < 3 := by omega
      have hb := bits16 n hn k hk3
      have hst := idsK_step n k
      rw [← HX.out] at hst
      obtain ⟨z, hz⟩ : ∃ z, n.testBit k = z := ⟨_, rfl⟩
      rw [hz] at hb hst
      have HST := Lib.hid hst
      clear hst hz
      cases z with
      | true =>
        have HS2 : Hid (xs ++ [(k : Int)] = idsK n (k + 1)) := Lib.hid (by rw [HST.out]; simp)
        go_wp2_with (at_builtin; refine wpList_pushI rfl (.tmp 14) (.tmp 16) rfl (hO3.alloc _) ((sat_noF _).alloc _) (by rfl) wr.heap.size 1 (k : Int) (by rfl) (Blk.new _ _ _) (by omega) (by simp; omega) ?_; intro v2 w2 hO2 hF2 hb2 hg2 hat2)
        rw [HS2.out] at hO2
        obtain ⟨A2, c2, rfl, hc2⟩ := hO2.shape
        have hS2 := (hbl.alloc hzl (.cells #[.int .i64 (k : Int)] 3)).trans hb2
        go_roundw
        case rel => exact ⟨k + 1, idsK n (k + 1), A2, n3 + 1, c2, by omega, by go_num, rfl, by omega, Lib.hid rfl, hO2, Lib.hid (by rw [H3.out, ← HS2.out]; simp), hS2⟩
        case measure => simp [intOf]; omega
      | false =>
        have HS2 : Hid (xs = idsK n (k + 1)) := Lib.hid (by rw [HST.out]; simp)
        go_wp2_with fail
        go_roundw
        case rel => exact ⟨k + 1, xs, A3, n3, c3, by omega, by go_num, rfl, by omega, HS2, hO3, H3, hbl⟩
        case measure => simp [intOf]; omega
    · obtain rfl : k = 3 := by omega
      have HL3 : Hid (n3 = (idsM n).length) := Lib.hid (by rw [H3.out, HX.out]; rfl)
      go_wp2_with fail
      go_ret
      obtain ⟨A5, c5, e5, hc5, hrd5⟩ := hO3.rdH
      injection e5 with e51 e52 e53
      subst e51 e53
      rw [HX.out] at hrd5
      exact ⟨A3, c3, by rw [← HL3.out]; rfl, by rw [← HL3.out]; exact hc5, by rw [← HL3.out]; exact hrd5, hbl, fun a ha => hO3.fresh a ha⟩
end Go.Proofs.Ytgmbicjcfhmcdaa
/-! Rows of events of the call's own; law 8's Make. -/
namespace Go.Proofs.Ytgmbicjcfhmcdaa
open Go.RowKit
attribute [local go_sem ↓] Go.wp_at_zero Go.wp_at_succ
def evC (xs : List (Nat × Value)) : List Value := xs.flatMap fun p => [.int .u64 (p.1 : Nat), p.2]
theorem evC_append (a b : List (Nat × Value)) : evC (a ++ b) = evC a ++ evC b := by simp [evC]
theorem get_evC : ∀ (ps : List (Nat × Value)) (j : Nat) (p : Nat × Value), ps[j]? = some p → (evC ps)[j * 2]? = some (.int .u64 (p.1 : Nat)) ∧ (evC ps)[j * 2 + 1]? = some p.2
  | [], j, p, h => by simp at h
  | q :: ps, 0, p, h => by
    simp at h
    subst h
    simp [evC]
  | q :: ps, j + 1, p, h => by
    have := get_evC ps j p (by simpa using h)
    rw [show evC (q :: ps) = .int .u64 (q.1 : Nat) :: q.2 :: evC ps from rfl, show (j + 1) * 2 = j * 2 + 1 + 1 by omega]
    exact this
/-- What an event's ids read as, apart from the row v. -/
def IdsAt (w : World) (B : Nat) (v : Value) (e : Evt) (p : Nat × Value) : Prop :=
  e.time < 18446744073709551616 ∧ ∃ Ai ci, p = (e.time, .slice Ai e.ids.length ci) ∧ e.ids.length ≤ ci ∧ Rd (heapF w) 1 Ai e.ids.length (e.ids.map (Value.int .i64)) ∧ (0 < e.ids.length → ∀ a, Ai = some a → B ≤ a.block ∧ v.ownBlock ≠ some a.block)
/-- A row of events of the call's own. -/
def OwnE (w : World) (B : Nat) (v : Value) (es : List Evt) : Prop := ∃ xs : List (Nat × Value), Own noF w B 31 2 v es.length (evC xs) ∧ xs.length = es.length ∧ ∀ (j : Nat) (e : Evt), es[j]? = some e → ∃ p, xs[j]? = some p ∧ IdsAt w B v e p
theorem rd_same {w w' : World} {A : Option Addr} {n : Nat} {xs : List Value} (h : Rd (heapF w) 1 A n xs) (hm : 0 < n → ∀ a, A = some a → w'.heap[a.block]? = w.heap[a.block]?) : Rd (heapF w') 1 A n xs := by
  refine ⟨h.1, fun h0 => ?_⟩
  obtain ⟨ad, e, hc⟩ := h.2 h0
  refine ⟨ad, e, fun j u hu => ?_⟩
  have := hc j u hu
  unfold Fz.cell heapF at this ⊢
  rw [block_of_add, hm h0 ad e]
  rwa [block_of_add] at this
namespace OwnE
variable {w w' : World} {B : Nat} {v : Value} {es : List Evt}
theorem nil (w : World) (B : Nat) : OwnE w B (.slice none 0 0) [] := ⟨[], Own.nil _ _ _ _ _, rfl, fun j e h => by simp at h⟩
theorem lt (h : OwnE w B v es) : ∀ g, v.ownBlock = some g → B ≤ g ∧ g < w.heap.size := let ⟨_, h1, _⟩ := h; h1.1.lt
theorem keep (h : OwnE w B v es) (hm : ∀ b, B ≤ b → b < w.heap.size → w'.heap[b]? = w.heap[b]?) : OwnE w' B v es := by
  have hl := h.lt
  obtain ⟨xs, h1, h2, h3⟩ := h
  refine ⟨xs, h1.same fun g hg => hm g (hl g hg).1 (hl g hg).2, h2, fun j e hj => ?_⟩
  obtain ⟨p, hp, ht, Ai, ci, e1, e2, e3, e4⟩ := h3 j e hj
  refine ⟨p, hp, ht, Ai, ci, e1, e2, rd_same e3 fun h0 a ha => hm _ (e4 h0 a ha).1 (rd_lt e3 h0 a ha), e4⟩
theorem call (h : OwnE w B v es) (hb : Below w.heap.size w w') : OwnE w' B v es := h.keep fun b _ hb2 => hb.block b hb2
theorem alloc (h : OwnE w B v es) (o : Obj) : OwnE (w.alloc o) B v es := h.call (balloc _ _)
theorem set (h : OwnE w B v es) {p : Addr} (hp : p.block < B) (u : Value) : OwnE (w.setCell p u) B v es := h.keep fun b h1 _ => Below.heap_setCell w p u b (by omega)
theorem shape (h : OwnE w B v es) : ∃ A c, v = .slice A es.length c ∧ es.length ≤ c := let ⟨_, h1, _⟩ := h; h1.shape
/-- It reads as its events. -/
theorem done (h : OwnE w B v es) : ∃ A c, v = .slice A es.length c ∧ es.length ≤ c ∧ EvsF (heapF w) A es.length es ∧ ∀ a, A = some a → B ≤ a.block := by
  have hl := h.lt
  obtain ⟨xs, h1, h2, h3⟩ := h
  obtain ⟨A, c, rfl, hc, hr⟩ := h1.rdH
  refine ⟨A, c, rfl, hc, ⟨rfl, fun h0 => ?_⟩, fun a ha => by subst ha; exact (hl a.block rfl).1⟩
  obtain ⟨ad, e, hr2⟩ := hr.2 h0
  refine ⟨ad, e, fun i hi => ?_⟩
  obtain ⟨p, hp, ht, Ai, ci, e1, e2, e3, _⟩ := h3 i es[i] (List.getElem?_eq_getElem hi)
  obtain ⟨g1, g2⟩ := get_evC xs i p hp
  rw [e1] at g1 g2
  exact ⟨ht, Ai, ci, e2, e3, hr2 _ _ g1, by rw [add_of_add]; exact hr2 _ _ g2⟩
end OwnE
theorem event_info : (Try.prog.info? 31).map (fun i => (i.zero, i.size, i.bytes)) = some (some (.agg #[.int .u64 0, .slice none 0 0]), 2, 32) := by kernel_rfl
theorem step_pushE {w : World} {ops : Array Oper} {o : Oper} {a : Act} {K : Act → World → Prop} {Q : Exit → Act → World → Prop} {E : Prop} (hgd : o.guard = none) (s x : Operand)
    (ho : o.op = .call { callee := .builtin .append, args := #[s, x], argTypes := #[25, 25] })
    {B : Nat} {v : Value} {es : List Evt} (hown : OwnE w B v es) (hs : a.eval s = v)
    (e : Evt) (he : e.time < 18446744073709551616) (Ai : Option Addr) (ci : Nat) (hci : e.ids.length ≤ ci) (hri : Rd (heapF w) 1 Ai e.ids.length (e.ids.map (Value.int .i64))) (hfr : 0 < e.ids.length → ∀ a, Ai = some a → B ≤ a.block ∧ v.ownBlock ≠ some a.block)
    (g c : Nat) (hx : a.eval x = .slice (some ⟨g, 0, none⟩) 1 c) (hg : Blk w g 31 #[.int .u64 (e.time : Nat), .slice Ai e.ids.length ci]) (hn : es.length + 1 ≤ 1000000) (hB : B ≤ w.heap.size)
    (h : ∀ v' w', OwnE w' B v' (es ++ [e]) → Below B w w' → w.grownBy w' v.ownBlock → (v'.ownBlock = v.ownBlock ∨ v'.ownBlock = some w.heap.size) → K (a.put o.dst v') w') :
    if Region.wanted o (yielded ops a.tmps) = true then Oper.wp Try.prog o a w K Q else E := by
  obtain ⟨xs, h1, h2, h3⟩ := hown
  have hr : Rd (heapF w) 2 (some ⟨g, 0, none⟩) 1 [.int .u64 (e.time : Nat), .slice Ai e.ids.length ci] := by
    refine ⟨rfl, fun _ => ⟨_, rfl, fun j u hu => ?_⟩⟩
    rw [add_lit0]
    unfold Fz.cell heapF
    rw [hg]
    simpa using hu
  refine step_pushAll hgd s x _ ho 31 _ 2 32 Try.underlying25 event_info rfl (by omega) h1 (sat_noF w) hs _ 1 c _ hx (sat_heapF w) hr (fun u hu => by
    simp at hu
    rcases hu with rfl | rfl <;> rfl) (by simp [maxLen]; omega) (by omega) hB ?_
  intro v' w' h4 _ h6 h7 h8
  -- an elder row of ids stays
  have old : ∀ (e' : Evt) (p : Nat × Value), IdsAt w B v e' p → IdsAt w' B v' e' p := fun e' p ⟨ht, Ai', ci', e1, e2, e3, e4⟩ => by
    refine ⟨ht, Ai', ci', e1, e2, rd_same e3 fun h0 a ha => h7.block _ (rd_lt e3 h0 a ha) (fun q => (e4 h0 a ha).2 q.symm), fun h0 a ha => ⟨(e4 h0 a ha).1, fun hv => ?_⟩⟩
    rcases h8 with q | q
    · exact (e4 h0 a ha).2 (q ▸ hv)
    · rw [q] at hv
      injection hv with hv
      have := rd_lt e3 h0 a ha
      omega
  refine h v' w' ⟨xs ++ [(e.time, .slice Ai e.ids.length ci)], by rw [evC_append, List.length_append]; exact h4, by simp [h2], fun j e' hj => ?_⟩ h6 h7 h8
  by_cases hl : j < es.length
  · rw [List.getElem?_append_left hl] at hj
    obtain ⟨p, hp, hi⟩ := h3 j e' hj
    exact ⟨p, by rw [List.getElem?_append_left (by omega)]; exact hp, old e' p hi⟩
  · rw [List.getElem?_append_right (by omega)] at hj
    have hj0 : j - es.length = 0 := by
      have := (List.getElem?_eq_some_iff.1 hj).1
      simp at this
      omega
    rw [hj0] at hj
    simp only [List.getElem?_cons_zero, Option.some.injEq] at hj
    subst hj
    exact ⟨_, by rw [List.getElem?_append_right (by omega), show j - xs.length = 0 by omega]; rfl, old _ _ ⟨he, Ai, ci, rfl, hci, hri, hfr⟩⟩
theorem Wr.bel {Gs : List Nat} {w w' w'' : World} (h : Wr Gs w w') (hb : Below w.heap.size w' w'') : Wr Gs w w'' :=
  ⟨hb.os.trans h.os, hb.tape.trans h.tape, hb.output.trans h.output, Nat.le_trans h.size hb.size, fun b h1 h2 => (hb.block b h1).trans (h.block b h1 h2)⟩
abbrev enc16 (k : Nat) : Value := .int .u16 (k : Int)
theorem min_u64 (s : Nat) : ∃ t, t = min s 9223372036854775808 ∧ t ≤ 9223372036854775808 := ⟨_, rfl, by omega⟩
/-- As RetTr, the names in a block of their own. -/
def RetTrN (w : World) (es : List Evt) (e : Ending) (w' : World) : Prop :=
  ∃ ve B, e = .returned (.agg #[.slice (some ⟨w.heap.size + 1, 0, none⟩) 3 3, ve]) ∧ Blk w' (w.heap.size + 1) 9 #[.string ⟨#[112]⟩, .string ⟨#[113]⟩, .string ⟨#[114]⟩] ∧ OwnE w' B ve es ∧ w.heap.size + 1 < B ∧ Below w.heap.size w w'
set_option maxRecDepth 100000 in
set_option maxHeartbeats 1000000 in
theorem mk8n_w {F : Fz} {w : World} (hF : Sat F w) (s : Nat) (hs : s < 18446744073709551616) (ns : List Nat) (hns : ∀ k ∈ ns, k < 65536) (A : Option Addr) (n c : Nat) (hr : Rd F 1 A n (ns.map enc16)) :
    Calls Try.prog 33 #[.int .u64 (s : Nat), .slice A n c] w (RetTrN w (evM (min s 9223372036854775808) (ns.take 60))) := by
  have hnl : n = ns.length := by have := hr.1; simpa using this.symm
  obtain ⟨t0, ht0, ht1⟩ := min_u64 s
  rw [← ht0]
  have hI := fun (X : World) (k : Nat) (hk : k < 8) => ids8_w (w := X) k hk
  obtain ⟨N, hN⟩ : ∃ N, N = ((w.alloc (.cells #[.slice none 0 0, .slice none 0 0] 27)).alloc (.cells #[.string ⟨#[112]⟩, .string ⟨#[113]⟩, .string ⟨#[114]⟩] 9)).alloc (.cells #[.slice (some ⟨w.heap.size + 1, 0, none⟩) 3 3, .slice none 0 0] 27) := ⟨_, rfl⟩
  have hbN : Below w.heap.size w N := hN ▸ (((balloc _ _).alloc (by simp) _).alloc (by simp; omega) _)
  have hzN : N.heap.size = w.heap.size + 3 := by rw [hN]; simp
  have hR0 : Blk N w.heap.size 27 #[.slice none 0 0, .slice none 0 0] := hN ▸ (((Blk.new _ _ _).alloc _).alloc _)
  have hR1 : Blk N (w.heap.size + 1) 9 #[.string ⟨#[112]⟩, .string ⟨#[113]⟩, .string ⟨#[114]⟩] := hN ▸ ((Blk.new2 _ _ _ _).alloc _)
  have hR2 : Blk N (w.heap.size + 1 + 1) 27 #[.slice (some ⟨w.heap.size + 1, 0, none⟩) 3 3, .slice none 0 0] := hN ▸ blk3n _ _ _ _ _
  have hmn : min (s : Int) 9223372036854775808 = (t0 : Int) := by rw [ht0]; omega
  have HT0 := Lib.hid ht0
  have HNL := Lib.hid hnl
  have HNS := Lib.hid hns
  have HN := Lib.hid hN
  have HFN := Lib.hid (hF.below hbN)
  clear ht0 hnl hns hN
  go_enter Try.func33, Try.ntmps33
  go_wp2_with fail
  rw [← HN.out]
  go_loopw [6, 7, 8, 9, 16] (fun v6 _ _ _ v16 wr => ∃ (m : Nat) (ve : Value), m ≤ n ∧ m ≤ 60 ∧ v16 = .int .i64 m ∧ v6 = .int .u64 (nowM t0 (ns.take m) : Nat) ∧ Blk wr (w.heap.size + 1 + 1) 27 #[.slice (some ⟨w.heap.size + 1, 0, none⟩) 3 3, ve] ∧ OwnE wr (w.heap.size + 3) ve (evM t0 (ns.take m)) ∧ Wr [w.heap.size + 1 + 1] N wr) (fun _ _ _ _ v16 _ => n - (intOf v16).toNat)
  case atStart => exact ⟨0, .slice none 0 0, Nat.zero_le _, by omega, rfl, by simp [nowM], hR2, by simpa [evM] using OwnE.nil N _, .refl _ _⟩
  case round =>
    obtain ⟨m, ve, hm, hm60, rfl, rfl, hB, hO, hwr⟩ := hrel
    have hzr := hwr.size
    have hFr : Sat F wr := hF.below (hbN.trans (hwr.below (fun g hg => by simp at hg; omega) hbN.size))
    by_cases hmn : m < n
    · have hmI : (m : Int) < (n : Int) := by omega
      have hml : m < ns.length := by rw [← HNL.out]; exact hmn
      obtain ⟨ad, u0, rfl, hu0, hc0⟩ := hr.at1 hmn
      have hk0 : (ns.map enc16)[m]? = some (.int .u16 ((ns[m] : Nat) : Int)) := by simp [hml]
      rw [hk0] at hu0
      injection hu0 with hu0
      subst hu0
      have hz0 := hFr.cell hc0
      have hkb := HNS.out _ (List.getElem_mem hml)
      have htk : (ns.take 60).length = min 60 n := by rw [List.length_take, HNL.out]
      have hst : ns.take (m + 1) = ns.take m ++ [ns[m]] := List.take_succ_eq_append_getElem hml
      generalize ns[m] = k at *
      by_cases h60 : m = 60
      · have g60 : ((m : Int) == 60) = true := by rw [h60]; rfl
        have hTK : ns.take 60 = ns.take m := by rw [h60]
        clear hst hk0 hc0 htk hm60 h60
        have hR0' := hwr.blk hR0 (by simp; omega)
        have hR1' := hwr.blk hR1 (by simp)
        obtain ⟨k0, k1, k2, k3⟩ := blkA hB
        obtain ⟨q0, q1, q2, q3⟩ := blkA hR0'
        have hbl : Below w.heap.size w wr := hbN.trans (hwr.below (fun g hg => by simp at hg; omega) hbN.size)
        have hbl2 := (hbl.setCell (p := ⟨w.heap.size, 0, none⟩) (Nat.le_refl _) (.slice (some ⟨w.heap.size + 1, 0, none⟩) 3 3)).setCell (p := ⟨w.heap.size, 1, none⟩) (Nat.le_refl _) ve
        have hO2 := (hO.set (p := ⟨w.heap.size, 0, none⟩) (by show w.heap.size < w.heap.size + 3; omega) (.slice (some ⟨w.heap.size + 1, 0, none⟩) 3 3)).set (p := ⟨w.heap.size, 1, none⟩) (by show w.heap.size < w.heap.size + 3; omega) ve
        have hN2 := ((hR1'.far (p := ⟨w.heap.size, 0, none⟩) (by show w.heap.size + 1 ≠ w.heap.size; omega) (.slice (some ⟨w.heap.size + 1, 0, none⟩) 3 3)).far (p := ⟨w.heap.size, 1, none⟩) (by show w.heap.size + 1 ≠ w.heap.size; omega) ve)
        obtain ⟨Av, cv, hv, _⟩ := hO.shape
        obtain ⟨Lv, hLv⟩ : ∃ Lv, (evM t0 (ns.take m)).length = Lv := ⟨_, rfl⟩
        rw [hLv] at hv
        subst hv
        rw [← hTK] at hO2
        have HFIN := Lib.hid (And.intro hbl2 (And.intro hO2 hN2))
        clear hbl2 hO2 hN2 hTK hLv hR0' hR1' hB hO hwr
        go_wp2_with fail
        exact bodyPost_ret (v := .agg #[.slice (some ⟨w.heap.size + 1, 0, none⟩) 3 3, .slice Av Lv cv]) (by simp [results, Try.results33, go_sem, k0, k1, q0, q1]) rfl ⟨.slice Av Lv cv, w.heap.size + 3, rfl, HFIN.out.2.2, HFIN.out.2.1, by omega, HFIN.out.1⟩
      · have g60 : ((m : Int) == 60) = false := by rw [beq_eq_false_iff_ne]; omega
        have HST := Lib.hid hst
        clear hst hk0 hc0 htk
        obtain ⟨a8, ha8⟩ : ∃ a8, k / 8 = a8 := ⟨_, rfl⟩
        obtain ⟨b4, hb4⟩ : ∃ b4, a8 % 4 = b4 := ⟨_, rfl⟩
        obtain ⟨c32, hc32⟩ : ∃ c32, k / 32 = c32 := ⟨_, rfl⟩
        obtain ⟨d32, hd32⟩ : ∃ d32, c32 % 32 = d32 := ⟨_, rfl⟩
        obtain ⟨r8, hr8⟩ : ∃ r8, k % 8 = r8 := ⟨_, rfl⟩
        have e1 : (k : Int) / 8 = (a8 : Int) := by omega
        have e2 : (a8 : Int) % 4 = (b4 : Int) := by omega
        have e3 : (k : Int) / 32 = (c32 : Int) := by omega
        have e4 : (c32 : Int) % 32 = (d32 : Int) := by omega
        have e5 : (k : Int) % 8 = (r8 : Int) := by omega
        have hr8b : r8 < 8 := by omega
        have hb4b : b4 < 4 := by omega
        have ha8b : a8 < 8192 := by omega
        have hc32b : c32 < 2048 := by omega
        have hd32b : d32 < 32 := by omega
        obtain ⟨G, hG⟩ : ∃ G, gapM k = G := ⟨_, rfl⟩
        have HG := Lib.hid hG
        have hGG := hG
        unfold gapM at hGG
        rw [ha8, hb4, hc32, hd32] at hGG
        clear ha8 hb4 hc32 hd32 hG
        obtain ⟨now, hnow⟩ : ∃ now, nowM t0 (ns.take m) = now := ⟨_, rfl⟩
        rw [hnow]
        have HNOW := Lib.hid hnow
        clear hnow
        have HR8 := Lib.hid hr8
        clear hr8
        go_upto_region 7 with fail
        go_cut [9] from 23 to 27 (fun v9 wx => v9 = .int .u64 (b4 : Nat) ∧ wr = wx)
        case first =>
          clear hGG
          go_wp2_with fail
          go_meet
          exact ⟨rfl, rfl⟩
        case rest =>
          obtain ⟨rfl, rfl⟩ := hcut
          go_step
          go_step
          go_cut [9] from 27 to 35 (fun v9 wx => v9 = .int .u64 (G : Nat) ∧ wr = wx)
          case first =>
            by_cases h65 : 65000 ≤ k
            · have d1 : (65000 : Int) ≤ (k : Int) := by omega
              rw [if_pos h65] at hGG
              go_wp2_with fail
              go_meet
              exact ⟨by rw [← hGG]; rfl, rfl⟩
            · have d1 : decide ((65000 : Int) ≤ (k : Int)) = false := decide_eq_false (by omega)
              rw [if_neg h65] at hGG
              by_cases h31 : d32 = 31
              · have d2 : ((d32 : Int) == 31) = true := by rw [h31]; rfl
                rw [if_pos h31] at hGG
                go_wp2_with fail
                go_meet
                exact ⟨by rw [← hGG]; rfl, rfl⟩
              · have d2 : ((d32 : Int) == 31) = false := by rw [beq_eq_false_iff_ne]; omega
                rw [if_neg h31] at hGG
                go_wp2_with fail
                go_meet
                exact ⟨by rw [← hGG], rfl⟩
          case rest =>
            obtain ⟨rfl, rfl⟩ := hcut
            clear hGG
            have hGb : G ≤ 1125899906842624 := by have := gapM_le k; rw [HG.out] at this; exact this
            have hnb : now ≤ 9223372036854775808 + 60 * 1125899906842624 := by
              have h1 := nowM_le t0 (ns.take m)
              rw [HNOW.out, List.length_take] at h1
              have h2 : min m ns.length * 1125899906842624 ≤ 60 * 1125899906842624 := Nat.mul_le_mul_right _ (by omega)
              omega
            obtain ⟨now2, hnow2⟩ : ∃ now2, now2 = now + G := ⟨_, rfl⟩
            have hn2b : now2 < 18446744073709551616 := by omega
            have hwrap : IntKind.u64.wrap ((now : Int) + (G : Int)) = (now2 : Int) := by rw [wrap_u64 (by omega) (by omega)]; omega
            have HN2 : Hid (nowM t0 (ns.take (m + 1)) = now2) := Lib.hid (by rw [HST.out, nowM_snoc, HNOW.out, HG.out, hnow2])
            have HEV : Hid (evM t0 (ns.take m) ++ [⟨now2, idsM r8⟩] = evM t0 (ns.take (m + 1))) := Lib.hid (by rw [HST.out, evM_snoc, HNOW.out, HG.out, hnow2, HR8.out])
            obtain ⟨es, hes⟩ : ∃ es, evM t0 (ns.take m) = es := ⟨_, rfl⟩
            have hel : es.length ≤ 60 := by rw [← hes, length_evM, List.length_take]; omega
            rw [hes] at hO HEV
            obtain ⟨Ae, ce, rfl, hce⟩ := hO.shape
            have hOl := hO.lt
            obtain ⟨k0, k1, k2, k3⟩ := blkA hB
            obtain ⟨es2, hes2⟩ : ∃ es2, evM t0 (ns.take (m + 1)) = es2 := ⟨_, rfl⟩
            obtain ⟨L2, hL2⟩ : ∃ L2, es2.length = L2 := ⟨_, rfl⟩
            rw [hes2] at HEV
            have HES2 := Lib.hid hes2
            have HL2 := Lib.hid hL2
            clear hes2 hL2
            have hidl := idsM_len r8
            obtain ⟨ids, hids⟩ : ∃ ids, idsM r8 = ids := ⟨_, rfl⟩
            have HI8 := Lib.hid (fun X => hI X r8 hr8b)
            have HT5 : Hid ((k : Int).tmod 8 = (r8 : Int)) := Lib.hid (by rw [Int.tmod_eq_emod_of_nonneg (by omega)]; exact e5)
            rw [hids] at hidl HEV HI8
            obtain ⟨L, hL⟩ : ∃ L, es.length = L := ⟨_, rfl⟩
            rw [hL] at k1 hOl hce hel hB
            have HL := Lib.hid hL
            have HO := Lib.hid hO
            have HB := Lib.hid hB
            have hzr2 : w.heap.size + 3 ≤ wr.heap.size := by omega
            clear hnow2 hes hids hnb hGb hL hO hB HG HNOW HST hI
            go_wp2_with fail
            go_region_law (first
              | (go_simp; go_at_call 44; rw [HT5.out]; refine (HI8.out _).mono ?_; rintro e w2 ⟨A2, c2, rfl, hc2, hr2, hb2', hf2⟩; have hb2 : Below wr.heap.size wr w2 := (by refine bel_trans ?_ hb2'; exact bel_eqv (Below.refl _ wr) rfl rfl rfl rfl); have hz2 := hb2.size; have hgt2 : w.heap.size + 1 + 1 < w2.heap.size := (by omega); obtain ⟨k0, k1, k2, k3⟩ := blkA (HB.out.call hb2))
              | (refine step_pushE rfl (.tmp 39) (.tmp 45) (by rfl) (B := w.heap.size + 3) (v := .slice Ae L ce) (es := es) ((by have := HO.out.call hb2; rw [HL.out] at this; exact this.alloc _)) (by rfl) ⟨now2, ids⟩ hn2b A2 c2 hc2 (rd_call hr2 (balloc _ _)) (fun h0 a ha => ⟨by have h1 : wr.heap.size ≤ a.block := hf2 a ha; show w.heap.size + 3 ≤ a.block; omega, fun q => by have h1 : wr.heap.size ≤ a.block := hf2 a ha; have := (hOl _ q).2; omega⟩) _ 1 (by rfl) (Blk.new w2 _ _) (by rw [HL.out]; omega) (by simp; omega) ?_; intro v4 w4 hO4 hb4 hg4' hat4; rw [HEV.out] at hO4; obtain ⟨A4, c4, hv4, hc4⟩ := hO4.shape; rw [HL2.out] at hv4 hc4; subst hv4; have hg4 : (w2.alloc (.cells #[.int .u64 (now2 : Nat), .slice A2 ids.length c2] 31)).grownBy w4 _ := gb_src hg4' rfl rfl rfl rfl; have hBw := ((HB.out.call hb2).alloc _).grown hg4 (fun e => by have := (hOl _ e.symm).1; omega); obtain ⟨k0, k1, k2, k3⟩ := blkA hBw))
            all_goals
              have hB5 := hBw.set_ 1 (.slice A4 L2 c4)
              have hO5 := hO4.set (p := ⟨w.heap.size + 1 + 1, 1, none⟩) (by show w.heap.size + 1 + 1 < w.heap.size + 3; omega) (.slice A4 L2 c4)
              have hb24 : Below (w.heap.size + 3) wr w4 := (by refine Below.trans ?_ hb4; exact bel_eqv ((hb2.mono hzr2).alloc (by omega) _) rfl rfl rfl rfl)
              have hw5 := (hwr.bel (by rw [hzN]; exact hb24)).set (g := w.heap.size + 1 + 1) (by simp) 1 (.slice A4 L2 c4)
              rw [← HES2.out] at hO5
              go_wp2_with fail
              go_roundw
              case rel => exact ⟨m + 1, .slice A4 L2 c4, by omega, by omega, by go_num, by rw [HN2.out], hB5, hO5, hw5⟩
              case measure => simp [intOf]; omega
    · obtain rfl : m = n := by omega
      have hdec : decide ((m : Int) < (m : Int)) = false := decide_eq_false (by omega)
      have hTK : ns.take 60 = ns.take m := by
        rw [HNL.out, List.take_length, List.take_of_length_le (by have := HNL.out; omega)]
      have hR0' := hwr.blk hR0 (by simp; omega)
      have hR1' := hwr.blk hR1 (by simp)
      obtain ⟨k0, k1, k2, k3⟩ := blkA hB
      obtain ⟨q0, q1, q2, q3⟩ := blkA hR0'
      have hbl : Below w.heap.size w wr := hbN.trans (hwr.below (fun g hg => by simp at hg; omega) hbN.size)
      have hbl2 := (hbl.setCell (p := ⟨w.heap.size, 0, none⟩) (Nat.le_refl _) (.slice (some ⟨w.heap.size + 1, 0, none⟩) 3 3)).setCell (p := ⟨w.heap.size, 1, none⟩) (Nat.le_refl _) ve
      have hO2 := (hO.set (p := ⟨w.heap.size, 0, none⟩) (by show w.heap.size < w.heap.size + 3; omega) (.slice (some ⟨w.heap.size + 1, 0, none⟩) 3 3)).set (p := ⟨w.heap.size, 1, none⟩) (by show w.heap.size < w.heap.size + 3; omega) ve
      have hN2 := ((hR1'.far (p := ⟨w.heap.size, 0, none⟩) (by show w.heap.size + 1 ≠ w.heap.size; omega) (.slice (some ⟨w.heap.size + 1, 0, none⟩) 3 3)).far (p := ⟨w.heap.size, 1, none⟩) (by show w.heap.size + 1 ≠ w.heap.size; omega) ve)
      obtain ⟨Av, cv, hv, _⟩ := hO.shape
      obtain ⟨Lv, hLv⟩ : ∃ Lv, (evM t0 (ns.take m)).length = Lv := ⟨_, rfl⟩
      rw [hLv] at hv
      subst hv
      rw [← hTK] at hO2
      have HFIN := Lib.hid (And.intro hbl2 (And.intro hO2 hN2))
      clear hbl2 hO2 hN2 hTK hLv hR0' hR1' hB hO hwr
      go_wp2_with fail
      exact bodyPost_ret (v := .agg #[.slice (some ⟨w.heap.size + 1, 0, none⟩) 3 3, .slice Av Lv cv]) (by simp [results, Try.results33, go_sem, k0, k1, q0, q1]) rfl ⟨.slice Av Lv cv, w.heap.size + 3, rfl, HFIN.out.2.2, HFIN.out.2.1, by omega, HFIN.out.1⟩
end Go.Proofs.Ytgmbicjcfhmcdaa
