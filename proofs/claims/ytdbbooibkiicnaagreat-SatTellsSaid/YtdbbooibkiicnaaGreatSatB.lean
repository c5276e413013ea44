/- Words that tell which tests hold: plain lemmas for sat's ways. -/
import Derived.Test.YtdbbooibkiicnaaGreatSatY
import Derived.Test.YtdbbooibkiicnaaGreatTab1
import Derived.Test.YtdbbooibkiicnaaGreatSatM
import Derived.Test.YtdbbooibkiicnaaGreatSizes
import Derived.Test.YtdbbooibkiicnaaGreatLex2
import Derived.Test.YtdbbooibkiicnaaGreatPlanB
set_option linter.unusedVariables false
set_option linter.unusedSimpArgs false
/-! Words that tell which tests hold: plain lemmas for sat's ways. -/
namespace Go.Proofs.YtdbbooibkiicnaaGreat
/-- L words whose bits are p. -/
def setW (L : Nat) (p : Nat → Bool) : List (BitVec 64) := (List.range L).map fun i => wordOf fun b => p (64 * i + b)
theorem length_setW (L : Nat) (p : Nat → Bool) : (setW L p).length = L := by simp [setW]
theorem bit_setW (L : Nat) (p : Nat → Bool) (x : Nat) : bitAt (setW L p) x = (decide (x < 64 * L) && p x) := by
  unfold bitAt
  by_cases h : x / 64 < L
  · have e : (setW L p).getD (x / 64) 0#64 = wordOf fun b => p (64 * (x / 64) + b) := by simp [setW, List.getD, h]
    rw [e, get_wordOf _ _ (Nat.mod_lt _ (by omega)), show 64 * (x / 64) + x % 64 = x by omega, decide_eq_true (by omega), Bool.true_and]
  · have e : (setW L p).getD (x / 64) 0#64 = 0#64 := by simp [setW, List.getD, List.getElem?_eq_none (l := List.range L) (i := x / 64) (by simp; omega)]
    rw [e, decide_eq_false (by omega)]
    simp
theorem setW_congr {L : Nat} {p q : Nat → Bool} (h : ∀ x, x < 64 * L → p x = q x) : setW L p = setW L q := by
  apply words_ext (by simp [length_setW])
  intro x hx
  rw [length_setW] at hx
  rw [bit_setW, bit_setW, h x hx]
theorem setW_zero (L : Nat) : List.replicate L 0#64 = setW L fun _ => false := by
  apply words_ext (by simp [length_setW])
  intro x hx
  rw [bit_setW]
  unfold bitAt
  simp [List.getD, List.getElem?_replicate]
  split <;> simp
theorem setW_step (L : Nat) (p : Nat → Bool) (k : Nat) (hk : k / 64 < L) : (setW L p).set (k / 64) ((setW L p).getD (k / 64) 0#64 ||| 1#64 <<< (k % 64)) = setW L fun x => p x || decide (x = k) := by
  have hl : k / 64 < (setW L p).length := by rw [length_setW]; exact hk
  apply words_ext (by simp [length_setW])
  intro x hx
  rw [List.length_set, length_setW] at hx
  rw [bitAt_set _ _ hl, bit_setW]
  by_cases hi : x / 64 = k / 64
  · rw [if_pos hi, BitVec.getLsbD_or, get_shl_one _ _ (Nat.mod_lt _ (by omega))]
    have e : ((setW L p).getD (k / 64) 0#64).getLsbD (x % 64) = bitAt (setW L p) x := by unfold bitAt; rw [hi]
    rw [e, bit_setW, bit_setW, decide_eq_true hx, Bool.true_and, Bool.true_and]
    congr 1
    rw [decide_eq_decide]
    omega
  · rw [if_neg hi, bit_setW, decide_eq_true hx, Bool.true_and, Bool.true_and, decide_eq_false (show ¬ x = k by omega), Bool.or_false]
end Go.Proofs.YtdbbooibkiicnaaGreat
/-! The walks of package trace: names, ids, what may be, what holds. -/
namespace Go.Proofs.YtdbbooibkiicnaaGreat
open Go.RowKit
/-- The first of m places from i on where p is so; none: -1. -/
def firstI (p : Nat → Bool) : Nat → Nat → Int
  | 0, _ => -1
  | m + 1, i => if p i = true then (i : Int) else firstI p m (i + 1)
def idxS (ss : List ByteArray) (x : ByteArray) : Int := firstI (fun i => decide (ss[i]? = some x)) ss.length 0
def idxZ (zs : List Int) (x : Int) : Int := firstI (fun i => decide (zs[i]? = some x)) zs.length 0
set_option maxRecDepth 100000 in
theorem indexS_w {F : Fz} {w : World} (hF : Sat F w) (ss : List ByteArray) (A : Option Addr) (n c : Nat) (hn : n ≤ 1000000) (hr : Rd F 1 A n (ss.map Value.string)) (x : ByteArray) (R : Int) (hR : idxS ss x = R) :
    Calls Tryz.prog 123 #[.slice A n c, .string x] w fun e w' => e = .returned (.int .i64 R) ∧ w = w' := by
  have hl : ss.length = n := by have := hr.1; simp at this; omega
  unfold idxS at hR
  rw [hl] at hR
  have HL := Lib.hid hl
  have HR := Lib.hid hR
  clear hl hR
  go_enter Tryz.func123, Tryz.ntmps123
  go_wp2_with fail
  go_loop [5, 8] (fun _ v8 => ∃ j : Nat, j ≤ n ∧ v8 = .int .i64 j ∧ firstI (fun i => decide (ss[i]? = some x)) (n - j) j = R) (fun _ v8 => n - (intOf v8).toNat)
  case atStart => exact ⟨0, Nat.zero_le _, rfl, HR.out⟩
  case round =>
    obtain ⟨j, hj, rfl, hf⟩ := hrel
    by_cases hlt : j < n
    · have hjI : (j : Int) < (n : Int) := by omega
      obtain ⟨ad, v, rfl, hv, hc⟩ := hr.at1 hlt
      obtain ⟨s, hs⟩ : ∃ s, ss[j]? = some s := ⟨_, List.getElem?_eq_getElem (by have := HL.out; omega)⟩
      obtain rfl : Value.string s = v := by simpa [hs] using hv
      have hcw := hF.cell hc
      obtain ⟨m, hm⟩ : ∃ m, n - j = m + 1 := ⟨n - j - 1, by omega⟩
      have HM : Hid (n - (j + 1) = m) := Lib.hid (by omega)
      rw [hm] at hf
      unfold firstI at hf
      rw [hs] at hf
      clear hm hv hs hc
      by_cases e : x = s
      · subst e
        rw [if_pos (by simp)] at hf
        subst hf
        clear hr HR
        go_wp2_with fail
        go_ret
        exact ⟨rfl, rfl⟩
      · have hb : (x.toList == s.toList) = false := (eqS_false _ _).2 (fun h => e h)
        rw [if_neg (by simp; exact fun h => e h.symm)] at hf
        have HF := Lib.hid hf
        clear hf e
        go_wp2_with fail
        go_round
        case rel => exact ⟨j + 1, by omega, by go_num, by rw [HM.out]; exact HF.out⟩
        case measure => simp [intOf]; omega
    · obtain rfl : j = n := by omega
      have hdec : decide ((j : Int) < (j : Int)) = false := decide_eq_false (by omega)
      rw [Nat.sub_self] at hf
      obtain rfl : -1 = R := hf
      go_wp2_with fail
      go_ret
      exact ⟨rfl, rfl⟩
theorem firstI_neg {p : Nat → Bool} : ∀ {m i : Nat}, (0 ≤ firstI p m i ↔ ∃ j, i ≤ j ∧ j < i + m ∧ p j = true)
  | 0, i => by unfold firstI; constructor
               · intro h; omega
               · rintro ⟨j, h1, h2, _⟩; omega
  | m + 1, i => by
    unfold firstI
    split
    · rename_i h
      exact ⟨fun _ => ⟨i, Nat.le_refl _, by omega, h⟩, fun _ => by omega⟩
    · rename_i h
      rw [firstI_neg]
      constructor
      · rintro ⟨j, h1, h2, h3⟩; exact ⟨j, by omega, by omega, h3⟩
      · rintro ⟨j, h1, h2, h3⟩
        refine ⟨j, ?_, by omega, h3⟩
        rcases Nat.lt_or_ge i j with h4 | h4
        · exact h4
        · obtain rfl : j = i := by omega
          exact absurd h3 h
theorem idxS_mem {ss : List ByteArray} {x : ByteArray} : 0 ≤ idxS ss x ↔ x ∈ ss := by
  unfold idxS
  rw [firstI_neg]
  constructor
  · rintro ⟨j, _, _, h⟩
    exact List.mem_of_getElem? (decide_eq_true_iff.1 h)
  · intro h
    obtain ⟨j, hj⟩ := List.getElem?_of_mem h
    exact ⟨j, Nat.zero_le _, by have := (List.getElem?_eq_some_iff.1 hj).1; omega, decide_eq_true hj⟩
set_option maxRecDepth 100000 in
theorem containsS_w {F : Fz} {w : World} (hF : Sat F w) (ss : List ByteArray) (A : Option Addr) (n c : Nat) (hn : n ≤ 1000000) (hr : Rd F 1 A n (ss.map Value.string)) (x : ByteArray) (R : Bool) (hR : hasS ss x = R) :
    Calls Tryz.prog 112 #[.slice A n c, .string x] w fun e w' => e = .returned (.bool R) ∧ w = w' := by
  obtain ⟨K, hK⟩ : ∃ K, idxS ss x = K := ⟨_, rfl⟩
  have HI := Lib.hid (indexS_w hF ss A n c hn hr x K hK)
  have HR : Hid (decide (0 ≤ K) = R) := Lib.hid (by
    rw [← hR, ← hK]
    cases h : hasS ss x
    · exact decide_eq_false (fun h2 => (hasS_false _ _).1 h (idxS_mem.1 h2))
    · exact decide_eq_true (idxS_mem.2 ((hasS_iff _ _).1 h)))
  clear hr hR hK
  go_enter Tryz.func112, Tryz.ntmps112
  go_wp2_with (go_at_call 123; refine HI.out.mono ?_; rintro e w' ⟨rfl, rfl⟩)
  go_ret
  exact ⟨by rw [← HR.out]; rfl, rfl⟩
/-- All of m places from i on are so. -/
def allI (p : Nat → Bool) : Nat → Nat → Bool
  | 0, _ => true
  | m + 1, i => p i && allI p m (i + 1)
theorem rd_take {F : Fz} {A : Option Addr} {n k : Nat} {xs : List Value} (h : Rd F 1 A n xs) (hk : k ≤ n) : Rd F 1 A k (xs.take k) := by
  have hl := h.1
  refine ⟨by rw [List.length_take]; omega, fun h0 => ?_⟩
  obtain ⟨ad, e, hc⟩ := h.2 (by omega)
  refine ⟨ad, e, fun j u hu => hc j u ?_⟩
  rw [List.getElem?_take] at hu
  split at hu
  · exact hu
  · cases hu
def nameAt (ss : List ByteArray) (i : Nat) : Bool := match ss[i]? with | some s => nameS s.data.toList && !hasS (ss.take i) s | none => true
/-- May these be a log's names? -/
def namesOk (ss : List ByteArray) : Bool := decide (ss.length ≤ 64) && allI (nameAt ss) ss.length 0
set_option maxRecDepth 100000 in
set_option maxHeartbeats 1000000 in
theorem names_w {F : Fz} {w : World} (hF : Sat F w) (ss : List ByteArray) (A : Option Addr) (n c : Nat) (hc : n ≤ c) (hr : Rd F 1 A n (ss.map Value.string)) (R : Bool) (hR : namesOk ss = R) :
    Calls Tryz.prog 76 #[.slice A n c] w fun e w' => e = .returned (.bool R) ∧ Below w.heap.size w w' := by
  have hl : ss.length = n := by have := hr.1; simp at this; omega
  unfold namesOk at hR
  rw [hl] at hR
  by_cases hbig : 64 < n
  · rw [decide_eq_false (by omega)] at hR
    obtain rfl : false = R := hR
    have hI : (64 : Int) < (n : Int) := by omega
    clear hr hl
    go_enter Tryz.func76, Tryz.ntmps76
    go_wp2_with fail
    go_ret
    exact ⟨rfl, Below.refl _ _⟩
  rw [decide_eq_true (by omega), Bool.true_and] at hR
  have hI : decide ((64 : Int) < (n : Int)) = false := decide_eq_false (by omega)
  have hI2 : decide (64 < n) = false := decide_eq_false hbig
  have hnb : n ≤ 64 := by omega
  have HL := Lib.hid hl
  have HR := Lib.hid hR
  have HRd := Lib.hid hr
  clear hl hR hbig
  go_enter Tryz.func76, Tryz.ntmps76
  go_wp2_with fail
  go_loopw [3, 4, 10] (fun _ _ v10 wr => ∃ j : Nat, j ≤ n ∧ v10 = .int .i64 j ∧ allI (nameAt ss) (n - j) j = R ∧ Below w.heap.size w wr) (fun _ _ v10 _ => n - (intOf v10).toNat)
  case atStart => exact ⟨0, Nat.zero_le _, rfl, HR.out, Below.refl _ _⟩
  case round =>
    obtain ⟨j, hj, rfl, hf, hb⟩ := hrel
    have hFr := hF.below hb
    by_cases hlt : j < n
    · have hjI : (j : Int) < (n : Int) := by omega
      obtain ⟨ad, v, rfl, hv, hcell⟩ := hr.at1 hlt
      obtain ⟨s, hs⟩ : ∃ s, ss[j]? = some s := ⟨_, List.getElem?_eq_getElem (by have := HL.out; omega)⟩
      obtain rfl : Value.string s = v := by simpa [hs] using hv
      have hcw := hFr.cell hcell
      obtain ⟨m, hm⟩ : ∃ m, n - j = m + 1 := ⟨n - j - 1, by omega⟩
      have HM : Hid (n - (j + 1) = m) := Lib.hid (by omega)
      rw [hm] at hf
      unfold allI nameAt at hf
      rw [hs] at hf
      dsimp only at hf
      have hjc : j ≤ c := by omega
      obtain ⟨a, ha⟩ : ∃ a, nameS s.data.toList = a := ⟨_, rfl⟩
      obtain ⟨b, hb'⟩ : ∃ b, hasS (ss.take j) s = b := ⟨_, rfl⟩
      have HN := Lib.hid (fun X => ha ▸ lexName_w s X)
      have HC := Lib.hid (fun (X : World) (h : Sat F X) => containsS_w h (ss.take j) (some ad) j c (by omega) (by have := rd_take HRd.out (k := j) (by omega); rwa [← List.map_take] at this) s b hb')
      rw [ha, hb'] at hf
      have HF := Lib.hid hf
      clear hm hv hs hcell hf ha hb' hr HR
      cases a with
      | false =>
        obtain rfl : false = R := HF.out
        clear HF HRd
        go_wp2_with (go_at_call 118; refine (HN.out _).mono ?_; rintro e w1 ⟨rfl, hw1⟩)
        go_ret
        exact ⟨rfl, bthen hb hw1⟩
      | true =>
        cases b with
        | true =>
          obtain rfl : false = R := HF.out
          clear HF HRd
          go_wp2_with (first
            | (go_at_call 118; refine (HN.out _).mono ?_; rintro e w1 ⟨rfl, hw1⟩)
            | (go_at_call 112; refine (HC.out _ (hFr.below hw1)).mono ?_; rintro e w2 ⟨rfl, rfl⟩))
          go_ret
          exact ⟨rfl, bthen hb hw1⟩
        | false =>
          clear HRd
          go_wp2_with (first
            | (go_at_call 118; refine (HN.out _).mono ?_; rintro e w1 ⟨rfl, hw1⟩)
            | (go_at_call 112; refine (HC.out _ (hFr.below hw1)).mono ?_; rintro e w2 ⟨rfl, rfl⟩))
          go_roundw
          case rel => exact ⟨j + 1, by omega, by go_num, by rw [HM.out]; exact HF.out, bthen hb hw1⟩
          case measure => simp [intOf]; omega
    · obtain rfl : j = n := by omega
      have hdec : decide ((j : Int) < (j : Int)) = false := decide_eq_false (by omega)
      rw [Nat.sub_self] at hf
      obtain rfl : true = R := hf
      go_wp2_with fail
      go_ret
      exact ⟨rfl, hb⟩
def idAt (zs : List Int) (p : Int) (i : Nat) : Bool := match zs[i]? with | some z => decide (0 ≤ z) && (decide (z < p) && (decide (i = 0) || decide (zs.getD (i - 1) 0 < z))) | none => true
/-- Are these ids of p names, rising? -/
def idsOk (zs : List Int) (p : Int) : Bool := allI (idAt zs p) zs.length 0
set_option maxRecDepth 100000 in
set_option maxHeartbeats 1000000 in
theorem ids_w {F : Fz} {w : World} (hF : Sat F w) (zs : List Int) (A : Option Addr) (n c : Nat) (hn : n ≤ 1000000000) (hr : Rd F 1 A n (zs.map (Value.int .i64))) (p : Int) (R : Bool) (hR : idsOk zs p = R) :
    Calls Tryz.prog 77 #[.slice A n c, .int .i64 p] w fun e w' => e = .returned (.bool R) ∧ w = w' := by
  have hl : zs.length = n := by have := hr.1; simp at this; omega
  unfold idsOk at hR
  rw [hl] at hR
  have HL := Lib.hid hl
  have HR := Lib.hid hR
  clear hl hR
  go_enter Tryz.func77, Tryz.ntmps77
  go_wp2_with fail
  go_loop [5, 6, 9] (fun _ _ v9 => ∃ j : Nat, j ≤ n ∧ v9 = .int .i64 j ∧ allI (idAt zs p) (n - j) j = R) (fun _ _ v9 => n - (intOf v9).toNat)
  case atStart => exact ⟨0, Nat.zero_le _, rfl, HR.out⟩
  case round =>
    obtain ⟨j, hj, rfl, hf⟩ := hrel
    by_cases hlt : j < n
    · have hjI : (j : Int) < (n : Int) := by omega
      obtain ⟨ad, v, eA, hv, hcell⟩ := hr.at1 hlt
      subst eA
      obtain ⟨z, hz⟩ : ∃ z, zs[j]? = some z := ⟨_, List.getElem?_eq_getElem (by have := HL.out; omega)⟩
      obtain rfl : Value.int .i64 z = v := by simpa [hz] using hv
      have hcw := hF.cell hcell
      obtain ⟨m, hm⟩ : ∃ m, n - j = m + 1 := ⟨n - j - 1, by omega⟩
      have HM : Hid (n - (j + 1) = m) := Lib.hid (by omega)
      rw [hm] at hf
      unfold allI idAt at hf
      rw [hz] at hf
      dsimp only at hf
      have HF := Lib.hid hf
      clear hm hv hz hcell hf HR
      by_cases g1 : z < 0
      · obtain rfl : false = R := by rw [← HF.out, decide_eq_false (by omega)]; rfl
        clear HF hr
        go_wp2_with fail
        go_ret
        exact ⟨rfl, rfl⟩
      have d1 : decide (z < 0) = false := decide_eq_false g1
      by_cases g2 : p ≤ z
      · obtain rfl : false = R := by rw [← HF.out, decide_eq_true (show 0 ≤ z by omega), decide_eq_false (show ¬ z < p by omega)]; rfl
        clear HF hr
        go_wp2_with fail
        go_ret
        exact ⟨rfl, rfl⟩
      have d2 : decide (p ≤ z) = false := decide_eq_false g2
      have HF2 := HF.out
      rw [decide_eq_true (show 0 ≤ z by omega), decide_eq_true (show z < p by omega), Bool.true_and, Bool.true_and] at HF2
      clear HF
      by_cases g3 : j = 0
      · have d3 : decide ((0 : Int) < (j : Int)) = false := decide_eq_false (by omega)
        have d3' : decide (0 < j) = false := decide_eq_false (by omega)
        rw [decide_eq_true g3, Bool.true_or, Bool.true_and] at HF2
        have HF3 := Lib.hid HF2
        clear HF2 hr g1 g2 g3
        go_wp2_with fail
        go_round
        case rel => exact ⟨j + 1, by omega, by go_num, by rw [HM.out]; exact HF3.out⟩
        case measure => simp [intOf]; omega
      · have d3 : (0 : Int) < (j : Int) := by omega
        obtain ⟨ad', v', e', hv', hc'⟩ := hr.at1 (k := j - 1) (by omega)
        injection e' with e'
        subst e'
        obtain ⟨y, hy⟩ : ∃ y, zs[j - 1]? = some y := ⟨_, List.getElem?_eq_getElem (by have := HL.out; omega)⟩
        obtain rfl : Value.int .i64 y = v' := by simpa [hy] using hv'
        have hcp := hF.cell hc'
        have hjp : IntKind.i64.wrap ((j : Int) - 1) = ((j - 1 : Nat) : Int) := by rw [show (j : Int) - 1 = ((j - 1 : Nat) : Int) by omega]; exact IntWalk.i64_in _ (by omega)
        have hjp2 : (j : Int) - 1 = ((j - 1 : Nat) : Int) := by omega
        have hjp3 : ((j - 1 : Nat) : Int) < (n : Int) := by omega
        rw [List.getD, hy, Option.getD_some, decide_eq_false g3, Bool.false_or] at HF2
        by_cases g4 : z ≤ y
        · rw [decide_eq_false (show ¬ y < z by omega)] at HF2
          obtain rfl : false = R := HF2
          clear hv' hy hc' hr g1 g2 g3
          go_wp2_with fail
          go_ret
          exact ⟨rfl, rfl⟩
        · rw [decide_eq_true (show y < z by omega), Bool.true_and] at HF2
          have HF3 := Lib.hid HF2
          have d4 : decide (z ≤ y) = false := decide_eq_false g4
          clear HF2 hv' hy hc' hr g1 g2 g3 g4
          go_wp2_with fail
          go_round
          case rel => exact ⟨j + 1, by omega, by go_num, by rw [HM.out]; exact HF3.out⟩
          case measure => simp [intOf]; omega
    · obtain rfl : j = n := by omega
      have hdec : decide ((j : Int) < (j : Int)) = false := decide_eq_false (by omega)
      rw [Nat.sub_self] at hf
      obtain rfl : true = R := hf
      go_wp2_with fail
      go_ret
      exact ⟨rfl, rfl⟩
def evtAt (p : Nat) (es : List Evt) (i : Nat) : Bool := match es[i]? with | some e => idsOk e.ids p && (decide (i = 0) || decide (timeE es (i - 1) ≤ e.time)) | none => true
/-- May the trace be? -/
def mayT (ss : List ByteArray) (es : List Evt) : Bool := namesOk ss && allI (evtAt ss.length es) es.length 0
set_option maxRecDepth 100000 in
set_option maxHeartbeats 2000000 in
theorem mayT_w {F : Fz} {w : World} (hF : Sat F w) (ss : List ByteArray) (es : List Evt) (An : Option Addr) (nn cn : Nat) (hcn : nn ≤ cn) (hN : Rd F 1 An nn (ss.map Value.string)) (Ae : Option Addr) (ne ce : Nat) (hne : ne ≤ 1000000000) (hE : EvsF F Ae ne es) (hid : ∀ e ∈ es, e.ids.length ≤ 1000000000) (R : Bool) (hR : mayT ss es = R) :
    Calls Tryz.prog 45 #[.agg #[.slice An nn cn, .slice Ae ne ce]] w fun e w' => e = .returned (.bool R) ∧ Below w.heap.size w w' := by
  have hb0 := balloc w (.cells #[.slice An nn cn, .slice Ae ne ce] 43)
  have HB := Lib.hid (Blk.new w 43 #[.slice An nn cn, .slice Ae ne ce])
  have hF0 := hF.below hb0
  obtain ⟨t0, t1, _, _⟩ := blkA HB.out
  have hls : ss.length = nn := by have := hN.1; simp at this; omega
  have hle : es.length = ne := hE.1
  unfold mayT at hR
  rw [hls, hle] at hR
  have HE := Lib.hid hE
  have HL := Lib.hid hle
  have HID := Lib.hid hid
  obtain ⟨a, ha⟩ : ∃ a, namesOk ss = a := ⟨_, rfl⟩
  rw [ha] at hR
  have HNm := Lib.hid (names_w hF0 ss An nn cn hcn hN a ha)
  clear ha hN hle hls hid hE
  cases a with
  | false =>
    obtain rfl : false = R := hR
    go_enter Tryz.func45, Tryz.ntmps45
    go_wp2_with (go_at_call 76; refine HNm.out.mono ?_; rintro e w1 ⟨rfl, hw1⟩)
    go_ret
    exact ⟨rfl, bthen hb0 hw1⟩
  | true =>
    rw [Bool.true_and] at hR
    have HR := Lib.hid hR
    clear hR
    go_enter Tryz.func45, Tryz.ntmps45
    go_wp2_with (go_at_call 76; refine HNm.out.mono ?_; rintro e w1 ⟨rfl, hw1⟩; obtain ⟨t0, t1, _, _⟩ := blkA (HB.out.call hw1))
    have hb1 := bthen hb0 hw1
    have HB1 := Lib.hid (HB.out.call hw1)
    go_loopw [3, 4, 12] (fun _ _ v12 wr => ∃ j : Nat, j ≤ ne ∧ v12 = .int .i64 j ∧ allI (evtAt nn es) (ne - j) j = R ∧ Below w.heap.size w wr ∧ Below w1.heap.size w1 wr) (fun _ _ v12 _ => ne - (intOf v12).toNat)
    case atStart => exact ⟨0, Nat.zero_le _, rfl, HR.out, hb1, Below.refl _ _⟩
    case round =>
      obtain ⟨j, hj, rfl, hf, hb, hb'⟩ := hrel
      have hFr := hF.below hb
      by_cases hlt : j < ne
      · have hjI : (j : Int) < (ne : Int) := by omega
        have hjl : j < es.length := by have := HL.out; omega
        obtain ⟨ad, eA, hh⟩ := HE.out.2 (by omega)
        obtain ⟨htj, Ai, ci, hci, hri, hc0, hc1⟩ := hh j hjl
        have hidl := HID.out _ (List.getElem_mem hjl)
        obtain ⟨m, hm⟩ : ∃ m, ne - j = m + 1 := ⟨ne - j - 1, by omega⟩
        have HM : Hid (ne - (j + 1) = m) := Lib.hid (by omega)
        rw [hm] at hf
        unfold allI evtAt at hf
        rw [List.getElem?_eq_getElem hjl] at hf
        dsimp only at hf
        obtain ⟨ev, hev⟩ : ∃ ev, es[j] = ev := ⟨_, rfl⟩
        rw [hev] at hf hri hc0 hc1 hci htj hidl
        obtain ⟨tj, ids⟩ := ev
        dsimp only at hf hri hc0 hc1 hci htj hidl
        obtain ⟨a, ha⟩ : ∃ a, idsOk ids nn = a := ⟨_, rfl⟩
        rw [ha] at hf
        obtain ⟨ni, hni⟩ : ∃ ni, ids.length = ni := ⟨_, rfl⟩
        rw [hni] at hri hc1 hidl
        have HI := Lib.hid (fun (X : World) (h : Sat F X) => ids_w h ids Ai ni ci hidl hri nn a ha)
        subst eA
        have hbA := balloc wr (.cells #[.int .u64 (tj : Nat), .slice Ai ni ci] 46)
        obtain ⟨e0, e1, _, _⟩ := blkA (Blk.new wr 46 #[.int .u64 (tj : Nat), .slice Ai ni ci])
        have hFA := hFr.below hbA
        have hbA1 := bthen hb hbA
        have hbA2 := bthen hb' hbA
        obtain ⟨t0, t1, _, _⟩ := blkA (HB1.out.call hbA2)
        have z0 := hFr.cell hc0
        have z1 : wr.cell? ⟨(ad.add (j * 2)).block, (ad.add (j * 2)).off + 1, none⟩ = some (.slice Ai ni ci) := hFr.cell hc1
        have HF := Lib.hid hf
        by_cases g0 : a = false
        · subst g0
          obtain rfl : false = R := HF.out
          clear hf HF hm ha hni hev hh hri hc0 hc1 hci htj
          go_wp2_with fail
          go_quiet ((go_at_call 77; exact quiet_eq (HI.out _ (hFA.drewN _))))
          go_wp2_with fail
          go_ret
          exact ⟨rfl, below_drewN hbA1 _⟩
        obtain rfl : a = true := by cases a; exact absurd rfl g0; rfl
        by_cases g1 : j = 0
        · have d3 : decide ((0 : Int) < (j : Int)) = false := decide_eq_false (by omega)
          have d3' : decide (0 < j) = false := decide_eq_false (by omega)
          have HF3 : Hid (allI (evtAt nn es) m (j + 1) = R) := Lib.hid (by have := HF.out; rw [decide_eq_true g1] at this; exact this)
          clear hf HF hm ha hni hev hh hri hc0 hc1 hci htj g0 g1
          go_wp2_with fail
          go_quiet ((go_at_call 77; exact quiet_eq (HI.out _ (hFA.drewN _))))
          go_wp2_with fail
          go_roundw
          case rel => exact ⟨j + 1, by omega, by go_num, by rw [HM.out]; exact HF3.out, below_drewN hbA1 _, below_drewN hbA2 _⟩
          case measure => simp [intOf]; omega
        · have d3 : (0 : Int) < (j : Int) := by omega
          have d3' : decide (0 < j) = true := decide_eq_true (by omega)
          obtain ⟨htp, ad', e', hcp⟩ := HE.out.at_ (i := j - 1) (by omega)
          injection e' with e'
          subst e'
          have zp := hFA.cell hcp
          obtain ⟨tp, htp'⟩ : ∃ tp, timeE es (j - 1) = tp := ⟨_, rfl⟩
          rw [htp'] at zp
          have hjp : IntKind.i64.wrap ((j : Int) - 1) = ((j - 1 : Nat) : Int) := by rw [show (j : Int) - 1 = ((j - 1 : Nat) : Int) by omega]; exact IntWalk.i64_in _ (by omega)
          have hjp2 : (j : Int) - 1 = ((j - 1 : Nat) : Int) := by omega
          have hjp3 : ((j - 1 : Nat) : Int) < (ne : Int) := by omega
          have HF2 : (decide (tp ≤ tj) && allI (evtAt nn es) m (j + 1)) = R := by have := HF.out; rw [decide_eq_false g1, htp'] at this; exact this
          by_cases g2 : tj < tp
          · rw [decide_eq_false (by omega)] at HF2
            obtain rfl : false = R := HF2
            have g2I : (tj : Int) < (tp : Int) := by omega
            have g2d' : decide (tj < tp) = true := decide_eq_true g2
            clear hf HF hm ha hni hev hh hri hc0 hc1 hci htj g0 g1 htp htp' hcp
            go_wp2_with fail
            go_quiet ((go_at_call 77; exact quiet_eq (HI.out _ (hFA.drewN _))))
            go_wp2_with fail
            go_ret
            exact ⟨rfl, below_drewN hbA1 _⟩
          · rw [decide_eq_true (show tp ≤ tj by omega), Bool.true_and] at HF2
            have HF3 := Lib.hid HF2
            have g2d : decide ((tj : Int) < (tp : Int)) = false := decide_eq_false (by omega)
            have g2d' : decide (tj < tp) = false := decide_eq_false g2
            clear hf HF HF2 hm ha hni hev hh hri hc0 hc1 hci htj g0 g1 htp htp' hcp g2
            go_wp2_with fail
            go_quiet ((go_at_call 77; exact quiet_eq (HI.out _ (hFA.drewN _))))
            go_wp2_with fail
            go_roundw
            case rel => exact ⟨j + 1, by omega, by go_num, by rw [HM.out]; exact HF3.out, below_drewN hbA1 _, below_drewN hbA2 _⟩
            case measure => simp [intOf]; omega
      · obtain rfl : j = ne := by omega
        have hdec : decide ((j : Int) < (j : Int)) = false := decide_eq_false (by omega)
        rw [Nat.sub_self] at hf
        obtain rfl : true = R := hf
        go_wp2_with fail
        go_ret
        exact ⟨rfl, hb⟩
set_option maxRecDepth 100000 in
theorem indexZ_w {F : Fz} {w : World} (hF : Sat F w) (zs : List Int) (A : Option Addr) (n c : Nat) (hn : n ≤ 1000000000) (hr : Rd F 1 A n (zs.map (Value.int .i64))) (x : Int) (R : Int) (hR : idxZ zs x = R) :
    Calls Tryz.prog 144 #[.slice A n c, .int .i64 x] w fun e w' => e = .returned (.int .i64 R) ∧ w = w' := by
  have hl : zs.length = n := by have := hr.1; simp at this; omega
  unfold idxZ at hR
  rw [hl] at hR
  have HL := Lib.hid hl
  have HR := Lib.hid hR
  clear hl hR
  go_enter Tryz.func144, Tryz.ntmps144
  go_wp2_with fail
  go_loop [5, 8] (fun _ v8 => ∃ j : Nat, j ≤ n ∧ v8 = .int .i64 j ∧ firstI (fun i => decide (zs[i]? = some x)) (n - j) j = R) (fun _ v8 => n - (intOf v8).toNat)
  case atStart => exact ⟨0, Nat.zero_le _, rfl, HR.out⟩
  case round =>
    obtain ⟨j, hj, rfl, hf⟩ := hrel
    by_cases hlt : j < n
    · have hjI : (j : Int) < (n : Int) := by omega
      obtain ⟨ad, v, rfl, hv, hc⟩ := hr.at1 hlt
      obtain ⟨s, hs⟩ : ∃ s, zs[j]? = some s := ⟨_, List.getElem?_eq_getElem (by have := HL.out; omega)⟩
      obtain rfl : Value.int .i64 s = v := by simpa [hs] using hv
      have hcw := hF.cell hc
      obtain ⟨m, hm⟩ : ∃ m, n - j = m + 1 := ⟨n - j - 1, by omega⟩
      have HM : Hid (n - (j + 1) = m) := Lib.hid (by omega)
      rw [hm] at hf
      unfold firstI at hf
      rw [hs] at hf
      clear hm hv hs hc
      by_cases e : x = s
      · subst e
        rw [if_pos (by simp)] at hf
        subst hf
        clear hr HR
        go_wp2_with fail
        go_ret
        exact ⟨rfl, rfl⟩
      · have hb : (x == s) = false := by rw [beq_eq_false_iff_ne]; exact e
        rw [if_neg (by simp; exact fun h => e h.symm)] at hf
        have HF := Lib.hid hf
        clear hf e
        go_wp2_with fail
        go_round
        case rel => exact ⟨j + 1, by omega, by go_num, by rw [HM.out]; exact HF.out⟩
        case measure => simp [intOf]; omega
    · obtain rfl : j = n := by omega
      have hdec : decide ((j : Int) < (j : Int)) = false := decide_eq_false (by omega)
      rw [Nat.sub_self] at hf
      obtain rfl : -1 = R := hf
      go_wp2_with fail
      go_ret
      exact ⟨rfl, rfl⟩
def hasZ (zs : List Int) (x : Int) : Bool := decide (0 ≤ idxZ zs x)
theorem hasZ_iff {zs : List Int} {x : Int} : hasZ zs x = true ↔ x ∈ zs := by
  unfold hasZ idxZ
  rw [decide_eq_true_iff, firstI_neg]
  constructor
  · rintro ⟨j, _, _, h⟩
    exact List.mem_of_getElem? (decide_eq_true_iff.1 h)
  · intro h
    obtain ⟨j, hj⟩ := List.getElem?_of_mem h
    exact ⟨j, Nat.zero_le _, by have := (List.getElem?_eq_some_iff.1 hj).1; omega, decide_eq_true hj⟩
set_option maxRecDepth 100000 in
theorem containsZ_w {F : Fz} {w : World} (hF : Sat F w) (zs : List Int) (A : Option Addr) (n c : Nat) (hn : n ≤ 1000000000) (hr : Rd F 1 A n (zs.map (Value.int .i64))) (x : Int) :
    Calls Tryz.prog 122 #[.slice A n c, .int .i64 x] w fun e w' => e = .returned (.bool (hasZ zs x)) ∧ w = w' := by
  obtain ⟨K, hK⟩ : ∃ K, idxZ zs x = K := ⟨_, rfl⟩
  have HI := Lib.hid (indexZ_w hF zs A n c hn hr x K hK)
  obtain ⟨R, hR⟩ : ∃ R, hasZ zs x = R := ⟨_, rfl⟩
  rw [hR]
  have HR : Hid (decide (0 ≤ K) = R) := Lib.hid (by rw [← hR, ← hK]; rfl)
  clear hr hR hK
  go_enter Tryz.func122, Tryz.ntmps122
  go_wp2_with (go_at_call 144; refine HI.out.mono ?_; rintro e w' ⟨rfl, rfl⟩)
  go_ret
  exact ⟨by rw [← HR.out]; rfl, rfl⟩
/-- Does the name hold at the point? -/
def holdsT (ss : List ByteArray) (es : List Evt) (i : Nat) (name : ByteArray) : Bool := match es[i]? with | some e => hasZ e.ids (idxS ss name) | none => false
set_option maxRecDepth 100000 in
set_option maxHeartbeats 1000000 in
theorem holdsT_w {F : Fz} {w : World} (hF : Sat F w) (ss : List ByteArray) (es : List Evt) (An : Option Addr) (nn cn : Nat) (hcn : nn ≤ cn) (hnn : nn ≤ 1000000) (hN : Rd F 1 An nn (ss.map Value.string)) (Ae : Option Addr) (ne ce : Nat) (hne : ne ≤ 1000000000) (hE : EvsF F Ae ne es) (hid : ∀ e ∈ es, e.ids.length ≤ 1000000000) (hM : mayT ss es = true) (i : Nat) (hi : i < ne) (name : ByteArray) (R : Bool) (hR : holdsT ss es i name = R) :
    Calls Tryz.prog 94 #[.agg #[.slice An nn cn, .slice Ae ne ce], .int .i64 (i : Nat), .string name] w fun e w' => e = .returned (.bool R) ∧ Below w.heap.size w w' := by
  have hb0 := balloc w (.cells #[.slice An nn cn, .slice Ae ne ce] 43)
  have HB := Lib.hid (Blk.new w 43 #[.slice An nn cn, .slice Ae ne ce])
  have hF0 := hF.below hb0
  obtain ⟨t0, t1, _, _⟩ := blkA HB.out
  have hil : i < es.length := by have := hE.1; omega
  have HMy := Lib.hid (mayT_w hF0 ss es An nn cn hcn hN Ae ne ce hne hE hid true hM)
  obtain ⟨ad, eA, hh⟩ := hE.2 (by omega)
  obtain ⟨hti, Ai, ci, hci, hri, hc0, hc1⟩ := hh i hil
  have hidl := hid _ (List.getElem_mem hil)
  unfold holdsT at hR
  rw [List.getElem?_eq_getElem hil] at hR
  dsimp only at hR
  obtain ⟨ids, hids⟩ : ∃ ids, es[i].ids = ids := ⟨_, rfl⟩
  rw [hids] at hR hri hc1 hidl
  obtain ⟨ni, hni⟩ : ∃ ni, ids.length = ni := ⟨_, rfl⟩
  rw [hni] at hri hc1 hidl
  obtain ⟨K, hK⟩ : ∃ K, idxS ss name = K := ⟨_, rfl⟩
  rw [hK] at hR
  have HI := Lib.hid (fun (X : World) (h : Sat F X) => indexS_w h ss An nn cn hnn hN name K hK)
  have HC := Lib.hid (fun (X : World) (h : Sat F X) => hR ▸ containsZ_w h ids Ai ni ci hidl hri K)
  subst eA
  have HC1 := Lib.hid hc1
  have hd : decide ((i : Int) < 0) = false := decide_eq_false (by omega)
  have hd2 : decide (ne ≤ i) = false := decide_eq_false (by omega)
  have hiI : (i : Int) < (ne : Int) := by omega
  clear hE hid hh hti hci hri hc0 hc1 hids hni hK hR hN hM hil
  go_enter Tryz.func94, Tryz.ntmps94
  go_wp2_with (go_at_call 45; refine HMy.out.mono ?_; rintro e w1 ⟨rfl, hw1⟩; obtain ⟨t0, t1, _, _⟩ := blkA (HB.out.call hw1); have hb1 := bthen hb0 hw1; have hF1 := hF.below hb1; have z1 : w1.cell? ⟨(ad.add (i * 2)).block, (ad.add (i * 2)).off + 1, none⟩ = some (.slice Ai ni ci) := hF1.cell HC1.out)
  go_quiet (first
    | (go_at_call 123; exact quiet_eq (HI.out _ (hF1.drewN _)))
    | (go_at_call 122; first | exact quiet_add (HC.out _ (hF1.drewN _)) | exact quiet_eq (HC.out _ (hF1.drewN _))))
  go_wp2_with fail
  go_ret
  exact ⟨rfl, below_drewN hb1 _⟩
end Go.Proofs.YtdbbooibkiicnaaGreat
/-! Truth of one node by its kind, as the program tells it; a test's place: plain lemmas. -/
namespace Go.Proofs.YtdbbooibkiicnaaGreat
/-- A trace of names and events, as it is told by points. -/
def trcE (ss : List ByteArray) (es : List Evt) : TrcS := ⟨es.length, timeE es, fun i nm => holdsT ss es i nm⟩
theorem leafS_logic (ss : List ByteArray) (es : List Evt) (h : Nd) (hk : h.kind = 1 ∨ h.kind = 2 ∨ h.kind = 3) (v w : Nat → Bool) (i : Nat) : logicS h.kind (fun j => holdsT ss es j h.name) v w i = leafS (trcE ss es) h i := by
  unfold logicS leafS trcE
  rcases hk with e | e | e <;> simp [e]
theorem unS_logic (ss : List ByteArray) (es : List Evt) (h : Nd) (hk : h.kind = 4) (hol v w : Nat → Bool) (m : Mx) (i : Nat) : logicS h.kind hol v w i = unS (trcE ss es) h v m i := by
  unfold logicS unS
  simp [hk]
theorem binS_logic (ss : List ByteArray) (es : List Evt) (h : Nd) (hk : h.kind = 5 ∨ h.kind = 6 ∨ h.kind = 7) (hol v w : Nat → Bool) (i : Nat) : logicS h.kind hol v w i = binS (trcE ss es) h v w i := by
  unfold logicS binS
  rcases hk with e | e | e <;> simp [e]
theorem binS_time (ss : List ByteArray) (es : List Evt) (h : Nd) (hk : h.kind = 14 ∨ h.kind = 15) (v w : Nat → Bool) (i : Nat) : timeB es es.length h.kind h.lo h.hi v w i = binS (trcE ss es) h v w i := by
  unfold timeB binS trcE
  rcases hk with e | e <;> simp [e] <;> rfl
theorem unS_ways (ss : List ByteArray) (es : List Evt) (h : Nd) (hk : h.kind = 16 ∨ h.kind = 17) (v : Nat → Bool) (m : Mx) (i : Nat) : waysS es es.length h.kind h.lo h.hi m i = unS (trcE ss es) h v m i := by
  unfold waysS unS trcE
  rcases hk with e | e <;> simp [e] <;> rfl
theorem unS_time (ss : List ByteArray) (es : List Evt) (h : Nd) (hk : 8 ≤ h.kind ∧ h.kind ≤ 13) (v : Nat → Bool) (m : Mx) (i : Nat) (hi : i < es.length) : timeU es es.length h.kind h.lo h.hi v i = unS (trcE ss es) h v m i := by
  have hn : (trcE ss es).n = es.length := rfl
  unfold timeU unS
  rw [hn]
  rcases (show h.kind = 8 ∨ h.kind = 9 ∨ h.kind = 10 ∨ h.kind = 11 ∨ h.kind = 12 ∨ h.kind = 13 by omega) with e | e | e | e | e | e
  · rw [if_pos e, if_neg (show ¬ h.kind = 4 by omega), if_pos e]
    by_cases h0 : 0 < i
    · rw [if_pos (show 0 ≤ ((i : Int) - 1) ∧ ((i : Int) - 1) < (es.length : Int) by omega), decide_eq_true h0, Bool.true_and, show ((i : Int) - 1).toNat = i - 1 by omega]
      rfl
    · rw [if_neg (show ¬ (0 ≤ ((i : Int) - 1) ∧ ((i : Int) - 1) < (es.length : Int)) by omega), decide_eq_false h0, Bool.false_and]
  · rw [if_neg (show ¬ h.kind = 8 by omega), if_pos e, if_neg (show ¬ h.kind = 4 by omega), if_neg (show ¬ h.kind = 8 by omega), if_pos e]
    by_cases h0 : i + 1 < es.length
    · rw [if_pos (show 0 ≤ ((i : Int) + 1) ∧ ((i : Int) + 1) < (es.length : Int) by omega), decide_eq_true h0, Bool.true_and, show ((i : Int) + 1).toNat = i + 1 by omega]
      rfl
    · rw [if_neg (show ¬ (0 ≤ ((i : Int) + 1) ∧ ((i : Int) + 1) < (es.length : Int)) by omega), decide_eq_false h0, Bool.false_and]
  · simp [e]; rfl
  · simp [e]; rfl
  · simp [e]; rfl
  · simp [e]; rfl
/-- A test's place in a part: its formula stands next to it, and in the whole. -/
theorem test_place {t : Tr} (hv : validT t = true) {root : Nat} (hr : root < t.size) {k p : Nat} (hp : (testsL (t.sub root) 0)[k]? = some p) (X : TrcS) :
    ∃ h f, (t.sub root).sub p = .un h f ∧ 1 ≤ p ∧ p < (t.sub root).size ∧ root + 1 - (t.sub root).size + (p - 1) < root ∧ t.sub (root + 1 - (t.sub root).size + (p - 1)) = f ∧ regS f.root.kind = false ∧ ∀ i, valL (valsT X (t.sub root)) i k = satT X f i := by
  obtain ⟨s, hs⟩ : ∃ s, t.sub root = s := ⟨_, rfl⟩
  have hsz : s.size ≤ root + 1 := by rw [← hs]; exact Tr.sub_size_le t root hr
  have hvs : validT s = true := by rw [← hs]; exact sub_valid t root hv
  have hss := Tr.sub_sub t root (p - 1) hr
  rw [hs] at hp hss ⊢
  obtain ⟨_, hps, hte⟩ := tests_sub s 0 k p hp
  rw [Nat.sub_zero] at hps hte
  obtain ⟨h, f, hx, h19⟩ := testTr_un' s (s.sub p) (List.mem_of_getElem? hte)
  obtain ⟨h1, h2, _⟩ := kid_un hps hx
  have hf := f.size_pos
  have hvx := sub_valid s p hvs
  rw [hx] at hvx
  simp only [validT, Bool.and_eq_true, beq_iff_eq] at hvx
  refine ⟨h, f, hx, by omega, hps, by omega, ?_, ?_, fun i => ?_⟩
  · rw [hss (by omega), h2]
  · rw [hvx.1.2, h19]; rfl
  · unfold valL
    rw [List.getD_eq_getElem?_getD, vals_get, hte, hx]
    rfl
/-- The node of a test in a part has the place ahead of it for a kid. -/
theorem test_nodeP {s : Tr} {p : Nat} (hp : p < s.size) {h : Nd} {f : Tr} (hx : s.sub p = .un h f) : (s.flat 0)[p]? = some { h with kids := [((p - 1 : Nat) : Int)] } := by
  rw [Tr.get_flat s p 0 hp, hx]
  obtain ⟨h1, _, _⟩ := kid_un hp hx
  have hf := f.size_pos
  simp only [Tr.root, Tr.rootKids, Tr.size]
  congr 3
  congr 1
  omega
end Go.Proofs.YtdbbooibkiicnaaGreat
