/- Words that tell which tests hold: plain lemmas for sat's ways. -/
import Derived.Test.YtgmbicjcfhmcdaaSatY
import Derived.Test.YtgmbicjcfhmcdaaTab1
import Derived.Test.YtgmbicjcfhmcdaaSatM
import Derived.Test.YtgmbicjcfhmcdaaSizes
import Derived.Test.YtgmbicjcfhmcdaaLex2
import Derived.Test.YtgmbicjcfhmcdaaPlanB
set_option linter.unusedVariables false
set_option linter.unusedSimpArgs false
/-! Words that tell which tests hold: plain lemmas for sat's ways. -/
namespace Go.Proofs.Ytgmbicjcfhmcdaa
end Go.Proofs.Ytgmbicjcfhmcdaa
/-! The walks of package trace: names, ids, what may be, what holds. -/
namespace Go.Proofs.Ytgmbicjcfhmcdaa
open Go.RowKit
/-- The first of m places from i on where p is so; none: -1. -/
def firstI (p : Nat → Bool) : Nat → Nat → Int
  | 0, _ => -1
  | m + 1, i => if p i = true then (i : Int) else firstI p m (i + 1)
def idxS (ss : List ByteArray) (x : ByteArray) : Int := firstI (fun i => decide (ss[i]? = some x)) ss.length 0
def idxZ (zs : List Int) (x : Int) : Int := firstI (fun i => decide (zs[i]? = some x)) zs.length 0
set_option maxRecDepth 100000 in
theorem indexS_w {F : Fz} {w : World} (hF : Sat F w) (ss : List ByteArray) (A : Option Addr) (n c : Nat) (hn : n ≤ 1000000) (hr : Rd F 1 A n (ss.map Value.string)) (x : ByteArray) (R : Int) (hR : idxS ss x = R) :
    Calls Try.prog 26 #[.slice A n c, .string x] w fun e w' => e = .returned (.int .i64 R) ∧ w = w' := by
  have hl : ss.length = n := by have := hr.1; simp at this; omega
  unfold idxS at hR
  rw [hl] at hR
  have HL := Lib.hid hl
  have HR := Lib.hid hR
  clear hl hR
  go_enter Try.func26, Try.ntmps26
  go_wp2_with fail
  go_loop [5, 8] (fun _ v8 => ∃ j : Nat, j ≤ n ∧ v8 = .int .i64 j ∧ firstI (fun i => decide (ss[i]? = some x)) (n - j) j = R) (fun _ v8 => n - (intOf v8).toNat)
  case atStart => exact ⟨0, Nat.zero_le _, rfl, HR.out⟩
  case round =>
    obtain ⟨j, hj, rfl, hf⟩ := hrel
    by_cases hlt : j < n
    · have hjI : (j : Int) < (n : Int) := by omega
      obtain ⟨ad, v, rfl, hv, hc⟩ := hr.at1 hlt
      obtain ⟨s, hs⟩ : ∃ s, ss[j]? = some s := ⟨_, List.getElem?_eq_getElem (by have := HL.out; omega)⟩
      obtain rfl : Value.string s = v := by simpa [hs] using hv
      have hcw := hF.cell hc
      obtain ⟨m, hm⟩ : ∃ m, n - j = m + 1 := ⟨n - j - 1, by omega⟩
      have HM : Hid (n - (j + 1) = m) := Lib.hid (by omega)
      rw [hm] at hf
      unfold firstI at hf
      rw [hs] at hf
      clear hm hv hs hc
      by_cases e : x = s
      · subst e
        rw [if_pos (by simp)] at hf
        subst hf
        clear hr HR
        go_wp2_with fail
        go_ret
        exact ⟨rfl, rfl⟩
      · have hb : (x.toList == s.toList) = false := (eqS_false _ _).2 (fun h => e h)
        rw [if_neg (by simp; exact fun h => e h.symm)] at hf
        have HF := Lib.hid hf
        clear hf e
        go_wp2_with fail
        go_round
        case rel => exact ⟨j + 1, by omega, by go_num, by rw [HM.out]; exact HF.out⟩
        case measure => simp [intOf]; omega
    · obtain rfl : j = n := by omega
      have hdec : decide ((j : Int) < (j : Int)) = false := decide_eq_false (by omega)
      rw [Nat.sub_self] at hf
      obtain rfl : -1 = R := hf
      go_wp2_with fail
      go_ret
      exact ⟨rfl, rfl⟩
theorem firstI_neg {p : Nat → Bool} : ∀ {m i : Nat}, (0 ≤ firstI p m i ↔ ∃ j, i ≤ j ∧ j < i + m ∧ p j = true)
  | 0, i => by unfold firstI; constructor
               · intro h; omega
               · rintro ⟨j, h1, h2, _⟩; omega
  | m + 1, i => by
    unfold firstI
    split
    · rename_i h
      exact ⟨fun _ => ⟨i, Nat.le_refl _, by omega, h⟩, fun _ => by omega⟩
    · rename_i h
      rw [firstI_neg]
      constructor
      · rintro ⟨j, h1, h2, h3⟩; exact ⟨j, by omega, by omega, h3⟩
      · rintro ⟨j, h1, h2, h3⟩
        refine ⟨j, ?_, by omega, h3⟩
        rcases Nat.lt_or_ge i j with h4 | h4
        · exact h4
        · obtain rfl : j = i := by omega
          exact absurd h3 h
theorem idxS_mem {ss : List ByteArray} {x : ByteArray} : 0 ≤ idxS ss x ↔ x ∈ ss := by
  unfold idxS
  rw [firstI_neg]
  constructor
  · rintro ⟨j, _, _, h⟩
    exact List.mem_of_getElem? (decide_eq_true_iff.1 h)
  · intro h
    obtain ⟨j, hj⟩ := List.getElem?_of_mem h
    exact ⟨j, Nat.zero_le _, by have := (List.getElem?_eq_some_iff.1 hj).1; omega, decide_eq_true hj⟩
set_option maxRecDepth 100000 in
theorem containsS_w {F : Fz} {w : World} (hF : Sat F w) (ss : List ByteArray) (A : Option Addr) (n c : Nat) (hn : n ≤ 1000000) (hr : Rd F 1 A n (ss.map Value.string)) (x : ByteArray) (R : Bool) (hR : hasS ss x = R) :
    Calls Try.prog 25 #[.slice A n c, .string x] w fun e w' => e = .returned (.bool R) ∧ w = w' := by
  obtain ⟨K, hK⟩ : ∃ K, idxS ss x = K := ⟨_, rfl⟩
  have HI := Lib.hid (indexS_w hF ss A n c hn hr x K hK)
  have HR : Hid (decide (0 ≤ K) = R) := Lib.hid (by
    rw [← hR, ← hK]
    cases h : hasS ss x
    · exact decide_eq_false (fun h2 => (hasS_false _ _).1 h (idxS_mem.1 h2))
    · exact decide_eq_true (idxS_mem.2 ((hasS_iff _ _).1 h)))
  clear hr hR hK
  go_enter Try.func25, Try.ntmps25
  go_wp2_with (go_at_call 26; refine HI.out.mono ?_; rintro e w' ⟨rfl, rfl⟩)
  go_ret
  exact ⟨by rw [← HR.out]; rfl, rfl⟩
/-- All of m places from i on are so. -/
def allI (p : Nat → Bool) : Nat → Nat → Bool
  | 0, _ => true
  | m + 1, i => p i && allI p m (i + 1)
theorem rd_take {F : Fz} {A : Option Addr} {n k : Nat} {xs : List Value} (h : Rd F 1 A n xs) (hk : k ≤ n) : Rd F 1 A k (xs.take k) := by
  have hl := h.1
  refine ⟨by rw [List.length_take]; omega, fun h0 => ?_⟩
  obtain ⟨ad, e, hc⟩ := h.2 (by omega)
  refine ⟨ad, e, fun j u hu => hc j u ?_⟩
  rw [List.getElem?_take] at hu
  split at hu
  · exact hu
  · cases hu
def nameAt (ss : List ByteArray) (i : Nat) : Bool := match ss[i]? with | some s => nameS s.data.toList && !hasS (ss.take i) s | none => true
/-- May these be a log's names? -/
def namesOk (ss : List ByteArray) : Bool := decide (ss.length ≤ 64) && allI (nameAt ss) ss.length 0
set_option maxRecDepth 100000 in
set_option maxHeartbeats 1000000 in
theorem tnames_w {F : Fz} {w : World} (hF : Sat F w) (ss : List ByteArray) (A : Option Addr) (n c : Nat) (hc : n ≤ c) (hr : Rd F 1 A n (ss.map Value.string)) (R : Bool) (hR : namesOk ss = R) :
    Calls Try.prog 29 #[.slice A n c] w fun e w' => e = .returned (.bool R) ∧ Below w.heap.size w w' := by
  have hl : ss.length = n := by have := hr.1; simp at this; omega
  unfold namesOk at hR
  rw [hl] at hR
  by_cases hbig : 64 < n
  · rw [decide_eq_false (by omega)] at hR
    obtain rfl : false = R := hR
    have hI : (64 : Int) < (n : Int) := by omega
    clear hr hl
    go_enter Try.func29, Try.ntmps29
    go_wp2_with fail
    go_ret
    exact ⟨rfl, Below.refl _ _⟩
  rw [decide_eq_true (by omega), Bool.true_and] at hR
  have hI : decide ((64 : Int) < (n : Int)) = false := decide_eq_false (by omega)
  have hI2 : decide (64 < n) = false := decide_eq_false hbig
  have hnb : n ≤ 64 := by omega
  have HL := Lib.hid hl
  have HR := Lib.hid hR
  have HRd := Lib.hid hr
  clear hl hR hbig
  go_enter Try.func29, Try.ntmps29
  go_wp2_with fail
  go_loopw [3, 4, 10] (fun _ _ v10 wr => ∃ j : Nat, j ≤ n ∧ v10 = .int .i64 j ∧ allI (nameAt ss) (n - j) j = R ∧ Below w.heap.size w wr) (fun _ _ v10 _ => n - (intOf v10).toNat)
  case atStart => exact ⟨0, Nat.zero_le _, rfl, HR.out, Below.refl _ _⟩
  case round =>
    obtain ⟨j, hj, rfl, hf, hb⟩ := hrel
    have hFr := hF.below hb
    by_cases hlt : j < n
    · have hjI : (j : Int) < (n : Int) := by omega
      obtain ⟨ad, v, rfl, hv, hcell⟩ := hr.at1 hlt
      obtain ⟨s, hs⟩ : ∃ s, ss[j]? = some s := ⟨_, List.getElem?_eq_getElem (by have := HL.out; omega)⟩
      obtain rfl : Value.string s = v := by simpa [hs] using hv
      have hcw := hFr.cell hcell
      obtain ⟨m, hm⟩ : ∃ m, n - j = m + 1 := ⟨n - j - 1, by omega⟩
      have HM : Hid (n - (j + 1) = m) := Lib.hid (by omega)
      rw [hm] at hf
      unfold allI nameAt at hf
      rw [hs] at hf
      dsimp only at hf
      have hjc : j ≤ c := by omega
      obtain ⟨a, ha⟩ : ∃ a, nameS s.data.toList = a := ⟨_, rfl⟩
      obtain ⟨b, hb'⟩ : ∃ b, hasS (ss.take j) s = b := ⟨_, rfl⟩
      have HN := Lib.hid (fun X => ha ▸ lexName_w s X)
      have HC := Lib.hid (fun (X : World) (h : Sat F X) => containsS_w h (ss.take j) (some ad) j c (by omega) (by have := rd_take HRd.out (k := j) (by omega); rwa [← List.map_take] at this) s b hb')
      rw [ha, hb'] at hf
      have HF := Lib.hid hf
      clear hm hv hs hcell hf ha hb' hr HR
      cases a with
      | false =>
        obtain rfl : false = R := HF.out
        clear HF HRd
        go_wp2_with (go_at_call 41; refine (HN.out _).mono ?_; rintro e w1 ⟨rfl, hw1⟩)
        go_ret
        exact ⟨rfl, bthen hb hw1⟩
      | true =>
        cases b with
        | true =>
          obtain rfl : false = R := HF.out
          clear HF HRd
          go_wp2_with (first
            | (go_at_call 41; refine (HN.out _).mono ?_; rintro e w1 ⟨rfl, hw1⟩)
            | (go_at_call 25; refine (HC.out _ (hFr.below hw1)).mono ?_; rintro e w2 ⟨rfl, rfl⟩))
          go_ret
          exact ⟨rfl, bthen hb hw1⟩
        | false =>
          clear HRd
          go_wp2_with (first
            | (go_at_call 41; refine (HN.out _).mono ?_; rintro e w1 ⟨rfl, hw1⟩)
            | (go_at_call 25; refine (HC.out _ (hFr.below hw1)).mono ?_; rintro e w2 ⟨rfl, rfl⟩))
          go_roundw
          case rel => exact ⟨j + 1, by omega, by go_num, by rw [HM.out]; exact HF.out, bthen hb hw1⟩
          case measure => simp [intOf]; omega
    · obtain rfl : j = n := by omega
      have hdec : decide ((j : Int) < (j : Int)) = false := decide_eq_false (by omega)
      rw [Nat.sub_self] at hf
      obtain rfl : true = R := hf
      go_wp2_with fail
      go_ret
      exact ⟨rfl, hb⟩
def idAt (zs : List Int) (p : Int) (i : Nat) : Bool := match zs[i]? with | some z => decide (0 ≤ z) && (decide (z < p) && (decide (i = 0) || decide (zs.getD (i - 1) 0 < z))) | none => true
/-- Are these ids of p names, rising? -/
def idsOk (zs : List Int) (p : Int) : Bool := allI (idAt zs p) zs.length 0
set_option maxRecDepth 100000 in
set_option maxHeartbeats 1000000 in
theorem ids_w {F : Fz} {w : World} (hF : Sat F w) (zs : List Int) (A : Option Addr) (n c : Nat) (hn : n ≤ 1000000000) (hr : Rd F 1 A n (zs.map (Value.int .i64))) (p : Int) (R : Bool) (hR : idsOk zs p = R) :
    Calls Try.prog 30 #[.slice A n c, .int .i64 p] w fun e w' => e = .returned (.bool R) ∧ w = w' := by
  have hl : zs.length = n := by have := hr.1; simp at this; omega
  unfold idsOk at hR
  rw [hl] at hR
  have HL := Lib.hid hl
  have HR := Lib.hid hR
  clear hl hR
  go_enter Try.func30, Try.ntmps30
  go_wp2_with fail
  go_loop [5, 6, 9] (fun _ _ v9 => ∃ j : Nat, j ≤ n ∧ v9 = .int .i64 j ∧ allI (idAt zs p) (n - j) j = R) (fun _ _ v9 => n - (intOf v9).toNat)
  case atStart => exact ⟨0, Nat.zero_le _, rfl, HR.out⟩
  case round =>
    obtain ⟨j, hj, rfl, hf⟩ := hrel
    by_cases hlt : j < n
    · have hjI : (j : Int) < (n : Int) := by omega
      obtain ⟨ad, v, eA, hv, hcell⟩ := hr.at1 hlt
      subst eA
      obtain ⟨z, hz⟩ : ∃ z, zs[j]? = some z := ⟨_, List.getElem?_eq_getElem (by have := HL.out; omega)⟩
      obtain rfl : Value.int .i64 z = v := by simpa [hz] using hv
      have hcw := hF.cell hcell
      obtain ⟨m, hm⟩ : ∃ m, n - j = m + 1 := ⟨n - j - 1, by omega⟩
      have HM : Hid (n - (j + 1) = m) := Lib.hid (by omega)
      rw [hm] at hf
      unfold allI idAt at hf
      rw [hz] at hf
      dsimp only at hf
      have HF := Lib.hid hf
      clear hm hv hz hcell hf HR
      by_cases g1 : z < 0
      · obtain rfl : false = R := by rw [← HF.out, decide_eq_false (by omega)]; rfl
        clear HF hr
        go_wp2_with fail
        go_ret
        exact ⟨rfl, rfl⟩
      have d1 : decide (z < 0) = false := decide_eq_false g1
      by_cases g2 : p ≤ z
      · obtain rfl : false = R := by rw [← HF.out, decide_eq_true (show 0 ≤ z by omega), decide_eq_false (show ¬ z < p by omega)]; rfl
        clear HF hr
        go_wp2_with fail
        go_ret
        exact ⟨rfl, rfl⟩
      have d2 : decide (p ≤ z) = false := decide_eq_false g2
      have HF2 := HF.out
      rw [decide_eq_true (show 0 ≤ z by omega), decide_eq_true (show z < p by omega), Bool.true_and, Bool.true_and] at HF2
      clear HF
      by_cases g3 : j = 0
      · have d3 : decide ((0 : Int) < (j : Int)) = false := decide_eq_false (by omega)
        have d3' : decide (0 < j) = false := decide_eq_false (by omega)
        rw [decide_eq_true g3, Bool.true_or, Bool.true_and] at HF2
        have HF3 := Lib.hid HF2
        clear HF2 hr g1 g2 g3
        go_wp2_with fail
        go_round
        case rel => exact ⟨j + 1, by omega, by go_num, by rw [HM.out]; exact HF3.out⟩
        case measure => simp [intOf]; omega
      · have d3 : (0 : Int) < (j : Int) := by omega
        obtain ⟨ad', v', e', hv', hc'⟩ := hr.at1 (k := j - 1) (by omega)
        injection e' with e'
        subst e'
        obtain ⟨y, hy⟩ : ∃ y, zs[j - 1]? = some y := ⟨_, List.getElem?_eq_getElem (by have := HL.out; omega)⟩
        obtain rfl : Value.int .i64 y = v' := by simpa [hy] using hv'
        have hcp := hF.cell hc'
        have hjp : IntKind.i64.wrap ((j : Int) - 1) = ((j - 1 : Nat) : Int) := by rw [show (j : Int) - 1 = ((j - 1 : Nat) : Int) by omega]; exact IntWalk.i64_in _ (by omega)
        have hjp2 : (j : Int) - 1 = ((j - 1 : Nat) : Int) := by omega
        have hjp3 : ((j - 1 : Nat) : Int) < (n : Int) := by omega
        rw [List.getD, hy, Option.getD_some, decide_eq_false g3, Bool.false_or] at HF2
        by_cases g4 : z ≤ y
        · rw [decide_eq_false (show ¬ y < z by omega)] at HF2
          obtain rfl : false = R := HF2
          clear hv' hy hc' hr g1 g2 g3
          go_wp2_with fail
          go_ret
          exact ⟨rfl, rfl⟩
        · rw [decide_eq_true (show y < z by omega), Bool.true_and] at HF2
          have HF3 := Lib.hid HF2
          have d4 : decide (z ≤ y) = false := decide_eq_false g4
          clear HF2 hv' hy hc' hr g1 g2 g3 g4
          go_wp2_with fail
          go_round
          case rel => exact ⟨j + 1, by omega, by go_num, by rw [HM.out]; exact HF3.out⟩
          case measure => simp [intOf]; omega
    · obtain rfl : j = n := by omega
      have hdec : decide ((j : Int) < (j : Int)) = false := decide_eq_false (by omega)
      rw [Nat.sub_self] at hf
      obtain rfl : true = R := hf
      go_wp2_with fail
      go_ret
      exact ⟨rfl, rfl⟩
def evtAt (p : Nat) (es : List Evt) (i : Nat) : Bool := match es[i]? with | some e => idsOk e.ids p && (decide (i = 0) || decide (timeE es (i - 1) ≤ e.time)) | none => true
/-- May the trace be? -/
def mayT (ss : List ByteArray) (es : List Evt) : Bool := namesOk ss && allI (evtAt ss.length es) es.length 0
set_option maxRecDepth 100000 in
set_option maxHeartbeats 2000000 in
theorem mayT_w {F : Fz} {w : World} (hF : Sat F w) (ss : List ByteArray) (es : List Evt) (An : Option Addr) (nn cn : Nat) (hcn : nn ≤ cn) (hN : Rd F 1 An nn (ss.map Value.string)) (Ae : Option Addr) (ne ce : Nat) (hne : ne ≤ 1000000000) (hE : EvsF F Ae ne es) (hid : ∀ e ∈ es, e.ids.length ≤ 1000000000) (R : Bool) (hR : mayT ss es = R) :
    Calls Try.prog 13 #[.agg #[.slice An nn cn, .slice Ae ne ce]] w fun e w' => e = .returned (.bool R) ∧ Below w.heap.size w w' := by
  have hb0 := balloc w (.cells #[.slice An nn cn, .slice Ae ne ce] 27)
  have HB := Lib.hid (Blk.new w 27 #[.slice An nn cn, .slice Ae ne ce])
  have hF0 := hF.below hb0
  obtain ⟨t0, t1, _, _⟩ := blkA HB.out
  have hls : ss.length = nn := by have := hN.1; simp at this; omega
  have hle : es.length = ne := hE.1
  unfold mayT at hR
  rw [hls, hle] at hR
  have HE := Lib.hid hE
  have HL := Lib.hid hle
  have HID := Lib.hid hid
  obtain ⟨a, ha⟩ : ∃ a, namesOk ss = a := ⟨_, rfl⟩
  rw [ha] at hR
  have HNm := Lib.hid (tnames_w hF0 ss An nn cn hcn hN a ha)
  clear ha hN hle hls hid hE
  cases a with
  | false =>
    obtain rfl : false = R := hR
    go_enter Try.func13, Try.ntmps13
    go_wp2_with (go_at_call 29; refine HNm.out.mono ?_; rintro e w1 ⟨rfl, hw1⟩)
    go_ret
    exact ⟨rfl, bthen hb0 hw1⟩
  | true =>
    rw [Bool.true_and] at hR
    have HR := Lib.hid hR
    clear hR
    go_enter Try.func13, Try.ntmps13
    go_wp2_with (go_at_call 29; refine HNm.out.mono ?_; rintro e w1 ⟨rfl, hw1⟩; obtain ⟨t0, t1, _, _⟩ := blkA (HB.out.call hw1))
    have hb1 := bthen hb0 hw1
    have HB1 := Lib.hid (HB.out.call hw1)
    go_loopw [3, 4, 12] (fun _ _ v12 wr => ∃ j : Nat, j ≤ ne ∧ v12 = .int .i64 j ∧ allI (evtAt nn es) (ne - j) j = R ∧ Below w.heap.size w wr ∧ Below w1.heap.size w1 wr) (fun _ _ v12 _ => ne - (intOf v12).toNat)
    case atStart => exact ⟨0, Nat.zero_le _, rfl, HR.out, hb1, Below.refl _ _⟩
    case round =>
      obtain ⟨j, hj, rfl, hf, hb, hb'⟩ := hrel
      have hFr := hF.below hb
      by_cases hlt : j < ne
      · have hjI : (j : Int) < (ne : Int) := by omega
        have hjl : j < es.length := by have := HL.out; omega
        obtain ⟨ad, eA, hh⟩ := HE.out.2 (by omega)
        obtain ⟨htj, Ai, ci, hci, hri, hc0, hc1⟩ := hh j hjl
        have hidl := HID.out _ (List.getElem_mem hjl)
        obtain ⟨m, hm⟩ : ∃ m, ne - j = m + 1 := ⟨ne - j - 1, by omega⟩
        have HM : Hid (ne - (j + 1) = m) := Lib.hid (by omega)
        rw [hm] at hf
        unfold allI evtAt at hf
        rw [List.getElem?_eq_getElem hjl] at hf
        dsimp only at hf
        obtain ⟨ev, hev⟩ : ∃ ev, es[j] = ev := ⟨_, rfl⟩
        rw [hev] at hf hri hc0 hc1 hci htj hidl
        obtain ⟨tj, ids⟩ := ev
        dsimp only at hf hri hc0 hc1 hci htj hidl
        obtain ⟨a, ha⟩ : ∃ a, idsOk ids nn = a := ⟨_, rfl⟩
        rw [ha] at hf
        obtain ⟨ni, hni⟩ : ∃ ni, ids.length = ni := ⟨_, rfl⟩
        rw [hni] at hri hc1 hidl
        have HI := Lib.hid (fun (X : World) (h : Sat F X) => ids_w h ids Ai ni ci hidl hri nn a ha)
        subst eA
        have hbA := balloc wr (.cells #[.int .u64 (tj : Nat), .slice Ai ni ci] 31)
        obtain ⟨e0, e1, _, _⟩ := blkA (Blk.new wr 31 #[.int .u64 (tj : Nat), .slice Ai ni ci])
        have hFA := hFr.below hbA
        have hbA1 := bthen hb hbA
        have hbA2 := bthen hb' hbA
        obtain ⟨t0, t1, _, _⟩ := blkA (HB1.out.call hbA2)
        have z0 := hFr.cell hc0
        have z1 : wr.cell? ⟨(ad.add (j * 2)).block, (ad.add (j * 2)).off + 1, none⟩ = some (.slice Ai ni ci) := hFr.cell hc1
        have HF := Lib.hid hf
        by_cases g0 : a = false
        · subst g0
          obtain rfl : false = R := HF.out
          clear hf HF hm ha hni hev hh hri hc0 hc1 hci htj
          go_wp2_with fail
          go_quiet ((go_at_call 30; exact quiet_eq (HI.out _ (hFA.drewN _))))
          go_wp2_with fail
          go_ret
          exact ⟨rfl, below_drewN hbA1 _⟩
        obtain rfl : a = true := by cases a; exact absurd rfl g0; rfl
        by_cases g1 : j = 0
        · have d3 : decide ((0 : Int) < (j : Int)) = false := decide_eq_false (by omega)
          have d3' : decide (0 < j) = false := decide_eq_false (by omega)
          have HF3 : Hid (allI (evtAt nn es) m (j + 1) = R) := Lib.hid (by have := HF.out; rw [decide_eq_true g1] at this; exact this)
          clear hf HF hm ha hni hev hh hri hc0 hc1 hci htj g0 g1
          go_wp2_with fail
          go_quiet ((go_at_call 30; exact quiet_eq (HI.out _ (hFA.drewN _))))
          go_wp2_with fail
          go_roundw
          case rel => exact ⟨j + 1, by omega, by go_num, by rw [HM.out]; exact HF3.out, below_drewN hbA1 _, below_drewN hbA2 _⟩
          case measure => simp [intOf]; omega
        · have d3 : (0 : Int) < (j : Int) := by omega
          have d3' : decide (0 < j) = true := decide_eq_true (by omega)
          obtain ⟨htp, ad', e', hcp⟩ := HE.out.at_ (i := j - 1) (by omega)
          injection e' with e'
          subst e'
          have zp := hFA.cell hcp
          obtain ⟨tp, htp'⟩ : ∃ tp, timeE es (j - 1) = tp := ⟨_, rfl⟩
          rw [htp'] at zp
          have hjp : IntKind.i64.wrap ((j : Int) - 1) = ((j - 1 : Nat) : Int) := by rw [show (j : Int) - 1 = ((j - 1 : Nat) : Int) by omega]; exact IntWalk.i64_in _ (by omega)
          have hjp2 : (j : Int) - 1 = ((j - 1 : Nat) : Int) := by omega
          have hjp3 : ((j - 1 : Nat) : Int) < (ne : Int) := by omega
          have HF2 : (decide (tp ≤ tj) && allI (evtAt nn es) m (j + 1)) = R := by have := HF.out; rw [decide_eq_false g1, htp'] at this; exact this
          by_cases g2 : tj < tp
          · rw [decide_eq_false (by omega)] at HF2
            obtain rfl : false = R := HF2
            have g2I : (tj : Int) < (tp : Int) := by omega
            have g2d' : decide (tj < tp) = true := decide_eq_true g2
            clear hf HF hm ha hni hev hh hri hc0 hc1 hci htj g0 g1 htp htp' hcp
            go_wp2_with fail
            go_quiet ((go_at_call 30; exact quiet_eq (HI.out _ (hFA.drewN _))))
            go_wp2_with fail
            go_ret
            exact ⟨rfl, below_drewN hbA1 _⟩
          · rw [decide_eq_true (show tp ≤ tj by omega), Bool.true_and] at HF2
            have HF3 := Lib.hid HF2
            have g2d : decide ((tj : Int) < (tp : Int)) = false := decide_eq_false (by omega)
            have g2d' : decide (tj < tp) = false := decide_eq_false g2
            clear hf HF HF2 hm ha hni hev hh hri hc0 hc1 hci htj g0 g1 htp htp' hcp g2
            go_wp2_with fail
            go_quiet ((go_at_call 30; exact quiet_eq (HI.out _ (hFA.drewN _))))
            go_wp2_with fail
            go_roundw
            case rel => exact ⟨j + 1, by omega, by go_num, by rw [HM.out]; exact HF3.out, below_drewN hbA1 _, below_drewN hbA2 _⟩
            case measure => simp [intOf]; omega
      · obtain rfl : j = ne := by omega
        have hdec : decide ((j : Int) < (j : Int)) = false := decide_eq_false (by omega)
        rw [Nat.sub_self] at hf
        obtain rfl : true = R := hf
        go_wp2_with fail
        go_ret
        exact ⟨rfl, hb⟩
set_option maxRecDepth 100000 in
theorem indexZ_w {F : Fz} {w : World} (hF : Sat F w) (zs : List Int) (A : Option Addr) (n c : Nat) (hn : n ≤ 1000000000) (hr : Rd F 1 A n (zs.map (Value.int .i64))) (x : Int) (R : Int) (hR : idxZ zs x = R) :
    Calls Try.prog 39 #[.slice A n c, .int .i64 x] w fun e w' => e = .returned (.int .i64 R) ∧ w = w' := by
  have hl : zs.length = n := by have := hr.1; simp at this; omega
  unfold idxZ at hR
  rw [hl] at hR
  have HL := Lib.hid hl
  have HR := Lib.hid hR
  clear hl hR
  go_enter Try.func39, Try.ntmps39
  go_wp2_with fail
  go_loop [5, 8] (fun _ v8 => ∃ j : Nat, j ≤ n ∧ v8 = .int .i64 j ∧ firstI (fun i => decide (zs[i]? = some x)) (n - j) j = R) (fun _ v8 => n - (intOf v8).toNat)
  case atStart => exact ⟨0, Nat.zero_le _, rfl, HR.out⟩
  case round =>
    obtain ⟨j, hj, rfl, hf⟩ := hrel
    by_cases hlt : j < n
    · have hjI : (j : Int) < (n : Int) := by omega
      obtain ⟨ad, v, rfl, hv, hc⟩ := hr.at1 hlt
      obtain ⟨s, hs⟩ : ∃ s, zs[j]? = some s := ⟨_, List.getElem?_eq_getElem (by have := HL.out; omega)⟩
      obtain rfl : Value.int .i64 s = v := by simpa [hs] using hv
      have hcw := hF.cell hc
      obtain ⟨m, hm⟩ : ∃ m, n - j = m + 1 := ⟨n - j - 1, by omega⟩
      have HM : Hid (n - (j + 1) = m) := Lib.hid (by omega)
      rw [hm] at hf
      unfold firstI at hf
      rw [hs] at hf
      clear hm hv hs hc
      by_cases e : x = s
      · subst e
        rw [if_pos (by simp)] at hf
        subst hf
        clear hr HR
        go_wp2_with fail
        go_ret
        exact ⟨rfl, rfl⟩
      · have hb : (x == s) = false := by rw [beq_eq_false_iff_ne]; exact e
        rw [if_neg (by simp; exact fun h => e h.symm)] at hf
        have HF := Lib.hid hf
        clear hf e
        go_wp2_with fail
        go_round
        case rel => exact ⟨j + 1, by omega, by go_num, by rw [HM.out]; exact HF.out⟩
        case measure => simp [intOf]; omega
    · obtain rfl : j = n := by omega
      have hdec : decide ((j : Int) < (j : Int)) = false := decide_eq_false (by omega)
      rw [Nat.sub_self] at hf
      obtain rfl : -1 = R := hf
      go_wp2_with fail
      go_ret
      exact ⟨rfl, rfl⟩
def hasZ (zs : List Int) (x : Int) : Bool := decide (0 ≤ idxZ zs x)
theorem hasZ_iff {zs : List Int} {x : Int} : hasZ zs x = true ↔ x ∈ zs := by
  unfold hasZ idxZ
  rw [decide_eq_true_iff, firstI_neg]
  constructor
  · rintro ⟨j, _, _, h⟩
    exact List.mem_of_getElem? (decide_eq_true_iff.1 h)
  · intro h
    obtain ⟨j, hj⟩ := List.getElem?_of_mem h
    exact ⟨j, Nat.zero_le _, by have := (List.getElem?_eq_some_iff.1 hj).1; omega, decide_eq_true hj⟩
set_option maxRecDepth 100000 in
theorem containsZ_w {F : Fz} {w : World} (hF : Sat F w) (zs : List Int) (A : Option Addr) (n c : Nat) (hn : n ≤ 1000000000) (hr : Rd F 1 A n (zs.map (Value.int .i64))) (x : Int) :
    Calls Try.prog 27 #[.slice A n c, .int .i64 x] w fun e w' => e = .returned (.bool (hasZ zs x)) ∧ w = w' := by
  obtain ⟨K, hK⟩ : ∃ K, idxZ zs x = K := ⟨_, rfl⟩
  have HI := Lib.hid (indexZ_w hF zs A n c hn hr x K hK)
  obtain ⟨R, hR⟩ : ∃ R, hasZ zs x = R := ⟨_, rfl⟩
  rw [hR]
  have HR : Hid (decide (0 ≤ K) = R) := Lib.hid (by rw [← hR, ← hK]; rfl)
  clear hr hR hK
  go_enter Try.func27, Try.ntmps27
  go_wp2_with (go_at_call 39; refine HI.out.mono ?_; rintro e w' ⟨rfl, rfl⟩)
  go_ret
  exact ⟨by rw [← HR.out]; rfl, rfl⟩
end Go.Proofs.Ytgmbicjcfhmcdaa
/-! Truth of one node by its kind, as the program tells it; a test's place: plain lemmas. -/
namespace Go.Proofs.Ytgmbicjcfhmcdaa
end Go.Proofs.Ytgmbicjcfhmcdaa
