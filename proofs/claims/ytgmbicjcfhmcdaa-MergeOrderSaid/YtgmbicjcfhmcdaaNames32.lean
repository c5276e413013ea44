/- The walk of merge.names: all names, each once, and of each trace where its names are. -/
import Derived.Test.YtgmbicjcfhmcdaaMoved32
import Derived.Test.YtgmbicjcfhmcdaaMergeT
set_option linter.unusedVariables false
set_option linter.unusedSimpArgs false
/-! The walk of merge.names: all names, each once, and of each trace where its names are. -/
namespace Go.Proofs.Ytgmbicjcfhmcdaa
open Go.RowKit
attribute [local go_sem ↓] Go.wp_at_zero Go.wp_at_succ
/-- The slice at A of n traces reads as ls. -/
def TrsF (F : Fz) (A : Option Addr) (n : Nat) (ls : List TrS) : Prop := ls.length = n ∧ (0 < n → ∃ ad, A = some ad ∧ ∀ q (h : q < ls.length), ∃ An cn Ae ce, ls[q].1.length ≤ cn ∧ ls[q].2.length ≤ ce ∧ F.cell (ad.add (q * 2)) = some (.slice An ls[q].1.length cn) ∧ F.cell ((ad.add (q * 2)).add 1) = some (.slice Ae ls[q].2.length ce) ∧ Rd F 1 An ls[q].1.length (ls[q].1.map Value.string) ∧ EvsF F Ae ls[q].2.length ls[q].2)
theorem TrsF.cle {F F' : Fz} {A : Option Addr} {n : Nat} {ls : List TrS} (h : TrsF F A n ls) (hle : CLe F F') : TrsF F' A n ls :=
  ⟨h.1, fun h0 => let ⟨ad, e, hh⟩ := h.2 h0; ⟨ad, e, fun q hq => let ⟨An, cn, Ae, ce, h1, h2, h3, h4, h5, h6⟩ := hh q hq; ⟨An, cn, Ae, ce, h1, h2, hle _ _ h3, hle _ _ h4, h5.cle hle, h6.cle hle⟩⟩⟩
/-- The names when i traces, and j names of the next one, are gone through. -/
def outS (ls : List TrS) (i j : Nat) : List ByteArray := ((ls.take i).flatMap (fun t => t.1) ++ (ls.getD i default).1.take j).foldl addS []
theorem outS_zero (ls : List TrS) : outS ls 0 0 = [] := by unfold outS; simp
theorem outS_next {ls : List TrS} {i : Nat} (hi : i < ls.length) : outS ls (i + 1) 0 = outS ls i (ls[i].1.length) := by
  unfold outS
  have e : ls.getD i default = ls[i] := by rw [List.getD, List.getElem?_eq_getElem hi]; rfl
  rw [e, List.take_length, List.take_zero, List.append_nil, List.take_succ_eq_append_getElem hi, List.flatMap_append]
  simp
theorem outS_step {ls : List TrS} {i j : Nat} (hi : i < ls.length) (hj : j < ls[i].1.length) : outS ls i (j + 1) = addS (outS ls i j) ls[i].1[j] := by
  unfold outS
  have e : ls.getD i default = ls[i] := by rw [List.getD, List.getElem?_eq_getElem hi]; rfl
  rw [e, List.take_succ_eq_append_getElem hj, ← List.append_assoc, List.foldl_append]
  rfl
theorem outS_stepQ {ls : List TrS} {i j : Nat} {s : ByteArray} (hi : i < ls.length) (h : ls[i].1[j]? = some s) : outS ls i (j + 1) = addS (outS ls i j) s := by
  obtain ⟨hj, rfl⟩ := List.getElem?_eq_some_iff.1 h
  exact outS_step hi hj
theorem outS_all (ls : List TrS) : outS ls ls.length 0 = namesT ls := by
  unfold outS namesT unionS
  simp
theorem outS_prefix (ls : List TrS) (i j : Nat) (hi : i < ls.length) : outS ls i j <+: namesT ls := by
  have e : ls.getD i default = ls[i] := by rw [List.getD, List.getElem?_eq_getElem hi]; rfl
  have hs : ls.flatMap (fun t => t.1) = ((ls.take i).flatMap (fun t => t.1) ++ ls[i].1.take j) ++ (ls[i].1.drop j ++ (ls.drop (i + 1)).flatMap fun t => t.1) := by
    conv => lhs; rw [← List.take_append_drop i ls]
    rw [List.flatMap_append, List.drop_eq_getElem_cons hi, List.flatMap_cons, List.append_assoc, ← List.append_assoc (ls[i].1.take j), List.take_append_drop]
  have key : ∀ P R : List ByteArray, P.foldl addS [] <+: (P ++ R).foldl addS [] := fun P R => by rw [List.foldl_append]; exact fold_prefix _ _
  unfold outS namesT unionS
  rw [e, hs]
  exact key _ _
theorem wpList_pushSt {w : World} {ops : Array Oper} {rest : List Oper} {o : Oper} {a : Act} {Q : Exit → Act → World → Prop} (hgd : o.guard = none) (s x : Operand)
    (ho : o.op = .call { callee := .builtin .append, args := #[s, x], argTypes := #[24, 24] })
    {F : Fz} {B n : Nat} {v : Value} {xs : List ByteArray} (hown : Own F w B 9 1 v n (xs.map Value.string)) (hF : Sat F w) (hs : a.eval s = v)
    (g c : Nat) (y : ByteArray) (hx : a.eval x = .slice (some ⟨g, 0, none⟩) 1 c) (hg : Blk w g 9 #[.string y]) (hn : n + 1 ≤ 1000000) (hB : B ≤ w.heap.size)
    (h : ∀ v' w', Own F w' B 9 1 v' (n + 1) ((xs ++ [y]).map Value.string) → Sat F w' → Below B w w' → w.grownBy w' v.ownBlock → (v'.ownBlock = v.ownBlock ∨ v'.ownBlock = some w.heap.size) → wpList Try.prog ops Q rest (a.put o.dst v') w') :
    wpList Try.prog ops Q (o :: rest) a w := by
  refine wpList_push hgd s x _ ho 9 (.string ⟨#[]⟩) 1 16 Try.underlying24 (by kernel_rfl) rfl (by omega) hown hF hs g c #[.string y] hx hg rfl (by intro v hv; simp at hv; subst hv; rfl) (by simp [maxLen]; omega) (by omega) hB ?_
  intro v' w' h1 h2 h3 h4 h5
  exact h v' w' (by rw [List.map_append]; exact h1) h2 h3 h4 h5
theorem mkRows (n : Nat) (hn : n ≤ 1000) (w : World) : (Instr.makeSlice 56 (.int .i64 (n : Int)) (.int .i64 (n : Int))).run Try.prog w = .ok (.slice (some ⟨w.heap.size, 0, none⟩) n n) (w.alloc (.cells (zeros (.slice none 0 0) n) 29)) :=
  run_make1 _ _ _ 24 Try.underlying56 (by kernel_rfl) rfl n (by omega) (by omega) w
/-- The table of the places: the first i rows are told. -/
def PlT (B : Nat) (F : Fz) (w : World) (g n i : Nat) (U : List ByteArray) (ls : List TrS) (v : Value) : Prop := ∃ us : List Value, Blk w g 29 us.toArray ∧ us.length = n ∧ (∀ q (h : q < ls.length), q < i → ∃ A c, us[q]? = some (.slice A ls[q].1.length c) ∧ Rd F 1 A ls[q].1.length ((ls[q].1.map (idxS U)).map encI) ∧ ∀ a, A = some a → B ≤ a.block) ∧ (i < n → us[i]? = some v) ∧ ∀ q, i < q → q < n → us[q]? = some (.slice none 0 0)
theorem PlT.bel {B0 : Nat} {F : Fz} {w w' : World} {g n i B : Nat} {U : List ByteArray} {ls : List TrS} {v : Value} (h : PlT B0 F w g n i U ls v) (hb : Below B w w') (hg : g < B) : PlT B0 F w' g n i U ls v :=
  let ⟨us, h1, h2, h3, h4, h5⟩ := h
  ⟨us, h1.below hb hg, h2, h3, h4, h5⟩
theorem PlT.lt {B0 : Nat} {F : Fz} {w : World} {g n i : Nat} {U : List ByteArray} {ls : List TrS} {v : Value} (h : PlT B0 F w g n i U ls v) : g < w.heap.size := let ⟨_, h1, _⟩ := h; h1.lt
theorem PlT.at_ {B0 : Nat} {F : Fz} {w : World} {g n i : Nat} {U : List ByteArray} {ls : List TrS} {v : Value} (h : PlT B0 F w g n i U ls v) (hi : i < n) : w.cell? ⟨g, i, none⟩ = some v ∧ w.frozen? ⟨g, i, none⟩ = false := by
  obtain ⟨us, h1, h2, h3, h4, h5⟩ := h
  exact ⟨by rw [h1.cell]; simpa using h4 hi, h1.frozen i⟩
theorem PlT.set {B0 : Nat} {F : Fz} {w : World} {g n i : Nat} {U : List ByteArray} {ls : List TrS} {v : Value} (h : PlT B0 F w g n i U ls v) (hi : i < n) (v' : Value) : PlT B0 F (w.setCell ⟨g, i, none⟩ v') g n i U ls v' := by
  obtain ⟨us, h1, h2, h3, h4, h5⟩ := h
  refine ⟨us.set i v', by have := h1.set_ i v'; simpa using this, by simp [h2], fun q hq hqi => ?_, fun _ => by rw [List.getElem?_set_self (by omega)], fun q hq1 hq2 => ?_⟩
  · rw [List.getElem?_set_ne (by omega)]; exact h3 q hq hqi
  · rw [List.getElem?_set_ne (by omega)]; exact h5 q hq1 hq2
theorem PlT.next {B0 : Nat} {F F' : Fz} {w : World} {g n i c : Nat} {A : Option Addr} {U : List ByteArray} {ls : List TrS} (hi : i < ls.length) (hn : ls.length = n) (h : PlT B0 F w g n i U ls (.slice A ls[i].1.length c)) (hle : CLe F F') (hr : Rd F' 1 A ls[i].1.length ((ls[i].1.map (idxS U)).map encI)) (hB : ∀ a, A = some a → B0 ≤ a.block) : PlT B0 F' w g n (i + 1) U ls (.slice none 0 0) := by
  obtain ⟨us, h1, h2, h3, h4, h5⟩ := h
  refine ⟨us, h1, h2, fun q hq hqi => ?_, fun hi1 => h5 (i + 1) (by omega) hi1, fun q hq1 hq2 => h5 q (by omega) hq2⟩
  by_cases e : q = i
  · subst e
    exact ⟨A, c, h4 (by omega), hr, hB⟩
  · obtain ⟨A', c', e1, e2, e3⟩ := h3 q hq (by omega)
    exact ⟨A', c', e1, e2.cle hle, e3⟩
theorem PlT.start (B0 : Nat) (F : Fz) (w : World) (n : Nat) (U : List ByteArray) (ls : List TrS) : PlT B0 F (w.alloc (.cells (zeros (.slice none 0 0) n) 29)) w.heap.size n 0 U ls (.slice none 0 0) :=
  ⟨List.replicate n (.slice none 0 0), Blk.new w _ _, by simp, fun q _ h => absurd h (by omega), fun h => by simp [h], fun q _ h => by simp [h]⟩
set_option maxRecDepth 100000 in
set_option maxHeartbeats 8000000 in
theorem names32_w {F : Fz} {w : World} (hF : Sat F w) (ls : List TrS) (A : Option Addr) (n c : Nat) (hl : TrsF F A n ls) (hn : n ≤ 100) (hb : ∀ t ∈ ls, t.1.length ≤ 1000) (U : List ByteArray) (hU : namesT ls = U) (hUl : U.length ≤ 100000) :
    Calls Try.prog 18 #[.slice A n c] w fun e w' => ∃ Ao co ga, e = .returned (.tuple #[.slice Ao U.length co, .slice (some ⟨ga, 0, none⟩) n n]) ∧ U.length ≤ co ∧ Below w.heap.size w w' ∧ Rd (heapF w') 1 Ao U.length (U.map Value.string) ∧ PlT w.heap.size (heapF w') w' ga n n U ls (.slice none 0 0) ∧ w.heap.size ≤ ga ∧ ∀ a, Ao = some a → w.heap.size ≤ a.block := by
  have hln := hl.1
  have HL := Lib.hid hl
  have HLN := Lib.hid hln
  have HBD := Lib.hid hb
  have HU := Lib.hid hU
  have hUn : U.Nodup := by rw [← hU]; exact union_nodup _
  have HUN := Lib.hid hUn
  have HUL := Lib.hid hUl
  have hmk := fun (X : World) => mkRows n (by omega) X
  have hnb : n ≤ 1000 := by omega
  have HF := Lib.hid hF
  clear hl hln hb hU hUn hUl
  go_enter Try.func18, Try.ntmps18
  go_wp2_with fail
  have hP0 := PlT.start w.heap.size F w n U ls
  obtain ⟨W, hW⟩ : ∃ W, w.alloc (.cells (zeros (.slice none 0 0) n) 29) = W := ⟨_, rfl⟩
  have hbW : Below w.heap.size w W := hW ▸ balloc _ _
  rw [hW] at hP0 ⊢
  have hFW := hF.below hbW
  have hFg : F w.heap.size = none := hF.none_ (Nat.le_refl _)
  clear hW hmk hF
  go_loopw [4, 6, 7, 9, 10, 16] (fun v4 _ _ _ _ v16 wr => ∃ (i : Nat) (F' : Fz) (ss : List ByteArray) (Ao : Option Addr) (no co : Nat), i ≤ n ∧ v16 = .int .i64 i ∧ v4 = .slice Ao no co ∧ no ≤ co ∧ no ≤ 100000 ∧ Hid (ss = outS ls i 0) ∧ Hid (ss.length = no) ∧ Own F' wr (w.heap.size + 1) 9 1 (.slice Ao no co) no (ss.map Value.string) ∧ PlT w.heap.size F' wr w.heap.size n i U ls (.slice none 0 0) ∧ Sat F' wr ∧ Fle w F F' ∧ F' w.heap.size = none ∧ Below w.heap.size w wr) (fun _ _ _ _ _ v16 _ => n - (intOf v16).toNat)
  case atStart => exact ⟨0, F, [], none, 0, 0, Nat.zero_le _, rfl, rfl, Nat.le_refl _, by omega, Lib.hid (outS_zero ls).symm, Lib.hid rfl, Own.nil _ _ _ _ _, hP0, hFW, Fle.refl _ _, hFg, hbW⟩
  case round =>
    obtain ⟨i, F', ss, Ao, no, co, hi, rfl, rfl, hnc, hno, HS, HN, hO, hP, hFr, hle, hFn, hbl⟩ := hrel
    clear hP0 hbW hFW hFg
    by_cases hlt : i < n
    · have hiI : (i : Int) < (n : Int) := by omega
      have hil : i < ls.length := by rw [HLN.out]; exact hlt
      obtain ⟨ad, rfl, hrow⟩ := HL.out.2 (by omega)
      obtain ⟨An, cn, Ae, ce, hcn, hce, c0, c1, hrn, hev⟩ := hrow i hil
      have hFw : Sat F wr := HF.out.below hbl
      have z0 := hFw.cell c0
      have z1 := hFw.cell c1
      have hbk := HBD.out _ (List.getElem_mem hil)
      have HS1 : Hid (ss = outS ls i 0) := HS
      have HNX := Lib.hid (outS_next hil)
      have HST := Lib.hid (fun j s h => outS_stepQ (j := j) (s := s) hil h)
      have HPX := Lib.hid (fun j => outS_prefix ls i j hil)
      have HNEXT := Lib.hid (fun (G G' : Fz) (X : World) (A : Option Addr) (c : Nat) h1 h2 h3 h4 => PlT.next (B0 := w.heap.size) (F := G) (F' := G') (w := X) (g := w.heap.size) (c := c) (A := A) (U := U) hil HLN.out h1 h2 h3 h4)
      obtain ⟨nm, hnm⟩ : ∃ nm, ls[i].1 = nm := ⟨_, rfl⟩
      obtain ⟨K, hK⟩ : ∃ K, nm.length = K := ⟨_, rfl⟩
      obtain ⟨Q, hQ⟩ : ∃ Q, ls[i].2.length = Q := ⟨_, rfl⟩
      simp only [hnm] at hrn hcn z0 hbk HNX HST HNEXT
      rw [hK] at hrn hcn z0 hbk HNX HNEXT
      rw [hQ] at z1
      have z1' : wr.cell? ⟨(ad.add (i * 2)).block, (ad.add (i * 2)).off + 1, none⟩ = some (.slice Ae Q ce) := z1
      clear z1
      have HNM := Lib.hid hK
      have HO := Lib.hid hO
      have HP := Lib.hid hP
      have HFr := Lib.hid hFr
      have HLE := Lib.hid hle
      have HFN := Lib.hid hFn
      have HBL := Lib.hid hbl
      clear hev hO hP hFr hle hFn hbl hrow c0 c1 hnm hK hQ hFw hil hce
      go_wp2_with fail
      have HBA : Hid (Below w.heap.size w (wr.alloc (.cells #[.slice An K cn, .slice Ae Q ce] 27))) := Lib.hid (HBL.out.alloc HBL.out.size _)
      have HOA := Lib.hid (HO.out.alloc (.cells #[.slice An K cn, .slice Ae Q ce] 27))
      have HPA := Lib.hid (HP.out.bel (balloc wr (.cells #[.slice An K cn, .slice Ae Q ce] 27)) HP.out.lt)
      have HFA := Lib.hid (HFr.out.alloc (.cells #[.slice An K cn, .slice Ae Q ce] 27))
      clear HBL HO HP HFr z0 z1'
      go_loopw [4, 9, 10, 24] (fun v4 _ _ v24 wr => ∃ (j : Nat) (ss : List ByteArray) (Ao : Option Addr) (no co : Nat) (Ar : Option Addr) (cr : Nat), j ≤ K ∧ v24 = .int .i64 j ∧ v4 = .slice Ao no co ∧ no ≤ co ∧ no ≤ 100000 ∧ j ≤ cr ∧ Hid (ss = outS ls i j) ∧ Hid (ss.length = no) ∧ Own F' wr (w.heap.size + 1) 9 1 (.slice Ao no co) no (ss.map Value.string) ∧ Own F' wr (w.heap.size + 1) 3 1 (.slice Ar j cr) j (((nm.take j).map (idxS U)).map encI) ∧ Apart (.slice Ao no co) (.slice Ar j cr) ∧ PlT w.heap.size F' wr w.heap.size n i U ls (.slice Ar j cr) ∧ Sat F' wr ∧ Below w.heap.size w wr) (fun _ _ _ v24 _ => K - (intOf v24).toNat)
      case atStart => exact ⟨0, ss, Ao, no, co, none, 0, Nat.zero_le _, rfl, rfl, hnc, hno, Nat.le_refl _, HS1, HN, HOA.out, Own.nil _ _ _ _ _, fun g _ h => by simp [Value.ownBlock] at h, HPA.out, HFA.out, HBA.out⟩
      case round =>
        clear HS HN HS1 HOA HPA HFA HBA hnc hno
        obtain ⟨j, ss, Ao, no, co, Ar, cr, hj, rfl, rfl, hnc, hno, hjc, HS, HN, hO, hR, hap, hP, hFr, hbl⟩ := hrel
        by_cases hjK : j < K
        · have hjI : (j : Int) < (K : Int) := by omega
          have hjl : j < nm.length := by rw [HNM.out]; exact hjK
          obtain ⟨a0, v0, rfl, hv0, hc0⟩ := hrn.at1 hjK
          rw [List.getElem?_map, List.getElem?_eq_getElem hjl] at hv0
          injection hv0 with hv0
          subst hv0
          have z0 := (HF.out.below hbl).cell hc0
          have hst := HST.out j nm[j] (List.getElem?_eq_getElem hjl)
          have htk : nm.take (j + 1) = nm.take j ++ [nm[j]] := List.take_succ_eq_append_getElem hjl
          have hpx := HPX.out (j + 1)
          rw [hst, ← HS.out, HU.out] at hpx
          rw [← HS.out] at hst
          generalize nm[j] = s at *
          obtain ⟨Ax, cx, ex, hcx, hrd⟩ := hO.rdH
          injection ex with ex1 _ ex3
          subst ex1 ex3
          obtain ⟨R, hR2⟩ : ∃ R, idxS ss s = R := ⟨_, rfl⟩
          have HIX := Lib.hid (indexS_w (sat_heapF wr) ss Ao no co (by omega) hrd s R hR2)
          obtain ⟨q0, f0⟩ := hP.at_ hlt
          have hgl := hP.lt
          have hlt3 := fun g (h : (Value.slice Ao no co).ownBlock = some g) => hO.1.lt g h
          have hlt4 := fun g (h : (Value.slice Ar j cr).ownBlock = some g) => hR.1.lt g h
          by_cases hin : s ∈ ss
          · have hR0 : 0 ≤ R := by rw [← hR2]; exact idxS_mem.2 hin
            have hneg : decide (R < 0) = false := decide_eq_false (by omega)
            have he : addS ss s = ss := by unfold addS; rw [if_pos ((hasS_iff _ _).2 hin)]
            rw [he] at hst hpx
            have HS2 : Hid (ss = outS ls i (j + 1)) := Lib.hid hst.symm
            have HTK : Hid ((nm.take j).map (idxS U) ++ [R] = (nm.take (j + 1)).map (idxS U)) := Lib.hid (by rw [htk, List.map_append, List.map_cons, List.map_nil, ← hR2, idxS_prefix hpx HUN.out hin])
            have HO := Lib.hid hO
            have HR := Lib.hid hR
            have HP := Lib.hid hP
            have HFr := Lib.hid hFr
            have HBL := Lib.hid hbl
            have HAP := Lib.hid hap
            clear hO hR hP hFr hbl hap hc0 htk hpx hst hR2 hrd hjl he hin
            go_wp2_with (first
              | (go_at_call 26; refine HIX.out.mono ?_; rintro e w3 ⟨rfl, rfl⟩)
              | (at_builtin; refine wpList_pushI rfl (.tmp 44) (.tmp 46) rfl (HR.out.alloc _) (HFr.out.alloc _) (by rfl) wr.heap.size 1 R (by rfl) (Blk.new _ _ _) (by omega) (by simp; omega) ?_; intro v6 w6 hO6 hF6 hb6 hg6 hat6; rw [HTK.out] at hO6; have hP6 := ((HP.out.bel (balloc wr (.cells #[.int .i64 R] 3)) hgl).bel hb6 (Nat.lt_succ_self _)).at_ hlt; obtain ⟨q6, f6⟩ := hP6; obtain ⟨A6, c6, hv6, hc6⟩ := hO6.shape; subst hv6))
            have hP6 := (HP.out.bel (balloc wr (.cells #[.int .i64 R] 3)) hgl).bel hb6 (Nat.lt_succ_self _)
            have hS6 := (HO.out.alloc (.cells #[.int .i64 R] 3)).kept hg6 HAP.out.symm.or
            have hap6 : Apart (.slice Ao no co) (.slice A6 (j + 1) c6) := (HAP.out.symm.push (fun g h => by have := (hlt3 g h).2; simp; omega) hat6).symm
            have HP7 := Lib.hid (hP6.set hlt (.slice A6 (j + 1) c6))
            have HO7 := Lib.hid (hO6.setFar (a := ⟨w.heap.size, i, none⟩) (fun e => by have h := (hO6.1.lt _ e).1; have h : w.heap.size + 1 ≤ w.heap.size := h; omega) (.slice A6 (j + 1) c6))
            have HS7 := Lib.hid (hS6.setFar (a := ⟨w.heap.size, i, none⟩) (fun e => by have h := (hS6.1.lt _ e).1; have h : w.heap.size + 1 ≤ w.heap.size := h; omega) (.slice A6 (j + 1) c6))
            have HF7 := Lib.hid (hF6.setCell (p := ⟨w.heap.size, i, none⟩) HFN.out (.slice A6 (j + 1) c6))
            have HB7 : Hid (Below w.heap.size w (w6.setCell ⟨w.heap.size, i, none⟩ (.slice A6 (j + 1) c6))) := Lib.hid (((HBL.out.alloc HBL.out.size (.cells #[.int .i64 R] 3)).trans (hb6.mono (Nat.le_succ _))).setCell (p := ⟨w.heap.size, i, none⟩) (Nat.le_refl _) _)
            clear hP6 hS6 hO6 hF6 hb6 hg6 hat6
            go_wp2_with fail
            go_roundw
            case rel => exact ⟨j + 1, ss, Ao, no, co, A6, c6, by omega, by go_num, rfl, hnc, hno, hc6, HS2, HN, HS7.out, HO7.out, hap6, HP7.out, HF7.out, HB7.out⟩
            case measure => simp [intOf]; omega
          · have hR0 : R < 0 := by
              rcases Int.lt_or_le R 0 with h | h
              · exact h
              · rw [← hR2] at h; exact absurd (idxS_mem.1 h) hin
            have he : addS ss s = ss ++ [s] := by unfold addS; rw [if_neg (fun h => hin ((hasS_iff _ _).1 h))]
            rw [he] at hst hpx
            have HS2 : Hid (ss ++ [s] = outS ls i (j + 1)) := Lib.hid hst.symm
            have hin2 : s ∈ ss ++ [s] := by simp
            have hnx : idxS U s = (no : Int) := by
              rw [← idxS_prefix hpx HUN.out hin2]
              refine idxS_nodup (hpx.sublist.nodup HUN.out) ?_
              rw [List.getElem?_append_right (by rw [HN.out]; exact Nat.le_refl _), HN.out, Nat.sub_self]; rfl
            have HTK : Hid ((nm.take j).map (idxS U) ++ [(no : Int)] = (nm.take (j + 1)).map (idxS U)) := Lib.hid (by rw [htk, List.map_append, List.map_cons, List.map_nil, hnx])
            have hnl : no + 1 ≤ 100000 := by
              have h := hpx.length_le
              have := HUL.out
              rw [List.length_append, HN.out, List.length_singleton] at h
              omega
            have HO := Lib.hid hO
            have HR := Lib.hid hR
            have HP := Lib.hid hP
            have HFr := Lib.hid hFr
            have HBL := Lib.hid hbl
            have HAP := Lib.hid hap
            clear hO hR hP hFr hbl hap hc0 htk hpx hst hR2 hrd hjl he hin hin2 hnx q0 f0
            go_wp2_with (first
              | (go_at_call 26; refine HIX.out.mono ?_; rintro e w3 ⟨rfl, rfl⟩)
              | (at_builtin; refine wpList_pushSt rfl (.tmp 35) (.tmp 37) rfl (HO.out.alloc _) (HFr.out.alloc _) (by rfl) wr.heap.size 1 s (by rfl) (Blk.new _ _ _) (by omega) (by simp; omega) ?_; intro v4 w4 hO4 hF4 hb4 hg4 hat4; have hR4 := (HR.out.alloc (.cells #[.string s] 9)).kept hg4 HAP.out.or; have hP4 := (HP.out.bel (balloc wr (.cells #[.string s] 9)) hgl).bel hb4 (Nat.lt_succ_self _); have hgl4 := hP4.lt; obtain ⟨q4, f4⟩ := hP4.at_ hlt; obtain ⟨A4, c4, hv4, hc4⟩ := hO4.shape; subst hv4; have hap4 : Apart (.slice A4 (no + 1) c4) (.slice Ar j cr) := HAP.out.push (fun g h => by have := (hlt4 g h).2; simp; omega) hat4; have HBL4 : Hid (Below w.heap.size w w4) := Lib.hid ((HBL.out.alloc HBL.out.size (.cells #[.string s] 9)).trans (hb4.mono (Nat.le_succ _))))
              | (at_builtin; refine wpList_pushI rfl (.tmp 44) (.tmp 46) rfl (hR4.alloc _) (hF4.alloc _) (by rfl) w4.heap.size 1 (no : Int) (by rfl) (Blk.new _ _ _) (by omega) (by simp; omega) ?_; intro v6 w6 hO6 hF6 hb6 hg6 hat6; rw [HTK.out] at hO6; have hP6 := ((hP4.bel (balloc w4 (.cells #[.int .i64 (no : Int)] 3)) hgl4).bel hb6 (Nat.lt_succ_self _)).at_ hlt; obtain ⟨q6, f6⟩ := hP6; obtain ⟨A6, c6, hv6, hc6⟩ := hO6.shape; subst hv6))
            have hlt5 := fun g (h : (Value.slice A4 (no + 1) c4).ownBlock = some g) => hO4.1.lt g h
            have hP6 := (hP4.bel (balloc w4 (.cells #[.int .i64 (no : Int)] 3)) hgl4).bel hb6 (Nat.lt_succ_self _)
            have hS6 := (hO4.alloc (.cells #[.int .i64 (no : Int)] 3)).kept hg6 hap4.symm.or
            have hap6 : Apart (.slice A4 (no + 1) c4) (.slice A6 (j + 1) c6) := (hap4.symm.push (fun g h => by have := (hlt5 g h).2; simp; omega) hat6).symm
            have HP7 := Lib.hid (hP6.set hlt (.slice A6 (j + 1) c6))
            have HO7 := Lib.hid (hO6.setFar (a := ⟨w.heap.size, i, none⟩) (fun e => by have h := (hO6.1.lt _ e).1; have h : w.heap.size + 1 ≤ w.heap.size := h; omega) (.slice A6 (j + 1) c6))
            have HS7 := Lib.hid (hS6.setFar (a := ⟨w.heap.size, i, none⟩) (fun e => by have h := (hS6.1.lt _ e).1; have h : w.heap.size + 1 ≤ w.heap.size := h; omega) (.slice A6 (j + 1) c6))
            have HF7 := Lib.hid (hF6.setCell (p := ⟨w.heap.size, i, none⟩) HFN.out (.slice A6 (j + 1) c6))
            have HB7 : Hid (Below w.heap.size w (w6.setCell ⟨w.heap.size, i, none⟩ (.slice A6 (j + 1) c6))) := Lib.hid (((HBL4.out.alloc HBL4.out.size (.cells #[.int .i64 (no : Int)] 3)).trans (hb6.mono (Nat.le_succ _))).setCell (p := ⟨w.heap.size, i, none⟩) (Nat.le_refl _) _)
            clear hP6 hS6 hO6 hF6 hb6 hg6 hat6
            go_wp2_with fail
            go_roundw
            case rel => exact ⟨j + 1, ss ++ [s], A4, (no + 1), c4, A6, c6, by omega, by go_num, rfl, hc4, hnl, hc6, HS2, (Lib.hid (by rw [List.length_append, HN.out]; rfl)), HS7.out, HO7.out, hap6, HP7.out, HF7.out, HB7.out⟩
            case measure => simp [intOf]; omega
        · obtain rfl : j = K := by omega
          have hdec : decide ((j : Int) < (j : Int)) = false := decide_eq_false (by omega)
          have hta : nm.take j = nm := by rw [← HNM.out, List.take_length]
          rw [hta] at hR
          obtain ⟨F2, A2, c2, e2, hc2, hr2, hF2, hle2, hk2⟩ := hR.freeze hFr w (Nat.le_succ _)
          injection e2 with e21 _ e23
          subst e21 e23
          have hlt3 := fun g (h : (Value.slice Ao no co).ownBlock = some g) => hO.1.lt g h
          have hlt4 := fun g (h : (Value.slice Ar j cr).ownBlock = some g) => hR.1.lt g h
          have HP2 := Lib.hid (HNEXT.out F' F2 wr Ar cr hP hle2.cle hr2 (fun a ha => by have := hR.fresh a ha; omega))
          have HO2 : Hid (Own F2 wr (w.heap.size + 1) 9 1 (.slice Ao no co) no (ss.map Value.string)) := Lib.hid ⟨hO.1, fun g hg => (hk2 g (fun e => hap g hg e)).trans (hO.2 g hg)⟩
          have HF2 := Lib.hid hF2
          have HLE2 : Hid (Fle w F F2) := Lib.hid (HLE.out.trans hle2 (Nat.le_refl _))
          have HFN2 : Hid (F2 w.heap.size = none) := Lib.hid ((hk2 _ (fun e => by have h := (hlt4 _ e).1; omega)).trans HFN.out)
          have HS2 : Hid (ss = outS ls (i + 1) 0) := Lib.hid (by rw [HS.out, HNX.out])
          have HBL := Lib.hid hbl
          clear hR hr2 hF2 hle2 hk2 hO hP hFr hbl hap hta
          go_wp2_with fail
          go_roundw
          case rel => exact ⟨i + 1, F2, ss, Ao, no, co, by omega, by go_num, rfl, hnc, hno, HS2, HN, HO2.out, HP2.out, HF2.out, HLE2.out, HFN2.out, HBL.out⟩
          case measure => simp [intOf]; omega
    · obtain rfl : i = n := by omega
      have hdec : decide ((i : Int) < (i : Int)) = false := decide_eq_false (by omega)
      have HE : Hid (ss = U) := Lib.hid (by rw [HS.out, ← HLN.out, outS_all, HU.out])
      have HUn : Hid (U.length = no) := Lib.hid (by rw [← HE.out, HN.out])
      obtain ⟨Ax, cx, ex, hcx, hrd⟩ := hO.rdH
      injection ex with ex1 _ ex3
      subst ex1 ex3
      have HRD : Hid (Rd (heapF wr) 1 Ao no (U.map Value.string)) := Lib.hid (by rw [← HE.out]; exact hrd)
      have HPF : Hid (PlT w.heap.size (heapF wr) wr w.heap.size i i U ls (.slice none 0 0)) := Lib.hid (by
        obtain ⟨us, h1, h2, h3, h4, h5⟩ := hP
        exact ⟨us, h1, h2, fun q hq hqi => let ⟨A, c, e1, e2, e3⟩ := h3 q hq hqi; ⟨A, c, e1, e2.heap hFr, e3⟩, h4, h5⟩)
      have HBL := Lib.hid hbl
      have HFRE : Hid (∀ a, Ao = some a → w.heap.size ≤ a.block) := Lib.hid (fun a ha => by have := hO.fresh a ha; omega)
      clear hO hrd hP hFr hbl
      go_wp2_with fail
      go_ret2
      exact ⟨Ao, co, w.heap.size, by rw [HUn.out]; rfl, by rw [HUn.out]; exact hnc, HBL.out, by rw [HUn.out]; exact HRD.out, HPF.out, Nat.le_refl _, HFRE.out⟩
end Go.Proofs.Ytgmbicjcfhmcdaa
