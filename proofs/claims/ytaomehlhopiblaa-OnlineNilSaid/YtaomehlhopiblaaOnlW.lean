/- One pass: the walk of later: where an end will be reached. -/
import Derived.Test.YtaomehlhopiblaaOnlC
import Derived.Test.YtaomehlhopiblaaOnlI
import Derived.Test.YtaomehlhopiblaaPlanC
set_option linter.unusedVariables false
set_option linter.unusedSimpArgs false
/-! One pass: the walk of later: where an end will be reached. -/
namespace Go.Proofs.Ytaomehlhopiblaa
open Go.RowKit
attribute [local go_sem ↓] Go.wp_at_zero Go.wp_at_succ
/-- What a point's turn is: the pass at go, its truth at gr, the atoms' functions at ga. -/
structure TuF (F : Fz) (m N : Nat) (gt go gx gw ga gr : Nat) (Al : Option Addr) (cl d : Nat) : Prop where
  o : F.cell ⟨gt, 0, none⟩ = some (.pointer (some ⟨go, 0, none⟩))
  d : F.cell ⟨gt, 1, none⟩ = some (.int .u64 (d : Nat))
  truth : F.cell ⟨gt, 3, none⟩ = some (.slice (some ⟨gr, 0, none⟩) N N)
  ahead : F.cell ⟨gt, 4, none⟩ = some (.slice (some ⟨ga, 0, none⟩) m m)
  l : F.cell ⟨go, 0, none⟩ = some (.slice Al N cl)
  n : F.cell ⟨go, 1, none⟩ = some (.int .i64 (m : Nat))
  rx : F.cell ⟨go, 2, none⟩ = some (.slice (some ⟨gx, 0, none⟩) N N)
  wn : F.cell ⟨go, 3, none⟩ = some (.slice (some ⟨gw, 0, none⟩) N N)
theorem TuF.cle {F F' : Fz} {m N gt go gx gw ga gr : Nat} {Al : Option Addr} {cl d : Nat} (h : TuF F m N gt go gx gw ga gr Al cl d) (hle : CLe F F') : TuF F' m N gt go gx gw ga gr Al cl d :=
  ⟨hle _ _ h.o, hle _ _ h.d, hle _ _ h.truth, hle _ _ h.ahead, hle _ _ h.l, hle _ _ h.n, hle _ _ h.rx, hle _ _ h.wn⟩
theorem hx_nil (w : World) : hx w [] = heapF w := by
  funext b
  unfold hx heapF
  rw [if_neg (by simp)]
theorem retQL_ret {m : Nat} {w w' : World} {p : Nat → Bool} {e : Ending} (h : RetQL m w p e w') : ∃ v, e = .returned v ∧ Below w.heap.size w w' ∧ WdG m (heapF w') v p := by
  obtain ⟨v, h1, h2, h3⟩ := h.hx (Gs := []) (fun g hg => by cases hg)
  rw [hx_nil] at h3
  exact ⟨v, h1, h2, h3⟩
theorem retQ_ret {m : Nat} {w w' : World} {p : Nat → Bool} {e : Ending} (h : RetQ m w p e w') : ∃ v, e = .returned v ∧ Below w.heap.size w w' ∧ WdF m (heapF w') v p := by
  obtain ⟨v, h1, h2, h3⟩ := h.hx (Gs := []) (fun g hg => by cases hg)
  rw [hx_nil] at h3
  exact ⟨v, h1, h2, h3⟩
theorem RetQL.up {m : Nat} {w w1 w' : World} {p : Nat → Bool} {e : Ending} (h : RetQL m w1 p e w') (hb : Below w.heap.size w w1) : RetQL m w p e w' :=
  let ⟨hm, g, c, e1, h1, h2, h3⟩ := h
  ⟨hm, g, c, e1, bthen hb h1, Nat.le_trans hb.size h2, h3⟩
theorem RetQL.same {m : Nat} {w w' : World} {p q : Nat → Bool} {e : Ending} (h : RetQL m w p e w') (h' : ∀ x, x < 2 ^ m → p x = q x) : RetQL m w q e w' :=
  let ⟨hm, r⟩ := h
  retQL hm h' r
theorem ts_of_rw {m : Nat} {w : World} {v : Value} {ps : List Fn} (h : Rw m w v ps) : ∃ A c, v = .slice A ps.length c ∧ TsF m (heapF w) A ps.length (zOf ps) := by
  obtain ⟨A, n, c, gs, rfl, ⟨hn, hr⟩, hl, hlen, hp⟩ := h
  obtain rfl : n = ps.length := by omega
  refine ⟨A, c, rfl, fun q hq => ?_, fun q hq x => ?_⟩
  · obtain ⟨ad, Ai, ni, ci, e, hc, hri⟩ := hr q (by omega)
    refine ⟨ad, _, e, hc, Ai, ni, ci, gs.getD q [], rfl, hri, ?_, fun x hx => hp q x hx⟩
    rw [List.getD, List.getElem?_eq_getElem (by omega)]
    exact hl _ (List.getElem_mem _)
  · show ps.getD q noFn x = false
    rw [List.getD, List.getElem?_eq_none (by omega)]
    rfl
/-- What tests gives: a row of its own. -/
def RetTs (m : Nat) (w : World) (zs : List Fn) (e : Ending) (w' : World) : Prop := ∃ A c, e = .returned (.slice A zs.length c) ∧ Below w.heap.size w w' ∧ (∀ a, A = some a → w.heap.size ≤ a.block) ∧ TsF m (heapF w') A zs.length (zOf zs)
theorem place_some {l : List Nd} {t : Tr} (ht : treeS l = some t) (hf : (formL l && plainS l) = true) {i : Nat} (hi : i < l.length) {h : Nd} {a : Tr} (hx : t.sub i = .un h a) (h17 : h.kind = 17) {q c : Nat} (hq : q < stepsN a) (hc : c < wideN h) :
    placeL l (i : Nat) ((q : Int) + 1) (c : Nat) = ((uptoN atomM t i + q * wideN h + c : Nat) : Int) := by
  unfold placeL
  rw [if_pos ⟨hf, by omega, by omega⟩, ht]
  show placeN t ((i : Int).toNat) _ _ = _
  rw [Int.toNat_natCast, placeN_un hx h17, if_pos ⟨by omega, by omega, by omega, by omega⟩, show (q : Int) + 1 - 1 = (q : Int) by omega]
  simp [Int.natCast_add, Int.natCast_mul]
/-- Where an end will be reached of steps that go on. -/
def laterF (M P W c : Nat) (z : Zf) : Fn := fun x => (List.range M).any fun q => z q x && x.testBit (P + q * W + c)
theorem laterF_succ (j P W c : Nat) (z : Zf) (x : Nat) : laterF (j + 1) P W c z x = (laterF j P W c z x || (z j x && x.testBit (P + j * W + c))) := by
  unfold laterF
  rw [List.range_succ, List.any_append]
  simp
set_option maxRecDepth 100000 in
set_option maxHeartbeats 2000000 in
theorem olater_w {F : Fz} {w : World} (hF : Sat F w) (m : Nat) (hm : m ≤ 10) (N gt go gx gw ga gr : Nat) (Al : Option Addr) (cl d : Nat) (hcl : N ≤ cl) (hT : TuF F m N gt go gx gw ga gr Al cl d)
    (l : List Nd) (hn : l.length ≤ 1000) (hl : NodesF F Al N l) {t : Tr} (ht : treeS l = some t) (hf : (formL l && plainS l) = true) (i : Nat) (hi : i < l.length) {h : Nd} {a : Tr} (hx : t.sub i = .un h a) (h17 : h.kind = 17)
    (c : Nat) (hc : c < wideN h) (hmm : uptoN atomM t i + stepsN a * wideN h ≤ m) (An : Option Addr) (cn : Nat) (hM : stepsN a ≤ 1000) (z : Nat → Fn) (hz : RwF m F An (stepsN a) z) :
    Calls Try.prog 46 #[.pointer (some ⟨gt, 0, none⟩), .int .i64 (i : Nat), .int .i64 (c : Nat), .slice An (stepsN a) cn] w
      (RetQL m w (laterF (stepsN a) (uptoN atomM t i) (wideN h) c z)) := by
  have HN := Lib.hid (fun (X : World) => ql_no hm (w := X))
  have HA := Lib.hid (fun (X : World) (v v' : Value) (p q : Nat → Bool) (h : Wd m X v p) (h' : Wd m X v' q) => ql_and hm h h')
  have HO := Lib.hid (fun (X : World) (v v' : Value) (p q : Nat → Bool) (h : Wd m X v p) (h' : Wd m X v' q) => ql_or hm h h')
  have HP := Lib.hid (fun (X : World) (hX : Sat F X) (q : Nat) (hq : q < stepsN a) => aplace_w hX l hn Al N cl hcl hl (i : Nat) ((q : Int) + 1) (c : Nat) _ (place_some ht hf hi hx h17 hq hc))
  have hlt : ∀ q, q < stepsN a → uptoN atomM t i + q * wideN h + c < m := fun q hq => by
    have : (q + 1) * wideN h ≤ stepsN a * wideN h := Nat.mul_le_mul_right _ hq
    rw [Nat.add_mul, Nat.one_mul] at this
    omega
  have HAt := Lib.hid (fun (X : World) (q : Nat) (hq : q < stepsN a) => q_atom hm (w := X) _ (hlt q hq))
  have HZ := Lib.hid hz
  have HT := Lib.hid hT
  have HiI : (i : Int) < 1000 := by omega
  obtain ⟨M, hMe⟩ : ∃ M, stepsN a = M := ⟨_, rfl⟩
  rw [hMe] at HP HAt HZ hM ⊢
  obtain ⟨P, hPe⟩ : ∃ P, uptoN atomM t i = P := ⟨_, rfl⟩
  rw [hPe] at HP HAt ⊢
  obtain ⟨W, hWe⟩ : ∃ W, wideN h = W := ⟨_, rfl⟩
  rw [hWe] at HP HAt ⊢
  have y0 := hF.cell hT.o
  have y1 := hF.cell hT.n
  have HF := Lib.hid hF
  clear hMe hPe hWe hlt hz hT hmm hc hx h17 hi hf ht hl hn hcl hF
  go_enter Try.func46, Try.ntmps46
  go_wp2_with (go_at_call 25; refine (HN.out _).mono ?_; intro e w1 hr1; obtain ⟨v1, rfl, hb1, hW1⟩ := retQL_ret hr1)
  go_loopw [10, 11, 12, 13, 25] (fun v10 _ _ _ v25 wr => ∃ j : Nat, j ≤ M ∧ v25 = .int .i64 j ∧ RetQL m w (laterF j P W c z) (.returned v10) wr) (fun _ _ _ _ v25 _ => M - (intOf v25).toNat)
  case atStart => exact ⟨0, Nat.zero_le _, rfl, hr1⟩
  case round =>
    obtain ⟨j, hj, rfl, hRj⟩ := hrel
    obtain ⟨v10', e10, hbl, hO⟩ := retQL_ret hRj
    injection e10 with e10
    subst e10
    by_cases hjl : j < M
    · have hjI : (j : Int) < (M : Int) := by omega
      have hFr := HF.out.below hbl
      obtain ⟨ad, y, rfl, hc0, hy⟩ := HZ.out j hjl
      have z0 := hFr.cell hc0
      have z1 := hFr.cell HT.out.o
      have z2 := hFr.cell HT.out.l
      have wJ : IntKind.i64.wrap ((j : Int) + 1) = (j : Int) + 1 := wrap_i (by omega) (by omega)
      have HY := Lib.hid (hy.cle hFr.cle)
      have HO2 := Lib.hid hO
      have HS := Lib.hid hFr
      clear hc0 hy hO hFr
      go_wp2_with (first
        | (go_at_call 47; refine (HP.out _ HS.out j hjl).mono ?_; rintro e w2 ⟨rfl, hb2⟩)
        | (go_at_call 64; refine (HAt.out _ j hjl).mono ?_; intro e w3 hr3; obtain ⟨v3, rfl, hb3, hW3⟩ := retQ_ret hr3)
        | (go_at_call 21; refine (HA.out _ _ _ _ _ (HY.out.cle ((cle_below hb2).trans (cle_below hb3))) hW3).mono ?_; intro e w4 hr4; obtain ⟨v4, rfl, hb4, hW4⟩ := retQL_ret hr4)
        | (go_at_call 22; refine (HO.out _ _ _ _ _ ((HO2.out.wd.cle ((cle_below hb2).trans (cle_below hb3))).cle (cle_below hb4)) hW4.wd).mono ?_; intro e w5 hr5; obtain ⟨v5, rfl, hb5, hW5⟩ := retQL_ret hr5))
      go_roundw
      case rel => exact ⟨j + 1, by omega, by go_num, (hr5.up (bthen (bthen (bthen hbl hb2) hb3) hb4)).same fun x _ => (laterF_succ j P W c z x).symm⟩
      case measure => simp [intOf]; omega
    · obtain rfl : j = M := by omega
      go_wp2_with fail
      go_ret
      exact hRj
set_option maxRecDepth 100000 in
set_option maxHeartbeats 2000000 in
theorem otests_w {F : Fz} {w : World} (hF : Sat F w) (m N gt go gx gw ga gr : Nat) (Al : Option Addr) (cl d : Nat) (hT : TuF F m N gt go gx gw ga gr Al cl d) (hN : N ≤ 1000) (i : Nat) (hi : i < N)
    (PS : List Nat) (Ap : Option Addr) (np cp : Nat) (hpr : F.cell ⟨gx, i * 3 + 2, none⟩ = some (.slice Ap np cp)) (hPS : Rd F 1 Ap np (PS.map fun p => .int .i64 (p : Nat))) (hnp : np ≤ 1000)
    (tr : Nat → Fn) (htr : ∀ p ∈ PS, p < N ∧ ∃ v, F.cell ⟨gr, p, none⟩ = some v ∧ WdF m F v (tr p)) :
    Calls Try.prog 39 #[.pointer (some ⟨gt, 0, none⟩), .int .i64 (i : Nat)] w (RetTs m w (PS.map tr)) := by
  have hlen : PS.length = np := by have := hPS.1; simpa using this
  have HP := Lib.hid hPS
  have HTR := Lib.hid htr
  have HT := Lib.hid hT
  have HF := Lib.hid hF
  have HLen := Lib.hid hlen
  have hiI : (i : Int) < (N : Int) := by omega
  have y0 := hF.cell hT.o
  have y1 := hF.cell hT.rx
  have y2 := hF.cell hpr
  have wI : IntKind.i64.wrap (i : Int) = (i : Int) := wrap_i (by omega) (by omega)
  clear hPS htr hT hF hpr hlen
  go_enter Try.func39, Try.ntmps39
  go_wp2_with fail
  go_loopw [5, 7, 20] (fun v5 _ v20 wr => ∃ (j : Nat) (V5 : Value), j ≤ np ∧ V5 = v5 ∧ v20 = .int .i64 j ∧ Below w.heap.size w wr ∧ RowsB m F wr w.heap.size V5 ((PS.take j).map tr)) (fun _ _ v20 _ => np - (intOf v20).toNat)
  case atStart => exact ⟨0, _, Nat.zero_le _, rfl, rfl, Below.refl _ _, RowsB.nil _ _ _ _⟩
  case round =>
    obtain ⟨j, V5, hj, rfl, rfl, hbl, hO⟩ := hrel
    by_cases hjl : j < np
    · have hjI : (j : Int) < (np : Int) := by omega
      have hFr := HF.out.below hbl
      have hjp : j < PS.length := by rw [HLen.out]; exact hjl
      obtain ⟨p, hp⟩ : ∃ p, PS[j]? = some p := ⟨_, List.getElem?_eq_getElem hjp⟩
      obtain ⟨ad, rfl, hcp⟩ := HP.out.2 (by omega)
      have hc0 := hcp j (.int .i64 (p : Nat)) (by rw [List.getElem?_map, hp]; rfl)
      obtain ⟨hpN, y, hcy, hy⟩ := HTR.out p (List.mem_of_getElem? hp)
      have hpI : (p : Int) < (N : Int) := by omega
      have z0 := hFr.cell hc0
      have z1 := hFr.cell HT.out.o
      have z2 := hFr.cell HT.out.truth
      have z3 := hFr.cell hcy
      have HTK : Hid ((PS.take (j + 1)).map tr = (PS.take j).map tr ++ [tr p]) := Lib.hid (by rw [List.take_add_one, hp, List.map_append]; rfl)
      obtain ⟨Ay, ny, cy, fy, rfl, hyr⟩ := hy
      have HY : Hid (WdF m F (.slice Ay ny cy) (tr p)) := Lib.hid ⟨Ay, ny, cy, fy, rfl, hyr⟩
      have hB2 : w.heap.size ≤ (wr.alloc (.cells #[.slice Ay ny cy] 49)).heap.size := by have := hbl.size; simp; omega
      have ho1000 : ((PS.take j).map tr).length ≤ 1000 := by rw [List.length_map, List.length_take]; omega
      have HS := Lib.hid hFr
      clear hp hcp hc0 hcy hyr hFr
      go_wp2_with (at_builtin; go_loud (refine wpList_pushR rfl (.tmp 24) (.tmp 32) rfl (hO.call (balloc _ _)) HY.out (HS.out.alloc _) (by rfl) wr.heap.size 1 (by rfl) (Blk.new _ _ _) ho1000 hB2 ?_); intro vo w3 hO3 hF3 hb3 hg3 hat3)
      go_roundw
      case rel => exact ⟨j + 1, _, by omega, rfl, by go_num, (hbl.alloc hbl.size _).trans hb3, by rw [HTK.out]; exact hO3⟩
      case measure => simp [intOf]; omega
    · obtain rfl : j = np := by omega
      rw [show PS.take j = PS by rw [← HLen.out, List.take_length]] at hO
      have HR := hO.done (HF.out.below hbl)
      obtain ⟨A, c, e1, hTs⟩ := ts_of_rw HR
      subst e1
      have hfr : ∀ a, A = some a → w.heap.size ≤ a.block := fun a ha => by subst ha; exact (hO.lt a.block rfl).1
      clear HR
      go_wp2_with fail
      go_ret
      exact ⟨A, c, rfl, hbl, hfr, hTs⟩
end Go.Proofs.Ytaomehlhopiblaa
