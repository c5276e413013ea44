/- One pass: the walk of tell. -/
import Derived.Test.YtaomehlhopiblaaOnlTl
import Derived.Test.YtaomehlhopiblaaOnlZ
set_option linter.unusedVariables false
set_option linter.unusedSimpArgs false
/-! One pass: the walk of tell. -/
namespace Go.Proofs.Ytaomehlhopiblaa
open Go.RowKit
attribute [local go_sem ↓] Go.wp_at_zero Go.wp_at_succ
/-- What tell leaves: items, and what is still pending, written behind all else. -/
def RetTe (m : Nat) (F : Fz) (w : World) (go : Nat) (I : List Itm) (L : Pnd) (e : Ending) (w' : World) : Prop :=
  ∃ (w1 : World) (ps : List (Nat × Value)) (AI : Option Addr) (cI : Nat) (AL : Option Addr) (cL : Nat), e = .returned (.slice AI I.length cI) ∧ Below w.heap.size w w1 ∧ w' = w1.setCell ⟨go, 4, none⟩ (.slice AL L.length cL) ∧
    Own F w1 w.heap.size 56 4 (.slice AI I.length cI) I.length (itC I) ∧ OwnU F w1 w.heap.size 52 2 (.slice AL L.length cL) L.length (plC ps) ∧ PlV m F L ps ∧ ∀ g, (Value.slice AI I.length cI).ownBlock = some g → (Value.slice AL L.length cL).ownBlock ≠ some g
theorem tell_drop (m : Nat) {pd : Pnd} {j : Nat} {p : Nat × Fn} (h : pd[j]? = some p) : tellS m (pd.drop j) = if constF m p.2 = true then (⟨false, p.1, 0, p.2 0⟩ :: (tellS m (pd.drop (j + 1))).1, (tellS m (pd.drop (j + 1))).2)
    else match (pd.drop (j + 1)).find? fun q => sameF m p.2 q.2 with
      | some q => (⟨true, p.1, q.1, false⟩ :: (tellS m (pd.drop (j + 1))).1, (tellS m (pd.drop (j + 1))).2)
      | none => ((tellS m (pd.drop (j + 1))).1, p :: (tellS m (pd.drop (j + 1))).2) := by
  have hj : j < pd.length := (List.getElem?_eq_some_iff.1 h).1
  have e : pd[j] = p := (List.getElem?_eq_some_iff.1 h).2
  rw [List.drop_eq_getElem_cons hj, e]
  rfl
/-- Where a point that is one with p stands. -/
theorem idx_find (m : Nat) (p : Fn) (L : Pnd) : (idxP m p L = -1 ∧ (L.find? fun q => sameF m p q.2) = none) ∨ ∃ (k : Nat) (q : Nat × Fn), idxP m p L = (k : Nat) ∧ L[k]? = some q ∧ (L.find? fun q => sameF m p q.2) = some q := by
  cases h : L.find? fun q => sameF m p q.2 with
  | none =>
    refine .inl ⟨?_, rfl⟩
    rw [List.find?_eq_none] at h
    unfold idxP
    refine firstI_no _ _ _ fun j hj => ?_
    rw [Nat.zero_add]
    cases e : L[j]? with
    | none => rfl
    | some q => simpa using h q (List.mem_of_getElem? e)
  | some q =>
    obtain ⟨h1, l1, l2, h2, h3⟩ := List.find?_eq_some_iff_append.1 h
    refine .inr ⟨l1.length, q, ?_, by rw [h2]; simp, rfl⟩
    unfold idxP
    rw [firstI_at _ l1.length L.length 0 (by rw [h2]; simp) (fun j hj => ?_) ?_, Nat.zero_add]
    · rw [Nat.zero_add, h2]
      simpa using h1
    · rw [Nat.zero_add, h2, List.getElem?_append_left hj, List.getElem?_eq_getElem hj]
      simpa using h3 _ (List.getElem_mem hj)
theorem own_base {F : Fz} {w : World} {B B' : Nat} {e : TypeId} {size n : Nat} {v : Value} {xs : List Value} (h : Own F w B e size v n xs) (hB : B' ≤ B) : Own F w B' e size v n xs := by
  obtain ⟨⟨h1, h2⟩, h3⟩ := h
  refine ⟨⟨h1, ?_⟩, h3⟩
  rcases h2 with h2 | ⟨g, cap, cur, e1, e2, e3⟩
  · exact .inl h2
  · exact .inr ⟨g, cap, cur, e1, Nat.le_trans hB e2, e3⟩
theorem ownU_other {F : Fz} {w w' : World} {B : Nat} {e : TypeId} {s n : Nat} {v v' : Value} {xs : List Value} (h : OwnU F w B e s v n xs) (hg : w.grownBy w' v'.ownBlock) (hap : ∀ g, v'.ownBlock = some g → v.ownBlock ≠ some g) : OwnU F w' B e s v n xs :=
  h.wr fun g e => hg.block g (h.1.1.lt g e).2 fun e2 => hap g e2.symm e
/-- append of one point, that lies in a block of its own. -/
theorem push_ptU {w : World} (ty : TypeId) {F : Fz} {B n : Nat} {v : Value} {xs : List Value} {q : Int} {A : Option Addr} {k c' : Nat} (hown : OwnU F w B 52 2 v n xs) (hF : Sat F w)
    (g c : Nat) (hg : Blk w g 52 #[.int .i64 q, .slice A k c']) (hn : n + 1 ≤ 1000000) (hB : B ≤ w.heap.size) :
    ∃ v' w', (Builtin.append_ #[38, 38] ty #[v, .slice (some ⟨g, 0, none⟩) 1 c]).run Try.prog w = .ok v' w' ∧ OwnU F w' B 52 2 v' (n + 1) (xs ++ [.int .i64 q, .slice A k c']) ∧ Sat F w' ∧ Below B w w' ∧ w.grownBy w' v.ownBlock ∧ (v'.ownBlock = v.ownBlock ∨ v'.ownBlock = some w.heap.size) := by
  obtain ⟨i, hi, hz0, hz1, hz2⟩ := info_parts point_info
  have hl : ([.int .i64 q, .slice A k c'] : List Value).length = 1 * 2 := rfl
  have hnews : ∀ j u, ([.int .i64 q, .slice A k c'] : List Value)[j]? = some u → w.cell? ((⟨g, 0, none⟩ : Addr).add j) = some u := fun j u hu => by
    rw [add_lit0, hg.cell j]
    simpa using hu
  have h1 : ∀ u ∈ ([.int .i64 q, .slice A k c'] : List Value), u.oneCell' = true := fun u hu => by
    simp at hu
    rcases hu with rfl | rfl <;> rfl
  have hml : n + 1 ≤ maxLen := by simp [maxLen]; omega
  obtain ⟨v', w', hr, h2, h3, _, h5⟩ := run_append_own_at (P := Try.prog) w B 38 ty 52 i _ 2 32 Try.underlying38 hi hz0 hz1 hz2 rfl (by omega) v n xs hown.1.1 ⟨g, 0, none⟩ 1 c _ hl hnews h1 hml (by omega) hB
  have hNU := append_noU w B 38 ty 52 i _ 2 32 Try.underlying38 hi hz0 hz1 hz2 rfl (by omega) v n xs hown.1.1 ⟨g, 0, none⟩ 1 c _ hl hnews h1 (by omega) hml (by omega) hown.2 (fun y hy x e => by
    simp at hy
    rcases hy with rfl | rfl <;> cases e) (fun y hy x e => by
    simp [Value.cells] at hy
    rcases hy with rfl | rfl <;> cases e) hr
  have hO : Own F w' B 52 2 v' (n + 1) (xs ++ [.int .i64 q, .slice A k c']) := ⟨h2, fun g' hg' => by
    rcases h5 with h5 | h5
    · exact hown.1.2 g' (by rw [← h5]; exact hg')
    · rw [Option.some.inj (hg'.symm.trans h5)]
      exact hF.none_ (Nat.le_refl _)⟩
  exact ⟨v', w', hr, ⟨hO, hNU.1⟩, hF.grown h3 hown.1.2, (Below.refl B w).grown h3 hB fun k hk => (hown.1.1.lt k hk).1, h3, h5⟩
theorem wpList_pushPtU {w : World} {ops : Array Oper} {rest : List Oper} {o : Oper} {a : Act} {Q : Exit → Act → World → Prop} (hgd : o.guard = none) (s x : Operand)
    (ho : o.op = .call { callee := .builtin .append, args := #[s, x], argTypes := #[38, 38] })
    {F : Fz} {B n : Nat} {v : Value} {xs : List Value} {q : Int} {A : Option Addr} {k c' : Nat} (hown : OwnU F w B 52 2 v n xs) (hF : Sat F w) (hs : a.eval s = v)
    (g c : Nat) (hx : a.eval x = .slice (some ⟨g, 0, none⟩) 1 c) (hg : Blk w g 52 #[.int .i64 q, .slice A k c']) (hn : n + 1 ≤ 1000000) (hB : B ≤ w.heap.size)
    (h : ∀ v' w', OwnU F w' B 52 2 v' (n + 1) (xs ++ [.int .i64 q, .slice A k c']) → Sat F w' → Below B w w' → w.grownBy w' v.ownBlock → (v'.ownBlock = v.ownBlock ∨ v'.ownBlock = some w.heap.size) → wpList Try.prog ops Q rest (a.put o.dst v') w') :
    wpList Try.prog ops Q (o :: rest) a w := by
  obtain ⟨v', w', hr, h1, h2, h3, h4, h5⟩ := push_ptU o.type hown hF g c hg hn hB
  refine wpList_plain hgd fun K hK => ?_
  unfold Oper.wp execOp
  simp only [ho, resolve, invoke, builtin, Sem.run_bind, Sem.run_pure, Result.andThen_ok, List.map_toArray, List.map_cons, List.map_nil, hs, hx, hr]
  exact hK _ _ (h v' w' h1 h2 h3 h4 h5)
theorem step_pushPtU {w : World} {ops : Array Oper} {o : Oper} {a : Act} {K : Act → World → Prop} {Q : Exit → Act → World → Prop} {E : Prop} (hgd : o.guard = none) (s x : Operand)
    (ho : o.op = .call { callee := .builtin .append, args := #[s, x], argTypes := #[38, 38] })
    {F : Fz} {B n : Nat} {v : Value} {xs : List Value} {q : Int} {A : Option Addr} {k c' : Nat} (hown : OwnU F w B 52 2 v n xs) (hF : Sat F w) (hs : a.eval s = v)
    (g c : Nat) (hx : a.eval x = .slice (some ⟨g, 0, none⟩) 1 c) (hg : Blk w g 52 #[.int .i64 q, .slice A k c']) (hn : n + 1 ≤ 1000000) (hB : B ≤ w.heap.size)
    (h : ∀ v' w', OwnU F w' B 52 2 v' (n + 1) (xs ++ [.int .i64 q, .slice A k c']) → Sat F w' → Below B w w' → w.grownBy w' v.ownBlock → (v'.ownBlock = v.ownBlock ∨ v'.ownBlock = some w.heap.size) → K (a.put o.dst v') w') :
    if Region.wanted o (yielded ops a.tmps) = true then Oper.wp Try.prog o a w K Q else E := by
  have hw : Region.wanted o (yielded ops a.tmps) = true := by simp [Region.wanted, hgd]
  rw [if_pos hw]
  obtain ⟨v', w', hr, h1, h2, h3, h4, h5⟩ := push_ptU o.type hown hF g c hg hn hB
  unfold Oper.wp execOp
  simp only [ho, resolve, invoke, builtin, Sem.run_bind, Sem.run_pure, Result.andThen_ok, List.map_toArray, List.map_cons, List.map_nil, hs, hx, hr]
  exact h v' w' h1 h2 h3 h4 h5
theorem own_other {F : Fz} {w w' : World} {B : Nat} {e : TypeId} {s n : Nat} {v v' : Value} {xs : List Value} (h : Own F w B e s v n xs) (hg : w.grownBy w' v'.ownBlock) (hap : ∀ g, v'.ownBlock = some g → v.ownBlock ≠ some g) : Own F w' B e s v n xs :=
  h.kept hg (by
    cases hv : v.ownBlock with
    | none => exact .inl rfl
    | some g => exact .inr fun e => hap g e.symm hv)
theorem plF_drop {m : Nat} {F : Fz} {ad : Addr} {n : Nat} {L : Pnd} (h : PlF m F (some ad) n L) {k : Nat} (hk : k ≤ n) : PlF m F (some (ad.add (k * 2))) (n - k) (L.drop k) := by
  obtain ⟨h1, ps, h2, h3, h4⟩ := h
  refine ⟨by rw [List.length_drop, h1], ps.drop k, ?_, by rw [List.length_drop, List.length_drop, h3], fun j p hj => ?_⟩
  · have h5 := h2.cut (k := k) (cap := n + 1) hk (Nat.le_succ _)
    rw [if_neg (by omega)] at h5
    have e : plC (ps.drop k) = (plC ps).drop (k * 2) := by
      conv => rhs; rw [← List.take_append_drop k ps, plC_append]
      have hl : k * 2 = (plC (ps.take k)).length := by rw [length_plC, List.length_take, Nat.min_eq_left (by omega)]
      rw [hl, List.drop_left]
    rw [e]
    exact h5
  · rw [List.getElem?_drop] at hj
    obtain ⟨v, e1, e2⟩ := h4 _ p hj
    exact ⟨v, by rw [List.getElem?_drop]; exact e1, e2⟩
theorem apart_new {F : Fz} {w : World} {B : Nat} {e : TypeId} {s n : Nat} {v u u' : Value} {xs : List Value} (h : Own F w B e s v n xs) (hat : u'.ownBlock = u.ownBlock ∨ u'.ownBlock = some w.heap.size) (hap : ∀ g, u.ownBlock = some g → v.ownBlock ≠ some g) : ∀ g, u'.ownBlock = some g → v.ownBlock ≠ some g := fun g hg e => by
  rcases hat with hat | hat
  · exact hap g (by rw [← hat]; exact hg) e
  · have h1 := (h.1.lt g e).2
    rw [hat] at hg
    injection hg with hg
    omega
set_option maxRecDepth 100000 in
set_option maxHeartbeats 8000000 in
theorem otell_w {F : Fz} {w : World} (hF : Sat F w) (m : Nat) (hm : m ≤ 10) (go : Nat) (hgo : F go = none) (h1 : w.cell? ⟨go, 1, none⟩ = some (.int .i64 (m : Nat))) (Ap : Option Addr) (np cp : Nat) (hcp : np ≤ cp) (h4 : w.cell? ⟨go, 4, none⟩ = some (.slice Ap np cp)) (hf4 : w.frozen? ⟨go, 4, none⟩ = false) (pd : Pnd) (hP : PlF m F Ap np pd) (hn : np ≤ 100000) :
    Calls Try.prog 12 #[.pointer (some ⟨go, 0, none⟩)] w (RetTe m F w go (tellS m pd).1 (tellS m pd).2) := by
  have lgo : go < w.heap.size := World.block_lt_of_cell? w ⟨go, 1, none⟩ h1
  have hbE := balloc w (.cells #[.pointer (some ⟨go, 0, none⟩)] 23)
  have e0 := (blk1 (Blk.new w 23 #[.pointer (some ⟨go, 0, none⟩)])).1
  have e4 := (hbE.cell (p := ⟨go, 4, none⟩) lgo).trans h4
  obtain ⟨W, hW⟩ : ∃ W, W = w.alloc (.cells #[.pointer (some ⟨go, 0, none⟩)] 23) := ⟨_, rfl⟩
  have hb0 : Below w.heap.size w W := by rw [hW]; exact balloc _ _
  have hB1 : Blk W w.heap.size 23 #[.pointer (some ⟨go, 0, none⟩)] := by rw [hW]; exact Blk.new _ _ _
  have hFW := hF.below hb0
  have h1W := (hb0.cell (p := ⟨go, 1, none⟩) lgo).trans h1
  have h4W := (hb0.cell (p := ⟨go, 4, none⟩) lgo).trans h4
  have hf4W : W.frozen? ⟨go, 4, none⟩ = false := (World.frozen?_of_block (a := ⟨go, 4, none⟩) (hb0.block go lgo)).trans hf4
  have lgoW : go < W.heap.size := Nat.lt_of_lt_of_le lgo hb0.size
  have hPl : pd.length = np := hP.1
  have HW := Lib.hid hW
  have HP := Lib.hid hP
  have HPL := Lib.hid hPl
  have HFW := Lib.hid hFW
  have HB0 := Lib.hid hb0
  have H1W := Lib.hid h1W
  have H4W := Lib.hid h4W
  have HF4 := Lib.hid hf4W
  have HB1 := Lib.hid hB1
  have hsz : W.heap.size = w.heap.size + 1 := by rw [hW]; simp
  have HSZ := Lib.hid hsz
  clear hF hgo h1 h4 hf4 hP hPl hW hb0 hB1 hFW h1W h4W hf4W hsz lgo
  go_enter Try.func12, Try.ntmps12
  go_wp2_with fail
  rw [← HW.out]
  clear e0 e4 hbE
  go_loopw [3, 4, 5, 6, 7, 8, 9, 15] (fun v3 v4 _ _ _ _ _ v15 wr => ∃ (j : Nat) (I : List Itm) (L1 : Pnd) (ps : List (Nat × Value)) (AI : Option Addr) (cI : Nat) (AL : Option Addr) (cL : Nat), j ≤ np ∧ v15 = .int .i64 (j : Nat) ∧ v3 = .slice AI I.length cI ∧ v4 = .slice AL L1.length cL ∧ I.length ≤ j ∧ L1.length ≤ j ∧
    I ++ (tellS m (pd.drop j)).1 = (tellS m pd).1 ∧ L1 ++ (tellS m (pd.drop j)).2 = (tellS m pd).2 ∧ Below W.heap.size W wr ∧ Own F wr W.heap.size 56 4 (.slice AI I.length cI) I.length (itC I) ∧ OwnU F wr W.heap.size 52 2 (.slice AL L1.length cL) L1.length (plC ps) ∧ PlV m F L1 ps ∧
    ∀ g, (Value.slice AI I.length cI).ownBlock = some g → (Value.slice AL L1.length cL).ownBlock ≠ some g) (fun _ _ _ _ _ _ _ v15 _ => np - (intOf v15).toNat)
  case atStart => exact ⟨0, [], [], [], none, 0, none, 0, Nat.zero_le _, rfl, rfl, rfl, Nat.le_refl _, Nat.le_refl _, rfl, rfl, Below.refl _ _, Own.nil _ _ _ _ _, OwnU.nil _ _ _ _ _, PlV.nil _ _, fun g hg => (by cases hg)⟩
  case round =>
    obtain ⟨j, I, L1, ps, AI, cI, AL, cL, hj, rfl, rfl, rfl, hIj, hLj, hI, hL, hbl, hOI, hOL, hPV, hAp⟩ := hrel
    have hFr := HFW.out.below hbl
    by_cases hjl : j < np
    · have hjI : (j : Int) < (np : Int) := by omega
      have hjL : j < pd.length := by rw [HPL.out]; exact hjl
      obtain ⟨p, hp⟩ : ∃ p, pd[j]? = some p := ⟨_, List.getElem?_eq_getElem hjL⟩
      obtain ⟨ad, v, rfl, c0, c1, hv⟩ := HP.out.at_ hp
      obtain ⟨A2, n2, c2, f2, rfl, _⟩ := id hv
      have hTD := tell_drop m hp
      obtain ⟨av, cv, hcv, hav, HC⟩ := oconst_w hm hv
      have z0 := hFr.cell c0
      have z1 : wr.cell? ⟨(ad.add (j * 2)).block, (ad.add (j * 2)).off + 1, none⟩ = some (.slice A2 n2 c2) := hFr.cell c1
      obtain ⟨wA, hwA⟩ : ∃ wA, wA = wr.alloc (.cells #[.int .i64 (p.1 : Nat), .slice A2 n2 c2] 52) := ⟨_, rfl⟩
      have hbA : Below wr.heap.size wr wA := by rw [hwA]; exact balloc _ _
      obtain ⟨gA, hgA⟩ : ∃ gA, gA = wr.heap.size := ⟨_, rfl⟩
      have hBA : Blk wA gA 52 #[.int .i64 (p.1 : Nat), .slice A2 n2 c2] := by rw [hwA, hgA]; exact Blk.new _ _ _
      have hblA : Below W.heap.size W wA := hbl.trans (hbA.mono hbl.size)
      have hFA := hFr.below hbA
      have HWA := Lib.hid hwA
      have HGA := Lib.hid hgA
      have HBA := Lib.hid hBA
      have HCC := Lib.hid HC
      have HFA := Lib.hid hFA
      have HTD := Lib.hid hTD
      have HV := Lib.hid hv
      have HPJ := Lib.hid hp
      have HCV := Lib.hid hcv
      have HAV := Lib.hid hav
      have hOIA := hOI.call hbA
      have hOLA := hOL.call hbA
      have y1 := (hblA.cell (p := ⟨w.heap.size, 0, none⟩) HB1.out.lt).trans (blk1 HB1.out).1
      have y2 := (hblA.cell (p := ⟨go, 1, none⟩) lgoW).trans H1W.out
      have y3 := (blkA hBA).2.1
      have l1 : w.heap.size < wA.heap.size := Nat.lt_of_lt_of_le HB1.out.lt hblA.size
      have l2 : go < wA.heap.size := Nat.lt_of_lt_of_le lgoW hblA.size
      have l3 : gA < wA.heap.size := hBA.lt
      have HOIA := Lib.hid hOIA
      have HOLA := Lib.hid hOLA
      have HBLA := Lib.hid hblA
      have HAP := Lib.hid hAp
      have HI := Lib.hid hI
      have HL := Lib.hid hL
      have HPV := Lib.hid hPV
      clear hwA hgA hBA HC hFA hTD hv hp c0 c1 hFr hcv hav hOI hOL hOIA hOLA hbl hbA hblA hAp hI hL hPV
      go_wp2_with fail
      rw [← HWA.out, ← HGA.out]
      go_region_held3 (fun w' => w'.cell? ⟨w.heap.size, 0, none⟩ = some (.pointer (some ⟨go, 0, none⟩)) ∧ w'.cell? ⟨go, 1, none⟩ = some (.int .i64 (m : Nat)) ∧ w'.cell? ⟨gA, 1, none⟩ = some (.slice A2 n2 c2)) (first | exact ⟨y1, y2, y3⟩ | exact ⟨s0, s1, s2⟩ | go_keep)
        (first | (go_at_call 27; refine (HCC.out _ (by first | exact HFA.out | exact HFA.out.drew)).mono ?_; rintro e w6 ⟨rfl, hb6'⟩; have hb6 : Below wA.heap.size wA w6 := (by refine bel_trans ?_ hb6'; exact bel_eqv (Below.refl _ wA) rfl rfl rfl rfl); have s0 := (hb6.cell (p := ⟨w.heap.size, 0, none⟩) l1).trans y1; have s1 := (hb6.cell (p := ⟨go, 1, none⟩) l2).trans y2; have s2 := (hb6.cell (p := ⟨gA, 1, none⟩) l3).trans y3))
      all_goals
        have hBA6 := HBA.out.call hb6
        have a0 := (blkA hBA6).1
        have a1 := (blkA hBA6).2.1
        have hOI6 := HOIA.out.call hb6
        have hOL6 := HOLA.out.call hb6
        have hF6 := HFA.out.below hb6
        have hbl6 := HBLA.out.trans (hb6.mono HBLA.out.size)
        have hz6 : W.heap.size ≤ w6.heap.size := hbl6.size
        have y4 := (hbl6.cell (p := ⟨go, 4, none⟩) lgoW).trans H4W.out
        clear y1 y2 y3
        cases cv with
        | true =>
          have HTD2 : Hid (tellS m (pd.drop j) = (⟨false, p.1, 0, p.2 0⟩ :: (tellS m (pd.drop (j + 1))).1, (tellS m (pd.drop (j + 1))).2)) := Lib.hid (by rw [HTD.out, if_pos HCV.out.symm])
          have HAV2 : Hid (av = p.2 0) := Lib.hid (HAV.out rfl)
          have hOX := hOI6.call (balloc w6 (.cells #[.int .i64 1, .int .i64 (p.1 : Nat), .bool av, .int .i64 0] 56))
          have hFX := hF6.alloc (.cells #[.int .i64 1, .int .i64 (p.1 : Nat), .bool av, .int .i64 0] 56)
          have hBX := Blk.new w6 56 #[.int .i64 1, .int .i64 (p.1 : Nat), .bool av, .int .i64 0]
          have hBs : W.heap.size ≤ (w6.alloc (.cells #[.int .i64 1, .int .i64 (p.1 : Nat), .bool av, .int .i64 0] 56)).heap.size := by simp; omega
          go_wp2_with (at_builtin; refine wpList_pushIt rfl (.tmp 31) (.tmp 36) rfl hOX hFX (by rfl) w6.heap.size 1 (by rfl) hBX (by omega) hBs ?_; intro v7 w7 hO7 hF7 hb7 hg7 hat7; obtain ⟨A7, c7, hv7, hc7⟩ := hO7.shape; subst hv7)
          have hOL7 := ownU_other (hOL6.call (balloc w6 (.cells #[.int .i64 1, .int .i64 (p.1 : Nat), .bool av, .int .i64 0] 56))) hg7 HAP.out
          have hap7 := apart_new (hOL6.call (balloc w6 (.cells #[.int .i64 1, .int .i64 (p.1 : Nat), .bool av, .int .i64 0] 56))).1 hat7 HAP.out
          have hbl7 := (hbl6.alloc hz6 (.cells #[.int .i64 1, .int .i64 (p.1 : Nat), .bool av, .int .i64 0] 56)).trans hb7
          have HR := Lib.hid (And.intro hOL7 (And.intro hap7 (And.intro hbl7 hO7)))
          clear hOL7 hap7 hbl7 hO7 hF7 hb7 hg7 hat7 hOX hFX hBX hBs s0 s1 s2
          go_wp2_with fail
          go_roundw
          case rel => exact ⟨j + 1, I ++ [⟨false, p.1, 0, p.2 0⟩], L1, ps, A7, c7, AL, cL, by omega, by go_num, by rw [List.length_append]; rfl, rfl, by rw [List.length_append]; show I.length + 1 ≤ _; omega, by omega, by rw [List.append_assoc, ← HI.out, HTD2.out]; rfl, by rw [← HL.out, HTD2.out], HR.out.2.2.1, by rw [List.length_append, itC_append, ← HAV2.out]; exact HR.out.2.2.2, HR.out.1, HPV.out, by rw [List.length_append]; exact HR.out.2.1⟩
          case measure => simp [intOf]; omega
        | false =>
          have wJ : IntKind.i64.wrap ((j : Int) + 1) = ((j + 1 : Nat) : Int) := by rw [show (j : Int) + 1 = ((j + 1 : Nat) : Int) by omega]; exact wrap_i (by omega) (by omega)
          have hj1 : ((j + 1 : Nat) : Int) ≤ (np : Int) := by omega
          have hj2 : j + 1 ≤ np := by omega
          have hj3 : (0 : Int) ≤ ((j + 1 : Nat) : Int) := by omega
          have hmf : ∀ (fn : Go.Fn) (first cap : Array Value) (w : World), (Instr.makeFunc fn first cap).run Try.prog w = .ok (.func fn first cap) w := fun _ _ _ _ => rfl
          have hP6 : PlF m (heapF w6) (some ad) np pd := HP.out.cle hF6.cle
          have HPD : Hid (PlF m (heapF w6) (some (ad.add ((j + 1) * 2))) (np - (j + 1)) (pd.drop (j + 1))) := Lib.hid (plF_drop hP6 hj2)
          have HPZ : Hid (cp = j + 1 → PlF m (heapF w6) (some ad) (np - (j + 1)) (pd.drop (j + 1))) := Lib.hid (fun e => by
            have h0 : np - (j + 1) = 0 := by omega
            rw [h0, List.drop_of_length_le (by rw [HPL.out]; omega)]
            exact PlF.nil _ _ _)
          have HIX : Hid (∀ (A' : Option Addr) (c' : Nat), PlF m (heapF w6) A' (np - (j + 1)) (pd.drop (j + 1)) → Calls Try.prog 28 #[.slice A' (np - (j + 1)) c', .func (.func 29) #[] #[.pointer (some ⟨w.heap.size, 0, none⟩), .pointer (some ⟨gA, 0, none⟩)]] w6 fun e w' => e = .returned (.int .i64 (idxP m p.2 (pd.drop (j + 1)))) ∧ Below w6.heap.size w6 w') := Lib.hid (fun A' c' h => oidx_w (sat_heapF w6) m hm w.heap.size go gA s0 s1 A2 n2 c2 p.2 s2 (HV.out.cle hF6.cle) A' (np - (j + 1)) c' (by omega) (pd.drop (j + 1)) h)
          have HNC : Hid (¬ constF m p.2 = true) := Lib.hid (by rw [← HCV.out]; simp)
          have HOI6 := Lib.hid hOI6
          have HOL6 := Lib.hid hOL6
          have HF6 := Lib.hid hF6
          have HBL6 := Lib.hid hbl6
          have HBA6 := Lib.hid hBA6
          have hfind := idx_find m p.2 (pd.drop (j + 1))
          obtain ⟨R, hR⟩ : ∃ R, idxP m p.2 (pd.drop (j + 1)) = R := ⟨_, rfl⟩
          rw [hR] at HIX hfind
          clear hP6 hR s0 s1 s2 hOI6 hOL6 hF6 hbl6 hBA6
          rcases hfind with ⟨rfl, hnone⟩ | ⟨kq, q, rfl, hq, hsome⟩
          · have HTD2 : Hid (tellS m (pd.drop j) = ((tellS m (pd.drop (j + 1))).1, p :: (tellS m (pd.drop (j + 1))).2)) := Lib.hid (by rw [HTD.out, if_neg HNC.out, hnone])
            clear hnone
            by_cases hcj : cp = j + 1
            · subst hcj
              have hz : np - (j + 1) = 0 := by omega
              rw [hz] at HIX HPZ
              have HPZ2 := Lib.hid (HPZ.out rfl)
              clear HPZ
              go_wp2_with fail
              go_at_call 28
              refine (HIX.out (some ad) 0 HPZ2.out).mono ?_
              rintro e w8 ⟨rfl, hb8⟩
              have hOL8 := HOL6.out.call hb8
              have hOI8 := HOI6.out.call hb8
              have hF8 := HF6.out.below hb8
              have hbl8 := HBL6.out.trans (hb8.mono HBL6.out.size)
              have hz8 : W.heap.size ≤ w8.heap.size := hbl8.size
              have hB8 := HBA6.out.call hb8
              have d0 := (blkA hB8).1
              have d1 := (blkA hB8).2.1
              have hOX := hOL8.call (balloc w8 (.cells #[.int .i64 (p.1 : Nat), .slice A2 n2 c2] 52))
              have hFX := hF8.alloc (.cells #[.int .i64 (p.1 : Nat), .slice A2 n2 c2] 52)
              have hBX := Blk.new w8 52 #[.int .i64 (p.1 : Nat), .slice A2 n2 c2]
              have hBs : W.heap.size ≤ (w8.alloc (.cells #[.int .i64 (p.1 : Nat), .slice A2 n2 c2] 52)).heap.size := by simp; omega
              go_wp2_with (at_builtin; refine wpList_pushPtU rfl (.tmp 49) (.tmp 51) rfl hOX hFX (by rfl) w8.heap.size 1 (by rfl) hBX (by omega) hBs ?_; intro v9 w9 hO9 hF9 hb9 hg9 hat9; obtain ⟨A9, c9, hv9, hc9⟩ := hO9.1.shape; subst hv9)
              have hap' : ∀ g, (Value.slice AL L1.length cL).ownBlock = some g → (Value.slice AI I.length cI).ownBlock ≠ some g := fun g h1 h2 => HAP.out g h2 h1
              have hOI9 := own_other (hOI8.call (balloc w8 (.cells #[.int .i64 (p.1 : Nat), .slice A2 n2 c2] 52))) hg9 hap'
              have hap9 := apart_new (hOI8.call (balloc w8 (.cells #[.int .i64 (p.1 : Nat), .slice A2 n2 c2] 52))) hat9 hap'
              have hbl9 := (hbl8.alloc hz8 (.cells #[.int .i64 (p.1 : Nat), .slice A2 n2 c2] 52)).trans hb9
              have hPV9 := HPV.out.append (PlV.one p.1 HV.out)
              have hpl : ps.length = L1.length := HPV.out.1
              have HR := Lib.hid (And.intro hOI9 (And.intro hap9 (And.intro hbl9 (And.intro hO9 hPV9))))
              clear hOI9 hap9 hbl9 hO9 hF9 hb9 hg9 hat9 hOX hFX hBX hBs hPV9 hap' d0 d1 hOL8 hOI8 hF8 hbl8
              go_wp2_with fail
              go_roundw
              case rel => first
                | exact ⟨j + 1, I, L1 ++ [p], ps ++ [(p.1, .slice A2 n2 c2)], AI, cI, A9, c9, by omega, by go_num, rfl, by rw [List.length_append]; rfl, by omega, by rw [List.length_append]; show L1.length + 1 ≤ _; omega, by rw [← HI.out, HTD2.out], by rw [List.append_assoc, ← HL.out, HTD2.out]; rfl, HR.out.2.2.1, HR.out.1, by rw [List.length_append, plC_append]; exact HR.out.2.2.2.1, HR.out.2.2.2.2, fun g h1 h2 => HR.out.2.1 g (by rw [← h2, List.length_append]; rfl) h1⟩
                | exact ⟨_, _, _, _, _, _, _, _, ⟨j + 1, I, L1 ++ [p], ps ++ [(p.1, .slice A2 n2 c2)], AI, cI, A9, c9, by omega, by go_num, rfl, by rw [List.length_append]; rfl, by omega, by rw [List.length_append]; show L1.length + 1 ≤ _; omega, by rw [← HI.out, HTD2.out], by rw [List.append_assoc, ← HL.out, HTD2.out]; rfl, HR.out.2.2.1, HR.out.1, by rw [List.length_append, plC_append]; exact HR.out.2.2.2.1, HR.out.2.2.2.2, fun g h1 h2 => HR.out.2.1 g (by rw [← h2, List.length_append]; rfl) h1⟩, rfl⟩
                | ((repeat apply Exists.intro); exact ⟨⟨j + 1, I, L1 ++ [p], ps ++ [(p.1, .slice A2 n2 c2)], AI, cI, A9, c9, by omega, by go_num, rfl, by rw [List.length_append]; rfl, by omega, by rw [List.length_append]; show L1.length + 1 ≤ _; omega, by rw [← HI.out, HTD2.out], by rw [List.append_assoc, ← HL.out, HTD2.out]; rfl, HR.out.2.2.1, HR.out.1, by rw [List.length_append, plC_append]; exact HR.out.2.2.2.1, HR.out.2.2.2.2, fun g h1 h2 => HR.out.2.1 g (by rw [← h2, List.length_append]; rfl) h1⟩, rfl⟩)
              case measure => simp [intOf]; omega
            · have hci : ¬ (cp : Int) = ((j + 1 : Nat) : Int) := by omega
              go_wp2_with fail
              go_at_call 28
              refine (HIX.out (some (ad.add ((j + 1) * 2))) (cp - (j + 1)) HPD.out).mono ?_
              rintro e w8 ⟨rfl, hb8⟩
              have hOL8 := HOL6.out.call hb8
              have hOI8 := HOI6.out.call hb8
              have hF8 := HF6.out.below hb8
              have hbl8 := HBL6.out.trans (hb8.mono HBL6.out.size)
              have hz8 : W.heap.size ≤ w8.heap.size := hbl8.size
              have hB8 := HBA6.out.call hb8
              have d0 := (blkA hB8).1
              have d1 := (blkA hB8).2.1
              have hOX := hOL8.call (balloc w8 (.cells #[.int .i64 (p.1 : Nat), .slice A2 n2 c2] 52))
              have hFX := hF8.alloc (.cells #[.int .i64 (p.1 : Nat), .slice A2 n2 c2] 52)
              have hBX := Blk.new w8 52 #[.int .i64 (p.1 : Nat), .slice A2 n2 c2]
              have hBs : W.heap.size ≤ (w8.alloc (.cells #[.int .i64 (p.1 : Nat), .slice A2 n2 c2] 52)).heap.size := by simp; omega
              go_wp2_with (at_builtin; refine wpList_pushPtU rfl (.tmp 49) (.tmp 51) rfl hOX hFX (by rfl) w8.heap.size 1 (by rfl) hBX (by omega) hBs ?_; intro v9 w9 hO9 hF9 hb9 hg9 hat9; obtain ⟨A9, c9, hv9, hc9⟩ := hO9.1.shape; subst hv9)
              have hap' : ∀ g, (Value.slice AL L1.length cL).ownBlock = some g → (Value.slice AI I.length cI).ownBlock ≠ some g := fun g h1 h2 => HAP.out g h2 h1
              have hOI9 := own_other (hOI8.call (balloc w8 (.cells #[.int .i64 (p.1 : Nat), .slice A2 n2 c2] 52))) hg9 hap'
              have hap9 := apart_new (hOI8.call (balloc w8 (.cells #[.int .i64 (p.1 : Nat), .slice A2 n2 c2] 52))) hat9 hap'
              have hbl9 := (hbl8.alloc hz8 (.cells #[.int .i64 (p.1 : Nat), .slice A2 n2 c2] 52)).trans hb9
              have hPV9 := HPV.out.append (PlV.one p.1 HV.out)
              have hpl : ps.length = L1.length := HPV.out.1
              have HR := Lib.hid (And.intro hOI9 (And.intro hap9 (And.intro hbl9 (And.intro hO9 hPV9))))
              clear hOI9 hap9 hbl9 hO9 hF9 hb9 hg9 hat9 hOX hFX hBX hBs hPV9 hap' d0 d1 hOL8 hOI8 hF8 hbl8
              go_wp2_with fail
              go_roundw
              case rel => first
                | exact ⟨j + 1, I, L1 ++ [p], ps ++ [(p.1, .slice A2 n2 c2)], AI, cI, A9, c9, by omega, by go_num, rfl, by rw [List.length_append]; rfl, by omega, by rw [List.length_append]; show L1.length + 1 ≤ _; omega, by rw [← HI.out, HTD2.out], by rw [List.append_assoc, ← HL.out, HTD2.out]; rfl, HR.out.2.2.1, HR.out.1, by rw [List.length_append, plC_append]; exact HR.out.2.2.2.1, HR.out.2.2.2.2, fun g h1 h2 => HR.out.2.1 g (by rw [← h2, List.length_append]; rfl) h1⟩
                | exact ⟨_, _, _, _, _, _, _, _, ⟨j + 1, I, L1 ++ [p], ps ++ [(p.1, .slice A2 n2 c2)], AI, cI, A9, c9, by omega, by go_num, rfl, by rw [List.length_append]; rfl, by omega, by rw [List.length_append]; show L1.length + 1 ≤ _; omega, by rw [← HI.out, HTD2.out], by rw [List.append_assoc, ← HL.out, HTD2.out]; rfl, HR.out.2.2.1, HR.out.1, by rw [List.length_append, plC_append]; exact HR.out.2.2.2.1, HR.out.2.2.2.2, fun g h1 h2 => HR.out.2.1 g (by rw [← h2, List.length_append]; rfl) h1⟩, rfl⟩
                | ((repeat apply Exists.intro); exact ⟨⟨j + 1, I, L1 ++ [p], ps ++ [(p.1, .slice A2 n2 c2)], AI, cI, A9, c9, by omega, by go_num, rfl, by rw [List.length_append]; rfl, by omega, by rw [List.length_append]; show L1.length + 1 ≤ _; omega, by rw [← HI.out, HTD2.out], by rw [List.append_assoc, ← HL.out, HTD2.out]; rfl, HR.out.2.2.1, HR.out.1, by rw [List.length_append, plC_append]; exact HR.out.2.2.2.1, HR.out.2.2.2.2, fun g h1 h2 => HR.out.2.1 g (by rw [← h2, List.length_append]; rfl) h1⟩, rfl⟩)
              case measure => simp [intOf]; omega
          · have hkq : kq < np - (j + 1) := by
              have := (List.getElem?_eq_some_iff.1 hq).1
              rw [List.length_drop, HPL.out] at this
              exact this
            have hqp : pd[j + 1 + kq]? = some q := by rw [← hq, List.getElem?_drop]
            have HTD2 : Hid (tellS m (pd.drop j) = (⟨true, p.1, q.1, false⟩ :: (tellS m (pd.drop (j + 1))).1, (tellS m (pd.drop (j + 1))).2)) := Lib.hid (by rw [HTD.out, if_neg HNC.out, hsome])
            have HQP := Lib.hid hqp
            have hkn : ¬ ((kq : Int) < 0) := by omega
            obtain ⟨qe, hqe⟩ : ∃ qe, j + 1 + kq = qe := ⟨_, rfl⟩
            rw [hqe] at hqp
            have hqn : (qe : Int) < (np : Int) := by omega
            have wK : IntKind.i64.wrap ((j : Int) + 1 + (kq : Int)) = (qe : Int) := by rw [show (j : Int) + 1 + (kq : Int) = (qe : Int) by omega]; exact wrap_i (by omega) (by omega)
            clear hqe
            obtain ⟨ad2, v2, e2, x0, _, _⟩ := HP.out.at_ hqp
            injection e2 with e2
            subst e2
            have HX0 := Lib.hid x0
            clear hsome hq hqp x0
            by_cases hcj : cp = j + 1
            · exfalso
              omega
            · have hci : ¬ (cp : Int) = ((j + 1 : Nat) : Int) := by omega
              go_wp2_with fail
              go_at_call 28
              refine (HIX.out (some (ad.add ((j + 1) * 2))) (cp - (j + 1)) HPD.out).mono ?_
              rintro e w8 ⟨rfl, hb8⟩
              have hOL8 := HOL6.out.call hb8
              have hOI8 := HOI6.out.call hb8
              have hF8 := HF6.out.below hb8
              have hbl8 := HBL6.out.trans (hb8.mono HBL6.out.size)
              have hz8 : W.heap.size ≤ w8.heap.size := hbl8.size
              have hB8 := HBA6.out.call hb8
              have d0 := (blkA hB8).1
              have y1' := (hbl8.cell (p := ⟨w.heap.size, 0, none⟩) HB1.out.lt).trans (blk1 HB1.out).1
              have y4' := (hbl8.cell (p := ⟨go, 4, none⟩) lgoW).trans H4W.out
              have x0' := hF8.cell HX0.out
              have hBs : W.heap.size ≤ (w8.drew.alloc (.cells #[.int .i64 2, .int .i64 (p.1 : Nat), .bool false, .int .i64 (q.1 : Nat)] 56)).heap.size := by show W.heap.size ≤ (w8.alloc _).heap.size; simp; omega
              clear hb8
              go_wp2_with fail
              go_region_law ((refine step_pushIt rfl (.tmp 53) (.tmp 68) (by rfl) (hOI8.drew.alloc _) (hF8.drew.alloc _) (by rfl) _ 1 (by rfl) (Blk.new _ _ _) (by omega) hBs ?_; intro v9 w9 hO9 hF9 hb9 hg9 hat9; obtain ⟨A9, c9, hv9, hc9⟩ := hO9.shape; subst hv9))
              all_goals
                have hOL9 := ownU_other (hOL8.call ((Below.refl w8.heap.size w8).drew.alloc (Nat.le_refl _) (.cells #[.int .i64 2, .int .i64 (p.1 : Nat), .bool false, .int .i64 (q.1 : Nat)] 56))) hg9 HAP.out
                have hap9 := apart_new (hOL8.call ((Below.refl w8.heap.size w8).drew.alloc (Nat.le_refl _) (.cells #[.int .i64 2, .int .i64 (p.1 : Nat), .bool false, .int .i64 (q.1 : Nat)] 56))).1 hat9 HAP.out
                have hbl9 := (hbl8.drew.alloc hz8 (.cells #[.int .i64 2, .int .i64 (p.1 : Nat), .bool false, .int .i64 (q.1 : Nat)] 56)).trans hb9
                have HR := Lib.hid (And.intro hOL9 (And.intro hap9 (And.intro hbl9 hO9)))
                clear hOL9 hap9 hbl9 hO9 hF9 hb9 hg9 hat9 hBs d0 y1' y4' x0' hOL8 hOI8 hF8 hbl8
                go_wp2_with fail
                go_roundw
                case rel => exact ⟨j + 1, I ++ [⟨true, p.1, q.1, false⟩], L1, ps, A9, c9, AL, cL, by omega, by go_num, by rw [List.length_append]; rfl, rfl, by rw [List.length_append]; show I.length + 1 ≤ _; omega, by omega, by rw [List.append_assoc, ← HI.out, HTD2.out]; rfl, by rw [← HL.out, HTD2.out], HR.out.2.2.1, by rw [List.length_append, itC_append]; exact HR.out.2.2.2, HR.out.1, HPV.out, by rw [List.length_append]; exact HR.out.2.1⟩
                case measure => simp [intOf]; omega
    · have hnp : j = np := by omega
      subst hnp
      have hdec : decide ((j : Int) < (j : Int)) = false := decide_eq_false (by omega)
      have htd : tellS m (pd.drop j) = ([], []) := by rw [List.drop_of_length_le (by rw [HPL.out]; exact Nat.le_refl _)]; rfl
      have y1 := (hbl.cell (p := ⟨w.heap.size, 0, none⟩) HB1.out.lt).trans (blk1 HB1.out).1
      have y4 := (hbl.cell (p := ⟨go, 4, none⟩) lgoW).trans H4W.out
      have f4 : wr.frozen? ⟨go, 4, none⟩ = false := (World.frozen?_of_block (a := ⟨go, 4, none⟩) (hbl.block go lgoW)).trans HF4.out
      rw [htd] at hI hL
      rw [List.append_nil] at hI hL
      have hWw : w.heap.size ≤ W.heap.size := HB0.out.size
      have HR := Lib.hid (And.intro (bthen HB0.out (hbl.mono (Nat.le_refl _))) (And.intro (own_base hOI hWw) (And.intro (show OwnU _ _ _ _ _ _ _ _ from ⟨own_base hOL.1 hWw, hOL.2⟩) (And.intro hPV hAp))))
      have HII := Lib.hid (And.intro hI hL)
      clear hI hL hbl hOI hOL hPV hAp hFr htd
      go_wp2_with fail
      go_ret
      rw [← HII.out.1, ← HII.out.2]
      exact ⟨wr, ps, AI, cI, AL, cL, rfl, HR.out.1, rfl, HR.out.2.1, HR.out.2.2.1, HR.out.2.2.2.1, HR.out.2.2.2.2⟩
end Go.Proofs.Ytaomehlhopiblaa
