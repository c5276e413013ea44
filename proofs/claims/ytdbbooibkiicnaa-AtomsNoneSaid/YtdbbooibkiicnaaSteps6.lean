/- The walk of relate of package steps: who stands above an own node. -/
import Derived.Test.YtdbbooibkiicnaaSteps4
import Derived.Test.YtdbbooibkiicnaaPlanO
set_option linter.unusedVariables false
set_option linter.unusedSimpArgs false
/-! Who stands above an own node: the plain laws of relate's stack; its walk. -/
namespace Go.Proofs.Ytdbbooibkiicnaa
open Go.RowKit
attribute [local go_sem ↓] Go.wp_at_zero Go.wp_at_succ
/-- i stands strictly below s. -/
def BelT (t : Tr) (s i : Nat) : Prop := s + 1 ≤ i + (t.sub s).size ∧ i < s
def sizT (t : Tr) (st : List Nat) : Nat := (st.map fun s => (t.sub s).size).sum
/-- What relate's loop keeps: own nodes on the stack (top first); each own node has its up, or stands below one of the stack. -/
structure StkU (t : Tr) (N : Nat) (st : List Nat) (f : Nat → Int) : Prop where
  own : ∀ s, s ∈ st → s < N ∧ (posT t s true 0 0).1 = true
  sum : sizT t st ≤ N
  up : ∀ i, i + 1 < N → (posT t i true 0 0).1 = true → f i = (parT t i : Nat) ∨ ∃ s, s ∈ st ∧ BelT t s i
def setK (f : Nat → Int) (ks : List Nat) (s i : Nat) : Int := if i ∈ ks then (s : Nat) else f i
theorem setK_nil (f : Nat → Int) (s : Nat) : setK f [] s = f := by funext i; simp [setK]
theorem setK_snoc (f : Nat → Int) (ks : List Nat) (k s : Nat) : upd (setK f ks s) k s = setK f (ks ++ [k]) s := by
  funext i
  unfold setK upd
  by_cases e : i = k
  · subst e; simp
  · simp [e]
theorem sizT_cons (t : Tr) (s : Nat) (st : List Nat) : sizT t (s :: st) = (t.sub s).size + sizT t st := rfl
theorem sizT_len (t : Tr) : ∀ st : List Nat, st.length ≤ sizT t st
  | [] => Nat.le_refl _
  | s :: st => by
    have := sizT_len t st
    have := (t.sub s).size_pos
    rw [sizT_cons, List.length_cons]; omega
theorem sizT_append (t : Tr) (a b : List Nat) : sizT t (a ++ b) = sizT t a + sizT t b := by unfold sizT; simp
theorem StkU.start {t : Tr} (f : Nat → Int) : StkU t t.size [t.size - 1] f where
  own s hs := by
    have := t.size_pos
    obtain rfl : s = t.size - 1 := by simpa using hs
    exact ⟨by omega, by rw [pos_root]⟩
  sum := by simp [sizT, Tr.sub_root]
  up i hi _ := .inr ⟨t.size - 1, by simp, by rw [Tr.sub_root]; omega, by omega⟩
theorem StkU.stop {t : Tr} (hva : validT t = true) {s : Nat} {st : List Nat} {f : Nat → Int} (h : StkU t t.size (s :: st) f) (hk : (t.sub s).root.kind = 19) : StkU t t.size st f where
  own x hx := h.own x (List.mem_cons_of_mem _ hx)
  sum := by have := h.sum; rw [sizT_cons] at this; omega
  up i hi ho := by
    rcases h.up i hi ho with e | ⟨x, hx, hb⟩
    · exact .inl e
    · rcases List.mem_cons.1 hx with rfl | hx
      · exfalso
        obtain ⟨hs, hso⟩ := h.own x (List.mem_cons_self ..)
        have hle := Tr.sub_size_le t x hs
        have hvx := sub_valid t x hva
        obtain ⟨h1, h2⟩ := hb
        have hps := pos_sub t x (i + (t.sub x).size - (x + 1)) true 0 0 hs (by omega)
        rw [show x + 1 - (t.sub x).size + (i + (t.sub x).size - (x + 1)) = i by omega] at hps
        cases hxs : t.sub x with
        | leaf n => rw [hxs] at h1; simp [Tr.size] at h1; omega
        | un n a =>
          rw [hxs] at hps hk hle h1
          have hk : n.kind = 19 := hk
          have e1 : (Tr.un n a).size = a.size + 1 := by simp [Tr.size]
          rw [e1] at hps hle h1
          rw [posT_un, if_pos (by omega), hk] at hps
          rw [hps] at ho
          simp [pos_no] at ho
        | bin n a b =>
          rw [hxs] at hvx hk
          exact (bin_kind hvx).1 hk
      · exact .inr ⟨x, hx, hb⟩
theorem StkU.step {t : Tr} {s : Nat} {st : List Nat} {f : Nat → Int} (h : StkU t t.size (s :: st) f) (hk : (t.sub s).root.kind ≠ 19) : (∀ k, k ∈ kidsN t s → k < s) ∧ StkU t t.size ((kidsN t s).reverse ++ st) (setK f (kidsN t s) s) ∧ sizT t ((kidsN t s).reverse ++ st) < sizT t (s :: st) := by
  obtain ⟨hs, hso⟩ := h.own s (List.mem_cons_self ..)
  have hle := Tr.sub_size_le t s hs
  have hsum := h.sum
  rw [sizT_cons] at hsum
  have hst : ∀ x, x ∈ st → x < t.size ∧ (posT t x true 0 0).1 = true := fun x hx => h.own x (List.mem_cons_of_mem _ hx)
  have hpar : ∀ k, k ∈ kidsN t s → k < s ∧ parT t k = s := fun k hk => kidsN_mem hs hk
  have key : (∀ k, k ∈ kidsN t s → (posT t k true 0 0).1 = true) ∧ sizT t (kidsN t s).reverse < (t.sub s).size ∧ ∀ i, BelT t s i → i ∈ kidsN t s ∨ ∃ k, k ∈ kidsN t s ∧ BelT t k i := by
    unfold BelT kidsN
    cases hx : t.sub s with
    | leaf n => exact ⟨fun k h => by simp at h, by simp [sizT, Tr.size], fun i h => by simp [Tr.size] at h; omega⟩
    | un n a =>
      obtain ⟨k1, k2, _⟩ := kid_un hs hx
      obtain ⟨_, hpu⟩ := pos_un hs hx true 0 0
      rw [hx] at hk
      have hk : n.kind ≠ 19 := hk
      have hp := a.size_pos
      have e1 : (Tr.un n a).size = a.size + 1 := by simp [Tr.size]
      refine ⟨fun k h => ?_, by simp [sizT, k2, e1], fun i h => ?_⟩
      · obtain rfl : k = s - 1 := by simpa using h
        rw [hpu, hso, decide_eq_true hk]; rfl
      · rw [e1] at h
        by_cases e : i = s - 1
        · exact .inl (by simp [e])
        · exact .inr ⟨s - 1, by simp, by rw [k2]; omega, by omega⟩
    | bin n a b =>
      obtain ⟨k1, k2, k3⟩ := kid_bin hs hx
      obtain ⟨_, hpa, hpb⟩ := pos_bin hs hx true 0 0
      have hp := a.size_pos
      have hq := b.size_pos
      have e1 : (Tr.bin n a b).size = a.size + b.size + 1 := by simp [Tr.size]
      refine ⟨fun k h => ?_, by simp [sizT, k2, k3, e1]; omega, fun i h => ?_⟩
      · simp only [List.mem_cons, List.mem_nil_iff, or_false] at h
        rcases h with rfl | rfl
        · rw [hpa]; exact hso
        · rw [hpb]; exact hso
      · rw [e1] at h
        by_cases e : i = s - 1
        · exact .inl (by simp [e])
        · by_cases e2 : i = s - 1 - b.size
          · exact .inl (by simp [e2])
          · by_cases e3 : i < s - 1 - b.size
            · exact .inr ⟨s - 1 - b.size, by simp, by rw [k3]; omega, e3⟩
            · exact .inr ⟨s - 1, by simp, by rw [k2]; omega, by omega⟩
  obtain ⟨ko, ks, kb⟩ := key
  refine ⟨fun k hk => (hpar k hk).1, ⟨fun x hx => ?_, ?_, fun i hi ho => ?_⟩, ?_⟩
  · rcases List.mem_append.1 hx with hx | hx
    · rw [List.mem_reverse] at hx
      exact ⟨by have := (hpar x hx).1; omega, ko x hx⟩
    · exact hst x hx
  · rw [sizT_append]; omega
  · unfold setK
    by_cases hik : i ∈ kidsN t s
    · rw [if_pos hik]
      exact .inl (by rw [(hpar i hik).2])
    · rw [if_neg hik]
      rcases h.up i hi ho with e | ⟨x, hx, hb⟩
      · exact .inl e
      · rcases List.mem_cons.1 hx with rfl | hx
        · rcases kb i hb with h1 | ⟨k, h1, h2⟩
          · exact absurd h1 hik
          · exact .inr ⟨k, by simp [h1], h2⟩
        · exact .inr ⟨x, by simp [hx], hb⟩
  · rw [sizT_append, sizT_cons]; omega
theorem StkU.done {t : Tr} {f : Nat → Int} (h : StkU t t.size [] f) : ∀ i, i + 1 < t.size → (posT t i true 0 0).1 = true → f i = (parT t i : Nat) := fun i hi ho => by
  rcases h.up i hi ho with e | ⟨x, hx, _⟩
  · exact e
  · cases hx
/-- The same sum, told by a slice of places in a world. -/
def sizV (t : Tr) (v : Value) (w : World) : Nat := match v with
  | .slice (some a) n _ => ((List.range n).map fun j => match w.cell? (a.add j) with | some (.int _ i) => (t.sub i.toNat).size | _ => 0).sum
  | _ => 0
theorem sizT_reverse (t : Tr) (st : List Nat) : sizT t st.reverse = sizT t st := by unfold sizT; rw [List.map_reverse, List.sum_reverse]
theorem sizV_rd (t : Tr) {w : World} {A : Option Addr} {n c : Nat} {xs : List Nat} (h : Rd (heapF w) 1 A n ((zs xs).map encI)) : sizV t (.slice A n c) w = sizT t xs := by
  have hl : xs.length = n := by have := h.1; simpa [zs] using this
  cases A with
  | none =>
    have : xs = [] := by
      rcases Nat.eq_zero_or_pos n with h0 | h0
      · exact List.eq_nil_of_length_eq_zero (by omega)
      · obtain ⟨ad, e, _⟩ := h.2 h0; cases e
    rw [this]; rfl
  | some a =>
    show ((List.range n).map _).sum = (xs.map _).sum
    congr 1
    refine List.ext_getElem (by simp [hl]) fun j h1 h2 => ?_
    have hj : j < n := by simpa using h1
    obtain ⟨ad, v, e, hv, hc⟩ := h.at1 hj
    injection e with e
    subst e
    have hjx : j < xs.length := by omega
    have hv2 : v = .int .i64 (xs[j] : Nat) := by
      have : ((zs xs).map encI)[j]? = some (.int .i64 (xs[j] : Nat)) := by simp [zs, hjx]
      rw [this] at hv; injection hv with hv; exact hv.symm
    have hcw := (sat_heapF w).cell hc
    rw [hv2] at hcw
    simp only [List.getElem_map, List.getElem_range, hcw]
    congr 1
theorem UB.bel {w w' : World} {g N B : Nat} {f : Nat → Int} (h : UB w g N f) (hb : Below B w w') (hg : g < B) : UB w' g N f := let ⟨us, h1, h2, h3⟩ := h; ⟨us, h1.below hb hg, h2, h3⟩
theorem Wr.bel {Gs : List Nat} {w w1 w2 : World} {B : Nat} (h : Wr Gs w w1) (hb : Below B w1 w2) (hB : w.heap.size ≤ B) : Wr Gs w w2 :=
  ⟨hb.os.trans h.os, hb.tape.trans h.tape, hb.output.trans h.output, Nat.le_trans h.size hb.size, fun b hl hg => (hb.block b (by omega)).trans (h.block b hl hg)⟩
theorem Wr.setNew {Gs : List Nat} {w w1 : World} (h : Wr Gs w w1) {p : Addr} (hp : w.heap.size ≤ p.block) (u : Value) : Wr Gs w (w1.setCell p u) := h.bel ((Below.refl _ _).setCell (p := p) (Nat.le_refl _) u) hp
theorem ub_new (w : World) (N : Nat) : UB (w.alloc (.cells (zeros (.int .i64 0) N) 3)) w.heap.size N (fun _ => 0) :=
  ⟨List.replicate N (.int .i64 0), Blk.new w _ _, by simp, fun j hj => by simp [hj]⟩
set_option maxRecDepth 100000 in
set_option maxHeartbeats 8000000 in
theorem srelate_w {F : Fz} {w : World} (hF : Sat F w) (l : List Nd) (hn : l.length ≤ 1000) (Al : Option Addr) (N cl : Nat) (hl : NodesF F Al N l) {t : Tr} (ht : treeS l = some t) (hv : regV t) (gp : Nat) (As : Option Addr) (M cs gn : Nat)
    (hP : Blk w gp 133 #[.slice Al N cl, .slice As M cs, .slice (some ⟨gn, 0, none⟩) N N, .slice none 0 0, .slice none 0 0, .slice none 0 0]) (hFp : F gp = none) :
    Calls Try.prog 104 #[.pointer (some ⟨gp, 0, none⟩)] w fun e w' => e = .returned (.tuple #[]) ∧ ∃ gu f, w.heap.size ≤ gu ∧
      Blk w' gp 133 #[.slice Al N cl, .slice As M cs, .slice (some ⟨gn, 0, none⟩) N N, .slice (some ⟨gu, 0, none⟩) N N, .slice none 0 0, .slice none 0 0] ∧ UB w' gu N f ∧ (∀ i, i + 1 < N → (posT t i true 0 0).1 = true → f i = (parT t i : Nat)) ∧ Wr [gp] w w' := by
  have hNl : N = l.length := hl.1.symm
  have hNt : t.size = N := by rw [hNl]; exact (tree_len ht).symm
  have hN1 : 1 ≤ N := by have := t.size_pos; omega
  have hNb : N ≤ 1000 := by omega
  have hmk := fun (X : World) => mkU N hNb X
  have hst0 := StkU.start (t := t) (fun i => if i = N - 1 then -1 else 0)
  have HVA := Lib.hid (tree_valid ht)
  have HT := Lib.hid ht
  have HST := Lib.hid (fun f => StkU.start (t := t) f)
  have HNT := Lib.hid hNt
  have hgl := hP.lt
  have p0 : w.cell? ⟨gp, 0, none⟩ = some (.slice Al N cl) := by rw [hP.cell]; rfl
  have p3 : w.cell? ⟨gp, 3, none⟩ = some (.slice none 0 0) := by rw [hP.cell]; rfl
  have fz3 := hP.frozen 3
  obtain ⟨R, hR⟩ : ∃ R, N - 1 = R := ⟨_, rfl⟩
  have hrt : IntKind.i64.wrap ((N : Int) - 1) = (R : Int) := by rw [show (N : Int) - 1 = (R : Int) by omega]; exact IntWalk.i64_in _ (by omega)
  have hrt2 : (N : Int) - 1 = (R : Int) := by omega
  have hRI : (R : Int) < (N : Int) := by omega
  have hRN : R < N := by omega
  have HR := Lib.hid hR
  have HP := Lib.hid hP
  have HFP := Lib.hid hFp
  have HF := Lib.hid hF
  obtain ⟨hln, hl2⟩ := hl
  obtain ⟨ad, rfl, hL⟩ := hl2 (by omega)
  have HL := Lib.hid hL
  have HLN := Lib.hid hln
  clear hNl hNt ht hv hP hR hFp hF hl2 hL hln
  go_enter Try.func104, Try.ntmps104
  go_wp2_with fail
  obtain ⟨PB, hPB⟩ : ∃ PB : Array Value, #[.slice (some ad) N cl, .slice As M cs, .slice (some ⟨gn, 0, none⟩) N N, .slice (some ⟨w.heap.size, 0, none⟩) N N, .slice none 0 0, .slice none 0 0] = PB := ⟨_, rfl⟩
  obtain ⟨V, hV⟩ : ∃ V, ((w.setCell ⟨gp, 3, none⟩ (.slice (some ⟨w.heap.size, 0, none⟩) N N)).alloc (.cells (zeros (.int .i64 0) N) 3)).alloc (.cells #[.int .i64 (R : Nat)] 3) = V := ⟨_, rfl⟩
  obtain ⟨F', hF'⟩ : ∃ F' : Fz, F.put gp (.cells PB 133 (0, 0)) = F' := ⟨_, rfl⟩
  obtain ⟨gu, hgu⟩ : ∃ gu, w.heap.size = gu := ⟨_, rfl⟩
  have hVP : Blk V gp 133 PB := by
    rw [← hV, ← hPB]
    exact ((HP.out.set_ 3 _).alloc _).alloc _
  have hVU : UB V gu N (fun _ => 0) := by
    rw [← hV, ← hgu]
    have h := ub_new (w.setCell ⟨gp, 3, none⟩ (.slice (some ⟨w.heap.size, 0, none⟩) N N)) N
    rw [show (w.setCell ⟨gp, 3, none⟩ (.slice (some ⟨w.heap.size, 0, none⟩) N N)).heap.size = w.heap.size by simp] at h
    exact h.call (balloc _ _)
  have hWV : Wr [gp] w V := by
    rw [← hV]
    exact (((Wr.refl _ _).set (by simp) 3 _).alloc _).alloc _
  have hFgu : F' gu = none := by
    rw [← hF']
    show (if gu = gp then _ else F gu) = none
    rw [if_neg (by omega)]
    exact HF.out.none_ (by omega)
  have hFg1 : F' (gu + 1) = none := by
    rw [← hF']
    show (if gu + 1 = gp then _ else F (gu + 1)) = none
    rw [if_neg (by omega)]
    exact HF.out.none_ (by omega)
  have hFV : Sat F' V := by
    rw [← hF']
    exact (hWV.sat HF.out (fun g hg => by simp at hg; subst hg; exact HFP.out)).put hVP
  have hFP : F' gp = some (.cells PB 133 (0, 0)) := by rw [← hF']; exact if_pos rfl
  have hL1 : Blk V (gu + 1) 3 #[.int .i64 (R : Nat)] := by
    rw [← hV, ← hgu]
    have := Blk.new ((w.setCell ⟨gp, 3, none⟩ (.slice (some ⟨w.heap.size, 0, none⟩) N N)).alloc (.cells (zeros (.int .i64 0) N) 3)) 3 #[.int .i64 (R : Nat)]
    simpa using this
  have hOV : Own F' V (gu + 1) 3 1 (.slice (some ⟨gu + 1, 0, none⟩) 1 1) 1 ((zs [R]).map encI) := by
    refine ⟨⟨rfl, .inr ⟨gu + 1, 1, _, rfl, Nat.le_refl _, hL1, Nat.le_refl _, by simp [maxLen], rfl, rfl⟩⟩, fun g hg => ?_⟩
    simp [Value.ownBlock] at hg
    subst hg
    exact hFg1
  have hPC : ∀ X, Sat F' X → Blk X gp 133 PB := fun X h => h gp _ hFP
  have HPC : Hid (∀ X, Sat F' X → X.cell? ⟨gp, 0, none⟩ = some (.slice (some ad) N cl) ∧ X.cell? ⟨gp, 3, none⟩ = some (.slice (some ⟨gu, 0, none⟩) N N)) := Lib.hid (fun X h => ⟨by rw [(hPC X h).cell, ← hPB]; rfl, by rw [(hPC X h).cell, ← hPB, ← hgu]; rfl⟩)
  have HPB : Hid (∀ X, Sat F' X → Blk X gp 133 #[.slice (some ad) N cl, .slice As M cs, .slice (some ⟨gn, 0, none⟩) N N, .slice (some ⟨gu, 0, none⟩) N N, .slice none 0 0, .slice none 0 0]) := Lib.hid (fun X h => by have := hPC X h; rw [← hPB, hgu] at this; exact this)
  have HGU := Lib.hid hgu
  have HFG := Lib.hid hFgu
  obtain ⟨_, q3⟩ := HPC.out V hFV
  have qu := hVU.at_ hRN
  have qf := hVU.soft R
  have q1 : V.cell? ⟨gu + 1, 0, none⟩ = some (.int .i64 (R : Nat)) := by rw [hL1.cell]; rfl
  have HVU := Lib.hid hVU
  have HWV := Lib.hid hWV
  have HFV := Lib.hid hFV
  have HOV := Lib.hid hOV
  rw [hV, hgu]
  clear hV hPB hF' hgu hVP hVU hWV hFgu hFg1 hFV hFP hL1 hOV hPC p0 p3 fz3 hmk HP
  go_region
  go_wp2_with fail
  obtain ⟨V2, hV2⟩ : ∃ V2, V.setCell ⟨gu, R, none⟩ (.int .i64 (-1)) = V2 := ⟨_, rfl⟩
  have HV2U : Hid (UB V2 gu N (upd (fun _ => 0) R (-1))) := Lib.hid (by rw [← hV2]; exact HVU.out.set hRN (-1))
  have HV2W : Hid (Wr [gp] w V2) := Lib.hid (by rw [← hV2]; exact HWV.out.setNew (p := ⟨gu, R, none⟩) (by rw [HGU.out]; exact Nat.le_refl _) _)
  have HV2F : Hid (Sat F' V2) := Lib.hid (by rw [← hV2]; exact HFV.out.setCell (p := ⟨gu, R, none⟩) HFG.out _)
  have HV2O : Hid (Own F' V2 (gu + 1) 3 1 (.slice (some ⟨gu + 1, 0, none⟩) 1 1) 1 ((zs [R]).map encI)) := Lib.hid (by rw [← hV2]; exact HOV.out.setFar (a := ⟨gu, R, none⟩) (by simp [Value.ownBlock]) _)
  have HS0 : Hid (StkU t N [R] (upd (fun _ => 0) R (-1))) := Lib.hid (by have := HST.out (upd (fun _ => 0) R (-1)); rw [HNT.out, HR.out] at this; exact this)
  rw [hV2]
  clear hV2 q3 qu qf q1 HVU HWV HFV HOV HST hrt hrt2 hRI
  go_loopw [2, 3, 5] (fun v2 _ _ wr => ∃ (st : List Nat) (f : Nat → Int) (A : Option Addr) (n c : Nat), v2 = .slice A n c ∧ n ≤ c ∧ Hid (n = st.length) ∧ Own F' wr (gu + 1) 3 1 (.slice A n c) n ((zs st.reverse).map encI) ∧ UB wr gu N f ∧ Hid (StkU t N st f) ∧ Sat F' wr ∧ Wr [gp] w wr) (fun v2 _ _ wr => sizV t v2 wr)
  case atStart => exact ⟨[R], _, some ⟨gu + 1, 0, none⟩, 1, 1, rfl, Nat.le_refl _, Lib.hid rfl, HV2O.out, HV2U.out, HS0, HV2F.out, HV2W.out.drew⟩
  case round =>
    obtain ⟨st, f, A, n, c, rfl, hnc, H4, hO, hU, HS, hFr, hwr⟩ := hrel
    rcases st with _ | ⟨s, st⟩
    · have h40 := H4.out
      rw [List.length_nil] at h40
      have h4I : decide (0 < n) = false := decide_eq_false (by omega)
      have HU := Lib.hid hU
      have HW := Lib.hid hwr
      have HB := Lib.hid (HPB.out wr hFr)
      have HD : Hid (∀ i, i + 1 < N → (posT t i true 0 0).1 = true → f i = (parT t i : Nat)) := Lib.hid (by have h := HS.out; rw [← HNT.out] at h ⊢; exact h.done)
      clear h40 hO hU hwr hFr
      go_wp2_with fail
      go_end0
      exact ⟨rfl, gu, f, by rw [HGU.out]; exact Nat.le_refl _, HB.out, HU.out, HD.out, HW.out⟩
    · have h4 := H4.out
      rw [List.length_cons] at h4
      obtain ⟨k, hk⟩ : ∃ k, st.length = k := ⟨_, rfl⟩
      rw [hk] at h4
      subst h4
      have hst := HS.out.own s (List.mem_cons_self ..)
      have hsum := HS.out.sum
      have hsl := sizT_len t (s :: st)
      rw [List.length_cons, hk] at hsl
      have hkb : k ≤ 1000 := by omega
      have hsN := hst.1
      have hsI : (s : Int) < (N : Int) := by omega
      have hrow : ((s :: st).reverse) = st.reverse ++ [s] := by simp
      have HM : Hid (sizV t (.slice A (k + 1) c) wr = sizT t (s :: st)) := Lib.hid (by
        obtain ⟨A', c', e', _, hrd⟩ := hO.rdH
        injection e' with e1 e2 e3
        subst e1
        rw [sizV_rd t hrd, sizT_reverse])
      rw [hrow, zs_snoc, List.map_append] at hO
      have hOc := hO.chop
      obtain ⟨A', c', e', _, hrd⟩ := hO.rdH
      injection e' with e1 e2 e3
      subst e1
      clear e2 e3
      obtain ⟨a4, v, rfl, hv, hcell⟩ := hrd.at1 (k := k) (by omega)
      rw [List.getElem?_append_right (by simp [zs, hk])] at hv
      simp [zs, hk] at hv
      subst hv
      have hcz := (sat_heapF wr).cell hcell
      obtain ⟨q0, q3⟩ := HPC.out wr hFr
      have hFs : Sat F wr := hwr.sat HF.out (fun g hg => by simp at hg; subst hg; exact HFP.out)
      have hsl2 : s < l.length := by rw [HLN.out]; exact hsN
      obtain ⟨Ak, ck, hck, hK, hdn⟩ := HL.out s hsl2
      have hgr := get_flat_root HT.out s hsl2
      have hkk := kidsN_eq HT.out s hsl2
      obtain ⟨nd, hnd⟩ : ∃ nd, l[s] = nd := ⟨_, rfl⟩
      rw [hnd] at hgr hkk
      simp only [hnd] at hK hdn hck
      have hkd : nd.kind = (t.sub s).root.kind := by rw [hgr]
      obtain ⟨kind, name, lo, hi', kk⟩ := nd
      dsimp only at hkk hkd hK hdn hck
      obtain ⟨K, hKk⟩ : ∃ K, kk.length = K := ⟨_, rfl⟩
      have hKb : K ≤ 2 := by have := kidsN_len t s; rw [← hKk, hkk]; simpa [zs] using this
      obtain ⟨c0, c1, c2, c3, c4⟩ := hdn.sat hFs
      dsimp only at c0 c1 c2 c3 c4
      rw [hKk] at c4 hK hck
      have HK := Lib.hid hK
      have HKK := Lib.hid hkk
      have HKL := Lib.hid hKk
      have HU := Lib.hid hU
      have HW := Lib.hid hwr
      have HFr := Lib.hid hFr
      have HO : Hid (Own F' wr (gu + 1) 3 1 (.slice (some a4) k c) k ((zs st.reverse).map encI)) := Lib.hid hOc
      have HSK : Hid (st.length = k) := Lib.hid hk
      have hkc : (k : Int) ≤ (c : Int) := by omega
      have hk0 : (k : Int) + 1 > 0 := by omega
      by_cases h19 : kind = 19
      · have hstop : StkU t N st f := by
          have h := HS.out
          rw [← HNT.out] at h ⊢
          exact h.stop HVA.out (by rw [← hkd]; exact h19)
        have HSS := Lib.hid hstop
        have HME : Hid (sizT t st < sizT t (s :: st)) := Lib.hid (by rw [sizT_cons]; have := (t.sub s).size_pos; omega)
        subst h19
        clear hst hsum hsl hrow hO hOc hrd hcell hFs hsl2 hK hkk hKk hgr hnd hdn hkd hU hwr hFr hk hstop
        go_wp2_with fail
        go_roundw
        case rel => exact ⟨st, f, some a4, k, c, rfl, by omega, Lib.hid HSK.out.symm, HO.out, HU.out, HSS, HFr.out, HW.out⟩
        case measure =>
          rw [HM.out]
          obtain ⟨A', c', e', _, hrd⟩ := HO.out.rdH
          injection e' with e1 e2 e3
          subst e1
          rw [sizV_rd t hrd, sizT_reverse]
          exact HME.out
      · obtain ⟨hlow, hstep, hsz⟩ := StkU.step (t := t) (s := s) (st := st) (f := f) (by have h := HS.out; rw [← HNT.out] at h; exact h) (by rw [← hkd]; exact h19)
        obtain ⟨kd, hkdn⟩ : ∃ kd, kidsN t s = kd := ⟨_, rfl⟩
        rw [hkdn] at hlow hstep hsz hkk
        have hKd : kd.length = K := by rw [← hKk, hkk]; simp [zs]
        have HKD := Lib.hid hKd
        have HKZ : Hid (kk = zs kd) := Lib.hid hkk
        have HLOW := Lib.hid hlow
        have HSS : Hid (StkU t N (kd.reverse ++ st) (setK f kd s)) := Lib.hid (by rw [← HNT.out]; exact hstep)
        have HSZ : Hid (sizT t (kd.reverse ++ st) < sizT t (s :: st)) := Lib.hid hsz
        have hkb2 : (kind == 19) = false := by rw [beq_eq_false_iff_ne]; exact h19
        have HU0 : Hid (UB wr gu N (setK f (kd.take 0) s)) := Lib.hid (by rw [List.take_zero, setK_nil]; exact HU.out)
        have HO0 : Hid (Own F' wr (gu + 1) 3 1 (.slice (some a4) k c) k ((zs (st.reverse ++ kd.take 0)).map encI)) := Lib.hid (by rw [List.take_zero, List.append_nil]; exact HO.out)
        clear hst hsum hsl hrow hO hOc hrd hcell hFs hsl2 hK hkk hKk hgr hnd hdn hkd hU hwr hFr hk hstep hsz hlow hkdn hKd h19
        go_wp2_with fail
        clear q0 q3 c0 c1 c2 c3 c4 hcz
        go_loopw [2, 5, 62] (fun v2 _ v62 wr => ∃ (j : Nat) (A : Option Addr) (c : Nat), j ≤ K ∧ v62 = .int .i64 j ∧ v2 = .slice A (k + j) c ∧ k + j ≤ c ∧ Own F' wr (gu + 1) 3 1 (.slice A (k + j) c) (k + j) ((zs (st.reverse ++ kd.take j)).map encI) ∧ UB wr gu N (setK f (kd.take j) s) ∧ Sat F' wr ∧ Wr [gp] w wr) (fun _ _ v62 _ => K - (intOf v62).toNat)
        case atStart => exact ⟨0, some a4, c, Nat.zero_le _, rfl, rfl, by omega, HO0.out, HU0.out, HFr.out, HW.out⟩
        case round =>
          obtain ⟨wo, hwo⟩ : ∃ wo, wo = wr := ⟨_, rfl⟩
          obtain ⟨j, A, c2, hjK, rfl, rfl, hjc, hO2, hU2, hF2, hW2⟩ := hrel
          clear HU HW HFr HO HU0 HO0 hwo
          by_cases hlt : j < K
          · have hjI : (j : Int) < (K : Int) := by omega
            have hFs : Sat F wr := hW2.sat HF.out (fun g hg => by simp at hg; subst hg; exact HFP.out)
            obtain ⟨q0, q3⟩ := HPC.out wr hF2
            have hjl : j < kd.length := by rw [HKD.out]; exact hlt
            obtain ⟨x, hx⟩ : ∃ x, kd[j] = x := ⟨_, rfl⟩
            obtain ⟨ak, vk, rfl, hv0, hk0⟩ := HK.out.at1 hlt
            have hvx : vk = .int .i64 (x : Nat) := by
              have h : (kk.map (Value.int .i64))[j]? = some (.int .i64 (x : Nat)) := by rw [HKZ.out]; simp [zs, hjl, hx]
              rw [h] at hv0; injection hv0 with hv0; exact hv0.symm
            subst hvx
            have kc := hFs.cell hk0
            have hxs : x < s := HLOW.out x (by rw [← hx]; exact List.getElem_mem hjl)
            have hxN : x < N := by omega
            have hxI : (x : Int) < (N : Int) := by omega
            have htk : kd.take (j + 1) = kd.take j ++ [x] := by rw [List.take_add_one, List.getElem?_eq_getElem hjl, hx]; rfl
            have ux := hU2.at_ hxN
            have uf := hU2.soft x
            have HNU : Hid (UB (wr.setCell ⟨gu, x, none⟩ (.int .i64 (s : Nat))) gu N (setK f (kd.take (j + 1)) s)) := Lib.hid (by rw [htk, ← setK_snoc]; exact hU2.set hxN _)
            have hlt4 := fun g (h : (Value.slice A (k + j) c2).ownBlock = some g) => hO2.1.lt g h
            have HNO : Hid (Own F' (wr.setCell ⟨gu, x, none⟩ (.int .i64 (s : Nat))) (gu + 1) 3 1 (.slice A (k + j) c2) (k + j) ((zs (st.reverse ++ kd.take j)).map encI)) := Lib.hid (hO2.setFar (a := ⟨gu, x, none⟩) (fun h => by have := (hlt4 gu h).1; omega) _)
            have HNF : Hid (Sat F' (wr.setCell ⟨gu, x, none⟩ (.int .i64 (s : Nat)))) := Lib.hid (hF2.setCell (p := ⟨gu, x, none⟩) HFG.out _)
            have HNW : Hid (Wr [gp] w (wr.setCell ⟨gu, x, none⟩ (.int .i64 (s : Nat)))) := Lib.hid (hW2.setNew (p := ⟨gu, x, none⟩) (by rw [HGU.out]; exact Nat.le_refl _) _)
            have HRW : Hid (zs (st.reverse ++ kd.take j) ++ [(x : Int)] = zs (st.reverse ++ kd.take (j + 1))) := Lib.hid (by rw [htk, ← List.append_assoc, zs_snoc])
            have hul := hU2.lt
            clear hO2 hU2 hF2 hW2 hFs hv0 hk0 htk hlt4 hx
            obtain ⟨WX, hWX⟩ : ∃ WX, wr.setCell ⟨gu, x, none⟩ (.int .i64 (s : Nat)) = WX := ⟨_, rfl⟩
            have hWs : WX.heap.size = wr.heap.size := by rw [← hWX]; simp
            rw [hWX] at HNU HNO HNF HNW
            have hblk : Blk (WX.alloc (.cells #[.int .i64 (x : Nat)] 3)) wr.heap.size 3 #[.int .i64 (x : Nat)] := by rw [← hWs]; exact Blk.new WX _ _
            go_wp2_with (at_builtin; refine wpList_pushI rfl (.tmp 73) (.tmp 75) rfl (HNO.out.alloc _) (HNF.out.alloc _) (by rfl) wr.heap.size 1 (x : Int) (by rfl) hblk (by omega) (by simp; omega) ?_; intro v2 w2 hO2 hF2 hb2 hg2 hat2)
            rw [HRW.out] at hO2
            obtain ⟨A2, c3, rfl, hc3⟩ := hO2.shape
            go_roundw
            case rel => exact ⟨j + 1, A2, c3, by omega, by go_num, rfl, by omega, hO2, (HNU.out.call (balloc _ _)).bel hb2 (by omega), hF2, (HNW.out.alloc _).bel hb2 (by rw [HGU.out]; omega)⟩
            case measure => simp [intOf]; omega
          · obtain rfl : j = K := by omega
            have hdec : decide ((j : Int) < (j : Int)) = false := decide_eq_false (by omega)
            have hta : kd.take j = kd := by rw [List.take_of_length_le (by rw [HKD.out]; exact Nat.le_refl _)]
            rw [hta] at hO2 hU2
            have HRV : Hid (st.reverse ++ kd = (kd.reverse ++ st).reverse) := Lib.hid (by simp)
            rw [HRV.out] at hO2
            have HO2 := Lib.hid hO2
            have HU2 := Lib.hid hU2
            have HF2 := Lib.hid hF2
            have HW2 := Lib.hid hW2
            clear hO2 hU2 hF2 hW2 hta
            go_wp2_with fail
            go_roundw
            case rel => exact ⟨kd.reverse ++ st, _, A, k + j, c2, rfl, hjc, Lib.hid (by have h1 := HSK.out; have h2 := HKD.out; simp; omega), HO2.out, HU2.out, HSS, HF2.out, HW2.out⟩
            case measure =>
              rw [HM.out]
              obtain ⟨A', c', e', _, hrd⟩ := HO2.out.rdH
              injection e' with e1 e2 e3
              subst e1
              rw [sizV_rd t hrd, sizT_reverse]
              exact HSZ.out
end Go.Proofs.Ytdbbooibkiicnaa
