/- One node of a plan in the making: fill by kinds; tables of numbers; what stays when other blocks are written. -/
import Derived.Test.YtdbbooibkiicnaaPlanA
import Derived.Test.YtdbbooibkiicnaaPlanG
import Derived.Test.YtdbbooibkiicnaaPlanF
import Derived.Test.YtdbbooibkiicnaaPlanH
import Derived.Test.YtdbbooibkiicnaaPlanP
import Derived.Test.YtdbbooibkiicnaaBoundA
import Derived.Test.YtdbbooibkiicnaaOwnP
set_option linter.unusedVariables false
set_option linter.unusedSimpArgs false
namespace Go.Proofs.Ytdbbooibkiicnaa
open Go.RowKit
theorem ZB.wr {w w' : World} {g N m : Nat} {Gs Hs : List Nat} {p : Nat → Nat → Bool} (h : ZB w g N Gs m p) (hw : Wr Hs w w') (hs : ∀ k, k ∈ Hs → k ∈ Gs) (hg : g ∉ Hs) : ZB w' g N Gs m p :=
  let ⟨zs, h1, h2, h3⟩ := h
  ⟨zs, hw.blk h1 hg, h2, fun j hj => let ⟨v, e, hv⟩ := h3 j hj; ⟨v, e, hv.cle (hw.more hs).cle⟩⟩
theorem FB.wr {w w' : World} {g N m : Nat} {Gs Hs : List Nat} {L : Nat → Fst} (h : FB w g N Gs m L) (hw : Wr Hs w w') (hs : ∀ k, k ∈ Hs → k ∈ Gs) (hg : g ∉ Hs) : FB w' g N Gs m L :=
  let ⟨zs, h1, h2, h3⟩ := h
  ⟨zs, hw.blk h1 hg, h2, fun j hj => let ⟨A, c, e, hc, hv⟩ := h3 j hj; ⟨A, c, e, hc, hv.cle (hw.more hs).cle⟩⟩
theorem FB.eq {w : World} {g N m : Nat} {Gs : List Nat} {L L' : Nat → Fst} (h : FB w g N Gs m L) (e : ∀ j, j < N → L j = L' j) : FB w g N Gs m L' :=
  let ⟨zs, h1, h2, h3⟩ := h
  ⟨zs, h1, h2, fun j hj => by obtain ⟨A, c, a, hc, hv⟩ := h3 j hj; rw [e j hj] at a hc hv; exact ⟨A, c, a, hc, hv⟩⟩
/-- A table of numbers. -/
def UB (w : World) (g N : Nat) (f : Nat → Int) : Prop := ∃ us : List Value, Blk w g 3 us.toArray ∧ us.length = N ∧ ∀ j, j < N → us[j]? = some (.int .i64 (f j))
namespace UB
variable {w w' : World} {g N : Nat} {f : Nat → Int}
theorem lt (h : UB w g N f) : g < w.heap.size := let ⟨_, h1, _⟩ := h; h1.lt
theorem call (h : UB w g N f) (hb : Below w.heap.size w w') : UB w' g N f := let ⟨us, h1, h2, h3⟩ := h; ⟨us, h1.call hb, h2, h3⟩
theorem wr {Gs : List Nat} (h : UB w g N f) (hw : Wr Gs w w') (hg : g ∉ Gs) : UB w' g N f := let ⟨us, h1, h2, h3⟩ := h; ⟨us, hw.blk h1 hg, h2, h3⟩
theorem at_ (h : UB w g N f) {j : Nat} (hj : j < N) : w.cell? ⟨g, j, none⟩ = some (.int .i64 (f j)) := by
  obtain ⟨us, h1, h2, h3⟩ := h
  rw [h1.cell]; simpa using h3 j hj
theorem soft (h : UB w g N f) (j : Nat) : w.frozen? ⟨g, j, none⟩ = false := let ⟨_, h1, _⟩ := h; h1.frozen j
theorem set (h : UB w g N f) {i : Nat} (hi : i < N) (v : Int) : UB (w.setCell ⟨g, i, none⟩ (.int .i64 v)) g N (upd f i v) := by
  obtain ⟨us, h1, h2, h3⟩ := h
  refine ⟨us.set i (.int .i64 v), by have := h1.set_ i (.int .i64 v); simpa using this, by simp [h2], fun j hj => ?_⟩
  by_cases e : j = i
  · subst e
    rw [List.getElem?_set_self (by omega), upd_same]
  · rw [List.getElem?_set_ne (by omega), upd_ne e]; exact h3 j hj
theorem far (h : UB w g N f) {p : Addr} (hne : g ≠ p.block) (u : Value) : UB (w.setCell p u) g N f := let ⟨us, h1, h2, h3⟩ := h; ⟨us, h1.far hne u, h2, h3⟩
end UB
theorem kidsN_mem {t : Tr} {n : Nat} (hn : n < t.size) {k : Nat} (hk : k ∈ kidsN t n) : k < n ∧ parT t k = n := by
  unfold kidsN at hk
  cases hx : t.sub n with
  | leaf h => rw [hx] at hk; cases hk
  | un h a =>
    rw [hx] at hk
    obtain ⟨h1, _⟩ := kid_un hn hx
    have hp := a.size_pos
    simp only [List.mem_cons, List.mem_nil_iff, or_false] at hk
    subst hk
    exact ⟨by omega, par_un hn hx⟩
  | bin h a b =>
    rw [hx] at hk
    obtain ⟨h1, _⟩ := kid_bin hn hx
    have hp := a.size_pos
    have hq := b.size_pos
    obtain ⟨e1, e2⟩ := par_bin hn hx
    simp only [List.mem_cons, List.mem_nil_iff, or_false] at hk
    rcases hk with rfl | rfl
    · exact ⟨by omega, e1⟩
    · exact ⟨by omega, e2⟩
theorem kidsN_back {t : Tr} {k : Nat} (hk : k + 1 < t.size) : k ∈ kidsN t (parT t k) := by
  obtain ⟨h1, h2, h3⟩ := par_at t k hk
  unfold kidsN
  rcases h3 with ⟨h, a, hx, e⟩ | ⟨h, a, b, hx, e⟩
  · rw [hx]; simp; omega
  · rw [hx]; simp; omega
/-- The table up when n nodes are gone through: the nodes below these say who is above. -/
def UpTo (t : Tr) (N n : Nat) (f : Nat → Int) : Prop := ∀ k, k + 1 < N → parT t k < n → f k = (parT t k : Nat)
theorem UpTo.zero (t : Tr) (N : Nat) (f : Nat → Int) : UpTo t N 0 f := fun k _ h => absurd h (by omega)
theorem UpTo.kid {t : Tr} {N n : Nat} {f : Nat → Int} (h : UpTo t N n f) {k : Nat} (hk : parT t k = n) : UpTo t N n (upd f k n) := fun q hq hp => by
  have : q ≠ k := fun e => by rw [e, hk] at hp; omega
  rw [upd_ne this]
  exact h q hq hp
theorem UpTo.next {t : Tr} {N n : Nat} {f : Nat → Int} (hN : t.size = N) (h : UpTo t N n f) (hk : ∀ k, k ∈ kidsN t n → f k = (n : Nat)) : UpTo t N (n + 1) f := fun q hq hp => by
  by_cases e : parT t q = n
  · rw [e]
    exact hk q (e ▸ kidsN_back (by omega))
  · exact h q hq (by omega)
theorem fst2_len (t : Tr) (z : Zf) {n : Nat} (hn : n ≤ t.size) (i : Nat) : (fst2 t z n i).length ≤ t.size := by
  unfold fst2
  split
  · exact fstO_len t z (by omega)
  · have := fst1_len t (stepsN t) i; have := t.size_pos; omega
theorem cutL_true (L : Fst) : cutL L (fun _ => true) = L := by unfold cutL; simp
/-- What fill leaves of the node n. -/
def StepR (w : World) (gz gf N : Nat) (Gs : List Nat) (m : Nat) (t : Tr) (z : Zf) (n : Nat) (e : Ending) (w' : World) : Prop :=
  e = .returned (.tuple #[]) ∧ ZB w' gz N Gs m (zer2 t z (n + 1)) ∧ FB w' gf N Gs m (fst2 t z (n + 1)) ∧ Wr [gz, gf] w w'
theorem StepR.of_fill {w : World} {gz gf N : Nat} {Gs : List Nat} {m : Nat} {t : Tr} {z : Zf} {n : Nat} {f : Nat → Bool} {l : Fst} {e : Ending} {w' : World} (h : FillR w gz gf N Gs m (zer2 t z n) (fst2 t z n) n f l e w') (hf : ∀ x, f x = zerO t z n x) (hl : l = fstO t z n) : StepR w gz gf N Gs m t z n e w' := by
  obtain ⟨h1, h2, h3, h4⟩ := h
  refine ⟨h1, h2.same fun j hj x _ => ?_, h3.eq fun j hj => ?_, h4⟩
  · rw [← zer2_next]; unfold upd; split
    · exact hf x
    · rfl
  · rw [← fst2_next]; unfold upd; split
    · exact hl
    · rfl
set_option maxHeartbeats 2000000 in
theorem fill_step {F : Fz} {w : World} (hF : Sat F w) (m : Nat) (hm : m ≤ 10) (l : List Nd) (N : Nat) (hN : N ≤ 1000) (Al : Option Addr) (cl : Nat) {t : Tr} (ht : treeS l = some t) (hr : regV t) (hNt : t.size = N) (gp : Nat) (As : Option Addr) (M cs gu gz gf : Nat) (hP : PlanB w gp m Al N cl As M cs gu gz gf)
    (Gs : List Nat) (hgz : gz ∈ Gs) (hgf : gf ∈ Gs) (hgp : gp ∉ Gs) (hne : gz ≠ gf) (hGF : ∀ g, g ∈ Gs → F g = none) (hGl : ∀ g, g ∈ Gs → g < w.heap.size) (z : Zf) (n : Nat) (hn : n < N) (hnl : n < l.length) (hZ : ZB w gz N Gs m (zer2 t z n)) (hFB : FB w gf N Gs m (fst2 t z n))
    (nd : Nd) (hnd : l[n] = nd) (Ak : Option Addr) (ck : Nat) (hK : Rd F 1 Ak nd.kids.length (nd.kids.map (Value.int .i64))) :
    Calls Try.prog 96 #[.pointer (some ⟨gp, 0, none⟩), .int .i64 (n : Nat), .agg #[.int .i64 nd.kind, .string nd.name, .int .i64 nd.lo, .int .i64 nd.hi, .slice Ak nd.kids.length ck]] w (StepR w gz gf N Gs m t z n) := by
  have hgr := get_flat_root ht n hnl
  have hk := kidsN_eq ht n hnl
  rw [hnd] at hgr hk
  have hkd : nd.kind = (t.sub n).root.kind := by rw [hgr]
  have hva := tree_valid ht
  have hvn := sub_valid t n hva
  have hnt : n < t.size := by omega
  have hKx := hK.cle (cle_hx hF hGF)
  have hLn : ∀ j, (fst2 t z n j).length ≤ 1000 := fun j => by have := fst2_len t z (n := n) (by omega) j; omega
  have hno : (nd.kind == 20) = false → (nd.kind == 21) = false → (nd.kind == 22) = false → Calls Try.prog 96 #[.pointer (some ⟨gp, 0, none⟩), .int .i64 (n : Nat), .agg #[.int .i64 nd.kind, .string nd.name, .int .i64 nd.lo, .int .i64 nd.hi, .slice Ak nd.kids.length ck]] w (StepR w gz gf N Gs m t z n) := fun h20 h21 h22 => by
    have hkk : (t.sub n).root.kind ≠ 20 ∧ (t.sub n).root.kind ≠ 21 ∧ (t.sub n).root.kind ≠ 22 := by
      rw [← hkd]
      rw [beq_eq_false_iff_ne] at h20 h21 h22
      exact ⟨h20, h21, h22⟩
    refine (fill_no m hm gp Al As N cl M cs gu gz gf hP n nd.kind h20 h21 h22 nd.name nd.lo nd.hi Ak nd.kids.length ck).mono ?_
    rintro e w' ⟨rfl, hb⟩
    exact ⟨rfl, (hZ.call hb).same fun j _ x _ => zer2_keep hr hva z hnt hkk j x, (hFB.call hb).eq fun j _ => fst2_keep hr hva z hnt hkk j, .of_below hb⟩
  cases hx : t.sub n with
  | leaf h =>
    rw [hx] at hvn hkd
    have := leaf_kind hvn
    have hkd : nd.kind = h.kind := hkd
    exact hno (by rw [beq_eq_false_iff_ne]; omega) (by rw [beq_eq_false_iff_ne]; omega) (by rw [beq_eq_false_iff_ne]; omega)
  | un h a =>
    rw [hx] at hvn hkd
    have hkk := un_kind hvn
    have hkd : nd.kind = h.kind := hkd
    by_cases h22 : nd.kind = 22
    · obtain ⟨h1, _⟩ := kid_un hnt hx
      have hap := a.size_pos
      have hkx : nd.kids = [((n - 1 : Nat) : Int)] := by rw [hk]; unfold kidsN; rw [hx]; rfl
      rw [hkx] at hKx ⊢
      rw [h22]
      refine (fill_many m hm gp Al As N cl M cs gu gz gf hP Gs hgz hgf hgp hne hGl _ _ hZ hFB hLn n (n - 1) hn (by omega) (by omega) hN nd.name nd.lo nd.hi Ak ck hKx).mono ?_
      intro e w' h
      refine StepR.of_fill h (fun x => (zerO_many z hx (by omega) x).symm) ?_
      rw [fst2_kid (by omega), fstO_many z hnt hx (by omega)]
    · exact hno (by rw [beq_eq_false_iff_ne]; omega) (by rw [beq_eq_false_iff_ne]; omega) (by rw [beq_eq_false_iff_ne]; omega)
  | bin h a b =>
    rw [hx] at hvn hkd
    have hkk := bin_kind hvn
    have hkd : nd.kind = h.kind := hkd
    obtain ⟨h1, _⟩ := kid_bin hnt hx
    have hap := a.size_pos
    have hbp := b.size_pos
    have hkx : nd.kids = [((n - 1 - b.size : Nat) : Int), ((n - 1 : Nat) : Int)] := by rw [hk]; unfold kidsN; rw [hx]; rfl
    by_cases h20 : nd.kind = 20
    · rw [hkx] at hKx ⊢
      rw [h20]
      refine (fill_alt m hm gp Al As N cl M cs gu gz gf hP Gs hgz hgf hgp hne hGl _ _ hZ hFB hLn n (n - 1 - b.size) (n - 1) hn (by omega) (by omega) (by omega) (by omega) hN nd.name nd.lo nd.hi Ak ck hKx).mono ?_
      intro e w' h
      refine StepR.of_fill h (fun x => ?_) ?_
      · rw [zer2_kid (by omega), zer2_kid (by omega), zerO_alt z hnt hx (by omega)]
      · rw [cutL_true, fst2_kid (by omega), fst2_kid (by omega), fstO_alt z hnt hx (by omega)]
    by_cases h21 : nd.kind = 21
    · rw [hkx] at hKx ⊢
      rw [h21]
      refine (fill_seq m hm gp Al As N cl M cs gu gz gf hP Gs hgz hgf hgp hne hGl _ _ hZ hFB hLn n (n - 1 - b.size) (n - 1) hn (by omega) (by omega) (by omega) (by omega) hN nd.name nd.lo nd.hi Ak ck hKx).mono ?_
      intro e w' h
      refine StepR.of_fill h (fun x => ?_) ?_
      · rw [zer2_kid (by omega), zer2_kid (by omega), zerO_seq z hnt hx (by omega)]
      · rw [cutL_true, fst2_kid (by omega), fst2_kid (by omega), zer2_kid (by omega), fstO_seq z hnt hx (by omega)]; rfl
    · exact hno (by rw [beq_eq_false_iff_ne]; omega) (by rw [beq_eq_false_iff_ne]; omega) (by rw [beq_eq_false_iff_ne]; omega)
theorem rd_hx {w : World} {Gs : List Nat} {size n : Nat} {A : Option Addr} {xs : List Value} (h : Rd (heapF w) size A n xs) (hg : ∀ a, A = some a → 0 < n → a.block ∉ Gs) : Rd (hx w Gs) size A n xs := by
  refine ⟨h.1, fun h0 => ?_⟩
  obtain ⟨ad, e, hc⟩ := h.2 h0
  refine ⟨ad, e, fun j u hu => ?_⟩
  have := hc j u hu
  unfold Fz.cell at this ⊢
  rw [hx_out (by rw [block_of_add]; exact hg ad e h0)]
  exact this
theorem blk_heapF {w : World} {g : Nat} {t : TypeId} {cs : Array Value} (h : Blk w g t cs) {i : Nat} {v : Value} (e : cs[i]? = some v) : (heapF w).cell ⟨g, i, none⟩ = some v := (h.cell i).trans e
theorem plf_one {w : World} {Gs : List Nat} {m g q : Nat} {y : Value} {f : Nat → Bool} (hg : Blk w g 125 #[.int .i64 (q : Nat), y]) (hn : g ∉ Gs) (hy : WdF m (hx w Gs) y f) : PlF m (hx w Gs) (some ⟨g, 0, none⟩) [((q, f) : Nat × (Nat → Bool))].length [(q, f)] := by
  refine ⟨rfl, [(q, y)], ⟨rfl, fun _ => ⟨_, rfl, fun j u hu => ?_⟩⟩, PlV.one q hy⟩
  rw [add_lit0]
  unfold Fz.cell
  rw [hx_out hn, hg]
  simpa [plC] using hu
theorem kind_steps2 {l : List Nd} {t : Tr} (ht : treeS l = some t) (hr : regS t.root.kind = true) : kindS l 18 = stepsL t 0 := by
  have hv := regV_of (tree_valid ht) hr
  have he : ownS l = ownT t 0 := by unfold ownS; rw [ht]; simp only; rw [if_pos hr]
  unfold kindS; rw [he]
  exact stepsL_kinds t 0 l [] [] (by simpa using tree_flat ht) rfl hv
/-- The plan is made. -/
theorem plan_made {F : Fz} {w : World} (hF : Sat F w) {m : Nat} {l : List Nd} {t : Tr} (ht : treeS l = some t) (hr : regS t.root.kind = true) {z : Zf} {gp M : Nat} {ks : List Nat} (hks : kindS l 18 = ks) (hM : ks.length = M) {Al : Option Addr} {N cl : Nat} (hl : NodesF F Al N l) {As : Option Addr} {cs gu gz gf : Nat} (hP : PlanB w gp m Al N cl As M cs gu gz gf) {Gs : List Nat}
    (hZ : ZB w gz N Gs m (zer2 t z N)) (hFB : FB w gf N Gs m (fst2 t z N)) {f : Nat → Int} (hU : UB w gu N f) (hf : UpTo t N N f) (hR : Rd (hx w Gs) 1 As M ((zs ks).map encI)) : Plan (heapF w) gp m l t z M ks Al N cl As cs gu gz gf := by
  have hN : t.size = N := by rw [← tree_len ht]; exact hl.1
  have hle : CLe (hx w Gs) (heapF w) := by rw [← heap_hx w]; exact cle_nil w Gs
  unfold PlanB at hP
  refine ⟨blk_heapF hP rfl, blk_heapF hP rfl, blk_heapF hP rfl, blk_heapF hP rfl, blk_heapF hP rfl, blk_heapF hP rfl, hl.cle hF.cle, tree_flat ht, hN, regV_of (tree_valid ht) hr, by rw [← hks]; exact kind_steps2 ht hr, hM, ?_, ?_, ?_, ?_⟩
  · have := hR.cle hle
    rw [show (zs ks).map encI = ks.map fun i => .int .i64 (i : Nat) by simp [zs, encI]] at this
    exact this
  · intro i hi
    have h1 := hU.at_ (j := i) (by omega)
    rw [hf i hi (by have := (par_at t i (by omega)).2.1; omega)] at h1
    exact h1
  · intro i hi
    obtain ⟨v, h1, h2⟩ := hZ.at_ hi
    rw [zer2_kid hi] at h2
    exact ⟨v, h1, h2.cle hle⟩
  · intro i hi
    obtain ⟨A, c, h1, _, h2⟩ := hFB.at_ hi
    rw [fst2_kid hi] at h1 h2
    exact ⟨A, c, h1, h2.cle hle⟩
end Go.Proofs.Ytdbbooibkiicnaa
