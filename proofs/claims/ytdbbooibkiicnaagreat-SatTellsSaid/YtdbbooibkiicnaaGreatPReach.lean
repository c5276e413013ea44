/- The tables that paths.Reach keeps, in memory. -/
import Derived.Test.YtdbbooibkiicnaaGreatSq
import Derived.Test.YtdbbooibkiicnaaGreatRReach
import Derived.Test.YtdbbooibkiicnaaGreatTab1
import Derived.Test.YtdbbooibkiicnaaGreatOwn
import Derived.Test.YtdbbooibkiicnaaGreatPileM
import Derived.Deep.RegionHeld3
import Derived.BigQuiet
import Derived.Deep.QuietTactic
set_option linter.unusedVariables false
set_option linter.unusedSimpArgs false
/-! The tables that paths.Reach keeps, in memory. -/
namespace Go.Proofs.YtdbbooibkiicnaaGreat
open Go.RowKit
/-- Block g0 holds the tables of the entries es, all of them below block H; elsewhere nothing. -/
def AtB (w : World) (g0 N n : Nat) (es : List Ent) (H : Nat) : Prop :=
  ∃ cs, Blk w g0 136 cs ∧ cs.size = N ∧ (∀ q, q < N → q ∉ es.map Ent.at_ → cs[q]? = some (.slice none 0 0)) ∧ ∀ e ∈ es, ∃ ge, cs[e.at_]? = some (.slice (some ⟨ge, 0, none⟩) n n) ∧ g0 < ge ∧ ge + n < H ∧ SqF (heapF w) ge n e.m
namespace AtB
variable {w w' : World} {g0 N n H : Nat} {es : List Ent}
theorem lt (h : AtB w g0 N n es H) : g0 < w.heap.size := let ⟨_, h1, _⟩ := h; h1.lt
theorem call (h : AtB w g0 N n es H) (hb : Below w.heap.size w w') : AtB w' g0 N n es H :=
  let ⟨cs, h1, h2, h3, h4⟩ := h; ⟨cs, h1.call hb, h2, h3, fun e he => let ⟨ge, a, b, c, d⟩ := h4 e he; ⟨ge, a, b, c, d.call hb⟩⟩
theorem far (h : AtB w g0 N n es H) {p : Addr} (hp : H ≤ p.block) (h0 : g0 < H) (u : Value) : AtB (w.setCell p u) g0 N n es H :=
  let ⟨cs, h1, h2, h3, h4⟩ := h; ⟨cs, h1.far (by omega) u, h2, h3, fun e he => let ⟨ge, a, b, c, d⟩ := h4 e he; ⟨ge, a, b, c, d.far (.inr (by omega))⟩⟩
theorem cell (h : AtB w g0 N n es H) {e : Ent} (he : e ∈ es) : ∃ ge, w.cell? ⟨g0, e.at_, none⟩ = some (.slice (some ⟨ge, 0, none⟩) n n) ∧ g0 < ge ∧ ge + n < H ∧ SqF (heapF w) ge n e.m := by
  obtain ⟨cs, h1, h2, h3, h4⟩ := h
  obtain ⟨ge, a, b, c, d⟩ := h4 e he
  exact ⟨ge, by rw [h1.cell]; exact a, b, c, d⟩
theorem nil_ (h : AtB w g0 N n es H) {q : Nat} (hq : q < N) (hn : q ∉ es.map Ent.at_) : w.cell? ⟨g0, q, none⟩ = some (.slice none 0 0) := by
  obtain ⟨cs, h1, h2, h3, h4⟩ := h
  rw [h1.cell]; exact h3 q hq hn
theorem soft (h : AtB w g0 N n es H) (q : Nat) : w.frozen? ⟨g0, q, none⟩ = false := let ⟨_, h1, _⟩ := h; h1.frozen q
end AtB
/-- The tables of es, and one more, of place p, at g, above them. -/
def AtP (w : World) (g0 N n : Nat) (es : List Ent) (p g : Nat) (m : Mx) : Prop :=
  ∃ cs, Blk w g0 136 cs ∧ cs.size = N ∧ (∀ q, q < N → q ∉ es.map Ent.at_ → q ≠ p → cs[q]? = some (.slice none 0 0)) ∧ (∀ e ∈ es, ∃ ge, cs[e.at_]? = some (.slice (some ⟨ge, 0, none⟩) n n) ∧ g0 < ge ∧ ge + n < g ∧ SqF (heapF w) ge n e.m) ∧ cs[p]? = some (.slice (some ⟨g, 0, none⟩) n n) ∧ g0 < g ∧ SqF (heapF w) g n m
theorem AtB.put {w : World} {g0 N n H : Nat} {es : List Ent} (h : AtB w g0 N n es H) {p : Nat} (hp : p < N) (hn : p ∉ es.map Ent.at_) {g : Nat} {m : Mx} (hg : g0 < g) (hH : H ≤ g) (hS : SqF (heapF w) g n m) : AtP (w.setCell ⟨g0, p, none⟩ (.slice (some ⟨g, 0, none⟩) n n)) g0 N n es p g m := by
  obtain ⟨cs, h1, h2, h3, h4⟩ := h
  refine ⟨_, h1.set_ _ _, by simpa using h2, ?_, ?_, ?_, hg, hS.far (.inl (show g0 < g from hg))⟩
  · intro q hq hqn hqp
    rw [Array.getElem?_setIfInBounds, if_neg (by omega)]
    exact h3 q hq hqn
  · intro x hx
    obtain ⟨ge, a, b, c, d⟩ := h4 x hx
    refine ⟨ge, ?_, b, by omega, d.far (.inl (show g0 < ge from b))⟩
    rw [Array.getElem?_setIfInBounds, if_neg]
    · exact a
    · intro e; exact hn (e ▸ List.mem_map.2 ⟨x, hx, rfl⟩)
  · rw [Array.getElem?_setIfInBounds, if_pos rfl, if_pos (by omega)]
namespace AtP
variable {w w' : World} {g0 N n p g : Nat} {es : List Ent} {m m' : Mx}
theorem slot (h : AtP w g0 N n es p g m) : w.cell? ⟨g0, p, none⟩ = some (.slice (some ⟨g, 0, none⟩) n n) := let ⟨_, h1, _, _, _, h5, _⟩ := h; by rw [h1.cell]; exact h5
theorem sq (h : AtP w g0 N n es p g m) : SqF (heapF w) g n m := let ⟨_, _, _, _, _, _, _, h7⟩ := h; h7
theorem congr (h : AtP w g0 N n es p g m) (e : EqM n m m') : AtP w g0 N n es p g m' := let ⟨cs, h1, h2, h3, h4, h5, h6, h7⟩ := h; ⟨cs, h1, h2, h3, h4, h5, h6, h7.congr e⟩
theorem store (h : AtP w g0 N n es p g m) {i : Nat} (hi : i < n) (j : Nat) (b : Bool) (e : ∀ p q, p < n → q < n → m' p q = if p = i ∧ q = j then b else m p q) : AtP (w.setCell ⟨g + 1 + i, j, none⟩ (.bool b)) g0 N n es p g m' := by
  obtain ⟨cs, h1, h2, h3, h4, h5, h6, h7⟩ := h
  exact ⟨cs, h1.far (p := ⟨g + 1 + i, j, none⟩) (by show g0 ≠ g + 1 + i; omega) _, h2, h3, fun x hx => let ⟨ge, a, b', c, d⟩ := h4 x hx; ⟨ge, a, b', c, d.far (.inr (show ge + n < g + 1 + i by omega))⟩, h5, h6, h7.store hi j b e⟩
theorem done (h : AtP w g0 N n es p g m) {e : Ent} (he : e.at_ = p) (hm : EqM n m e.m) : AtB w g0 N n (es ++ [e]) w.heap.size := by
  obtain ⟨cs, h1, h2, h3, h4, h5, h6, h7⟩ := h
  refine ⟨cs, h1, h2, fun q hq hqn => ?_, fun x hx => ?_⟩
  · simp at hqn
    exact h3 q hq (by simpa using hqn.1) (by omega)
  · simp at hx
    rcases hx with hx | rfl
    · obtain ⟨ge, a, b, c, d⟩ := h4 x hx
      exact ⟨ge, a, b, by have := h7.lt; omega, d⟩
    · exact ⟨g, by rw [he]; exact h5, h6, h7.end_, h7.congr hm⟩
end AtP
theorem grown_far {w w' : World} {row : Option Nat} (h : w.grownBy w' row) {p : Addr} (hp : w.heap.size ≤ p.block) (u : Value) : w.grownBy (w'.setCell p u) row :=
  ⟨h.os, h.tape, h.output, by simpa using h.size, fun k hk hne => (Below.heap_setCell w' p u k (by omega)).trans (h.block k hk hne)⟩
theorem grown_call {w w' w'' : World} {row : Option Nat} (h : w.grownBy w' row) (hb : Below w'.heap.size w' w'') : w.grownBy w'' row :=
  ⟨hb.os.trans h.os, hb.tape.trans h.tape, hb.output.trans h.output, Nat.le_trans h.size hb.size, fun k hk hne => (hb.block k (Nat.lt_of_lt_of_le hk h.size)).trans (h.block k hk hne)⟩
theorem grown_drew {w w' : World} {row : Option Nat} (h : w.grownBy w' row) : w.grownBy w'.drew row := ⟨h.os, h.tape, h.output, h.size, h.block⟩
theorem cell_set_ne {w : World} {p a : Addr} {u v : Value} (h : p ≠ a) (hc : w.cell? a = some v) : (w.setCell p u).cell? a = some v := by rw [World.cell?_setCell_other (h := h), hc]
/-- All of memory but one block. -/
def heapX (w : World) (g0 : Nat) : Fz := fun b => if b = g0 then none else w.heap[b]?
theorem sat_heapX {w w' : World} {g0 : Nat} (h : w.grownBy w' (some g0)) : Sat (heapX w g0) w' := by
  intro b o hb
  unfold heapX at hb
  split at hb
  · cases hb
  · rename_i hne
    have hlt : b < w.heap.size := (Array.getElem?_eq_some_iff.1 hb).1
    exact (h.block b hlt (by intro e; injection e with e; exact hne e)).trans hb
theorem cle_heapX {F : Fz} {w : World} {g0 : Nat} (hF : Sat F w) (h0 : F g0 = none) : CLe F (heapX w g0) := by
  intro a v hc
  have hb : a.block ≠ g0 := by
    intro e
    unfold Fz.cell at hc
    rw [e, h0] at hc
    cases hc
  unfold Fz.cell at hc ⊢
  cases hf : F a.block with
  | none => rw [hf] at hc; cases hc
  | some o =>
    rw [hf] at hc
    have := hF _ _ hf
    unfold heapX
    rw [if_neg hb, this]
    exact hc
theorem rd_heapX {w1 : World} {g0 size n : Nat} {A : Option Addr} {xs : List Value} (h : Rd (heapF w1) size A n xs) (hne : ∀ a, A = some a → 0 < n → a.block ≠ g0) : Rd (heapX w1 g0) size A n xs := by
  refine ⟨h.1, fun h0 => ?_⟩
  obtain ⟨ad, e, hc⟩ := h.2 h0
  refine ⟨ad, e, fun j u hu => ?_⟩
  have := hc j u hu
  unfold Fz.cell at this ⊢
  unfold heapX
  rw [if_neg (by rw [block_of_add]; exact hne ad e h0)]
  exact this
theorem below_grown {w w2 wr : World} {g0 : Nat} (h : Below w.heap.size w w2) (hg : w2.grownBy wr (some g0)) (h0 : w.heap.size ≤ g0) : Below w.heap.size w wr :=
  h.grown hg h.size fun k hk => by injection hk with hk; omega
end Go.Proofs.YtdbbooibkiicnaaGreat
/-! The walk of paths.Reach. -/
namespace Go.Proofs.YtdbbooibkiicnaaGreat
open Go.RowKit
theorem makeT_ (n : Nat) (hn : n ≤ 1000000) (w : World) : (Instr.makeSlice 135 (.int .i64 (n : Int)) (.int .i64 (n : Int))).run Tryz.prog w = .ok (.slice (some ⟨w.heap.size, 0, none⟩) n n) (w.alloc (.cells (zeros (.slice none 0 0) n) 136)) := by
  rw [run_make1 135 136 (.slice none 0 0) 24 Tryz.underlying135 (by kernel_rfl) rfl n (by omega) (by omega) w]
theorem inj_at {es : List Ent} (h : (es.map Ent.at_).Nodup) {x y : Ent} (hx : x ∈ es) (hy : y ∈ es) (e : x.at_ = y.at_) : x = y := by
  induction es with
  | nil => cases hx
  | cons z es ih =>
    rw [List.map_cons, List.nodup_cons] at h
    rcases List.mem_cons.1 hx with hx | hx <;> rcases List.mem_cons.1 hy with hy | hy
    · rw [hx, hy]
    · exact absurd (List.mem_map.2 ⟨y, hy, by rw [← e, hx]⟩) h.1
    · exact absurd (List.mem_map.2 ⟨x, hx, by rw [e, hy]⟩) h.1
    · exact ih h.2 hx hy
def RetP (w : World) (l : List Nd) (n : Nat) (es : List Ent) (e : Ending) (w' : World) : Prop :=
  ∃ v, e = .returned v ∧ Below w.heap.size w w' ∧ ((l.length = 0 ∨ n = 0) → v = .slice none 0 0) ∧ (0 < l.length → 0 < n → (l.length - 1 ∉ es.map Ent.at_ → v = .slice none 0 0) ∧ ∀ x ∈ es, x.at_ = l.length - 1 → ∃ g, v = .slice (some ⟨g, 0, none⟩) n n ∧ w.heap.size ≤ g ∧ SqF (heapF w') g n x.m)
set_option maxRecDepth 100000 in
set_option maxHeartbeats 8000000 in
theorem pReach_w {F : Fz} {w : World} (hF : Sat F w) (l : List Nd) (hn : l.length ≤ 1000) (A : Option Addr) (n c : Nat) (hl : NodesF F A n l) (V : Option Addr) (nV cV : Nat) (hV : nV ≤ 1000)
    (vs : List (List (BitVec 64))) (hvs : RdR F V nV vs) (es : List Ent) (hes : ownS l = es.map Ent.at_) (hok : AllOk nV (valS vs) l 0 es) (hnd : (es.map Ent.at_).Nodup) (hlt : ∀ e ∈ es, e.at_ < l.length) :
    Calls Tryz.prog 119 #[.slice A n c, .slice V nV cV] w (RetP w l nV es) := by
  have hO := fun (X : World) (h : Sat F X) => own_w h l hn A n c hl
  obtain ⟨hnl, hl2⟩ := hl
  rw [hes] at hO
  rw [hnl] at hn
  have hmk := makeT_ n (by omega)
  obtain ⟨K, hK⟩ : ∃ K, K = es.length := ⟨_, rfl⟩
  have hzl : (zs (es.map Ent.at_)).length = K := by rw [length_zs, List.length_map, hK]
  have HZL := Lib.hid hzl
  have HN := Lib.hid hnl
  have HK := Lib.hid hK
  have HO := Lib.hid hO
  have HOK := Lib.hid hok
  have HND := Lib.hid hnd
  have HLT := Lib.hid hlt
  have HKN : Hid (K ≤ 1000) := Lib.hid (by
    have := ownS_len l
    rw [hes, List.length_map] at this
    omega)
  have hkn := HKN.out
  obtain ⟨hvl, hvr⟩ := hvs
  have HVR := Lib.hid hvr
  have HVL := Lib.hid hvl
  have hF0 : F w.heap.size = none := hF.none_ (Nat.le_refl _)
  clear hnl hK hO hok hnd hlt hes hzl hvl hvr
  go_enter Tryz.func119, Tryz.ntmps119
  go_wp2_with (go_at_call 131; refine (HO.out _ (hF.alloc _)).mono ?_; rintro e w2 ⟨AO, cO, rfl, hcO, hrO, hb2⟩; rw [HZL.out] at hrO hcO; rw [HZL.out])
  have hb0 := bthen (balloc w (.cells (zeros (.slice none 0 0) n) 136)) hb2
  have hB0 := (Blk.new w 136 (zeros (.slice none 0 0) n)).call hb2
  clear hb2
  obtain ⟨g0, hg0⟩ : ∃ g0, g0 = w.heap.size := ⟨_, rfl⟩
  rw [← hg0] at hF0 hB0
  rw [← hg0]
  have hAt0 : AtB w2 g0 n nV [] w2.heap.size := ⟨_, hB0, size_zeros _ _, fun q hq _ => by simp [zeros, hq], fun e he => by cases he⟩
  have hg2 := hB0.lt
  have hFX := cle_heapX (hF.below hb0) hF0
  have hrX : Rd (heapX w2 g0) 1 AO K ((zs (es.map Ent.at_)).map encI) := by
    refine rd_heapX hrO fun a ha h0 e => ?_
    obtain ⟨ad, u, e1, hu, hc⟩ := hrO.at1 h0
    rw [ha] at e1
    injection e1 with e1
    subst e1
    have hu2 : ∃ z, u = encI z := by
      rw [List.getElem?_map] at hu
      cases hz : (zs (es.map Ent.at_))[0]? with
      | none => rw [hz] at hu; cases hu
      | some z => rw [hz] at hu; simp at hu; exact ⟨z, hu.symm⟩
    obtain ⟨z, rfl⟩ := hu2
    unfold Fz.cell heapF at hc
    rw [block_of_add, e, show w2.heap[g0]? = _ from hB0] at hc
    simp only at hc
    split at hc
    · cases hc
    · unfold zeros at hc
      rw [List.getElem?_toArray, List.getElem?_replicate] at hc
      split at hc <;> cases hc
  have HB0 := Lib.hid hb0
  have HG0 := Lib.hid hg0
  clear hmk hrO hB0 hb0 hg0
  go_loopw [7, 9, 10, 11, 12, 13, 22] (fun v7 _ _ _ _ _ i wr => ∃ m tc : Nat, m ≤ K ∧ tc ≤ m ∧ i = .int .i64 m ∧ v7 = .int .i64 tc ∧ Hid (tc = (es.take m).countP Ent.test) ∧ AtB wr g0 n nV (es.take m) wr.heap.size ∧ w2.grownBy wr (some g0)) (fun _ _ _ _ _ _ i _ => K - (intOf i).toNat)
  case atStart => exact ⟨0, 0, Nat.zero_le _, Nat.le_refl _, rfl, rfl, Lib.hid rfl, hAt0, World.grownBy.refl _ _⟩
  case round =>
    obtain ⟨m, tc, hm, htm, rfl, rfl, HTC, hAt, hgr⟩ := hrel
    have hsz := hgr.size
    have hFr := (sat_heapX hgr)
    by_cases hmK : m < K
    · have hmI : (m : Int) < (K : Int) := by omega
      have hme : m < es.length := by rw [← HK.out]; exact hmK
      obtain ⟨ao, u, rfl, hu, hcu⟩ := hrX.at1 hmK
      have hue : ((zs (es.map Ent.at_)).map encI)[m]? = some (encI ((es[m].at_ : Nat) : Int)) := by simp [zs, hme]
      rw [hue] at hu
      simp only [Option.some.injEq] at hu
      subst hu
      have hcz := hFr.cell hcu
      have hsplit : es = es.take m ++ es[m] :: es.drop (m + 1) := by
        rw [List.getElem_cons_drop, List.take_append_drop]
      obtain ⟨nd, hnd1, hnd2, hnd3⟩ := HOK.out _ _ _ hsplit
      have hpn := HLT.out _ (List.getElem_mem hme)
      have htk : es.take (m + 1) = es.take m ++ [es[m]] := List.take_succ_eq_append_getElem hme
      have hnin : es[m].at_ ∉ (es.take m).map Ent.at_ := by
        have hN2 := HND.out
        rw [hsplit, List.map_append, List.map_cons] at hN2
        have := (List.nodup_append.1 hN2).2.2
        intro h
        exact this _ h _ (by simp) rfl
      have hlow : ∀ a ∈ es.take m, a.at_ < n := fun a ha => by rw [← HN.out]; exact HLT.out a (List.mem_of_mem_take ha)
      rw [HN.out] at hpn
      have HTK := Lib.hid htk
      have HLOW := Lib.hid hlow
      obtain ⟨ad, rfl, hL⟩ := hl2 (by omega)
      generalize es[m] = e at *
      obtain ⟨p, hp⟩ : ∃ p, p = e.at_ := ⟨_, rfl⟩
      rw [← hp] at hcz hnd1 hpn hnin
      have HP := Lib.hid hp.symm
      obtain ⟨Ak, ck, _, hK, hd⟩ := hL p (by rw [HN.out]; exact hpn)
      have hnd : l[p]'(by rw [HN.out]; exact hpn) = nd := by rw [List.getElem?_eq_getElem (by rw [HN.out]; exact hpn)] at hnd1; injection hnd1
      rw [hnd] at hK hd
      have hdX := hd.mono (fun a v h => hFX a v h)
      have hKX : Rd (heapX w2 g0) 1 Ak nd.kids.length (nd.kids.map (Value.int .i64)) := ⟨hK.1, fun h0 => let ⟨a, e, h⟩ := hK.2 h0; ⟨a, e, fun j u hu => hFX _ _ (h j u hu)⟩⟩
      obtain ⟨c0, c1, c2, c3, c4⟩ := hdX.sat hFr
      have hpI : (p : Int) < (n : Int) := by omega
      have htI : (tc : Int) ≤ 1000 := by omega
      have hnl := hAt.nil_ hpn hnin
      have hEA := Lib.hid (fun (X : World) => empty_w nV hV X)
      clear hd hK hnd hnd1 hcu hue hsplit htk hlow hp
      obtain ⟨kind, name, lo, hi', kids⟩ := nd
      dsimp only at hnd2 hnd3 c0 c1 c2 c3 c4 hKX
      have hAtW := hAt.call (balloc wr (.cells #[.int .i64 kind, .string name, .int .i64 lo, .int .i64 hi', .slice Ak kids.length ck] 62))
      have hgrW := grown_call hgr (balloc wr (.cells #[.int .i64 kind, .string name, .int .i64 lo, .int .i64 hi', .slice Ak kids.length ck] 62))
      have hg0W : g0 < wr.heap.size := by omega
      rcases hnd3 with ⟨rfl, hM⟩ | ⟨rfl, hM⟩ | ⟨rfl, a, b, ha, hb, hkids, hM⟩ | ⟨rfl, a, b, ha, hb, hkids, hM⟩ | ⟨rfl, a, ha, hkids, hM, hfw⟩
      · have HM := Lib.hid hM
        have HT : Hid (e.test = false) := Lib.hid (by rw [hnd2]; rfl)
        have hWz : wr.heap.size < (wr.alloc (.cells #[.int .i64 18, .string name, .int .i64 lo, .int .i64 hi', .slice Ak kids.length ck] 62)).heap.size := by simp
        clear hM hnd2
        go_wp2_with fail
        generalize wr.alloc (.cells #[.int .i64 18, .string name, .int .i64 lo, .int .i64 hi', .slice Ak kids.length ck] 62) = W at *
        refine (hEA.out _).mono ?_
        rintro e3 w3 ⟨rfl, hS3, hb3⟩
        have hAt3 := hAtW.call hb3
        have hn3 := hAt3.nil_ hpn hnin
        have hf3 := hAt3.soft p
        have hP3 := hAt3.put hpn hnin (by omega) (by omega) hS3
        have hg3 := grown_set (grown_call hgrW hb3) p (.slice (some ⟨W.heap.size, 0, none⟩) nV nV)
        rw [stepTo_zero] at hP3
        generalize W.heap.size = G at *
        clear hAt3 hS3 hb3 hAtW hgrW hAt hgr hFr
        go_wp2_with fail
        clear hn3 hf3
        go_loopw [11] (fun v wx => ∃ q : Nat, q ≤ nV ∧ v = .int .i64 q ∧ AtP wx g0 n nV (es.take m) p G (stepTo q) ∧ w2.grownBy wx (some g0)) (fun v _ => nV - (intOf v).toNat)
        case atStart => exact ⟨0, Nat.zero_le _, rfl, hP3, hg3⟩
        case round =>
          clear hP3 hg3
          obtain ⟨q, hq, rfl, hP, hgx⟩ := hrel
          by_cases hqn : q + 1 < nV
          · have hqI : (q : Int) + 1 < (nV : Int) := by omega
            have hq1 : q < nV := by omega
            have hqI1 : (q : Int) < (nV : Int) := by omega
            have s1 := hP.slot
            have o1 := hP.sq.slot hq1
            have o2 := hP.sq.val hq1 hqn
            have o3 := hP.sq.soft hq1 (q + 1)
            have hst := hP.store (m' := stepTo (q + 1)) hq1 (q + 1) true (stepTo_step q)
            have hgs := grown_far hgx (p := ⟨G + 1 + q, q + 1, none⟩) (by show w2.heap.size ≤ G + 1 + q; omega) (.bool true)
            go_wp2_with fail
            go_roundw
            case rel => exact ⟨q + 1, by omega, by go_num, hst, hgs⟩
            case measure => simp [intOf]; omega
          · have hdec : decide ((q : Int) + 1 < (nV : Int)) = false := decide_eq_false (by omega)
            have hD := hP.done HP.out (fun i j hi hj => by rw [stepTo_all (by omega) i j hi hj, HM.out])
            rw [← HTK.out] at hD
            go_wp2_with fail
            go_roundw
            case rel => exact ⟨m + 1, tc, by omega, by omega, by go_num, rfl, Lib.hid (by rw [HTK.out, List.countP_append, ← HTC.out]; simp [HT.out]), hD, hgx⟩
            case measure => simp [intOf]; omega
      · have HM := Lib.hid hM
        have HT : Hid (e.test = true) := Lib.hid (by rw [hnd2]; rfl)
        have hWz : wr.heap.size < (wr.alloc (.cells #[.int .i64 19, .string name, .int .i64 lo, .int .i64 hi', .slice Ak kids.length ck] 62)).heap.size := by simp
        clear hM hnd2
        go_wp2_with fail
        generalize wr.alloc (.cells #[.int .i64 19, .string name, .int .i64 lo, .int .i64 hi', .slice Ak kids.length ck] 62) = W at *
        refine (hEA.out _).mono ?_
        rintro e3 w3 ⟨rfl, hS3, hb3⟩
        have hAt3 := hAtW.call hb3
        have hn3 := hAt3.nil_ hpn hnin
        have hf3 := hAt3.soft p
        have hP3 := hAt3.put hpn hnin (by omega) (by omega) hS3
        have hg3 := grown_set (grown_call hgrW hb3) p (.slice (some ⟨W.heap.size, 0, none⟩) nV nV)
        rw [testTo_zero (valS vs) tc] at hP3
        generalize W.heap.size = G at *
        clear hAt3 hS3 hb3 hAtW hgrW hAt hgr hFr
        go_wp2_with fail
        clear hn3 hf3
        go_loopw [12, 13, 64] (fun _ _ v wx => ∃ q : Nat, q ≤ nV ∧ v = .int .i64 q ∧ AtP wx g0 n nV (es.take m) p G (testTo (valS vs) tc q) ∧ w2.grownBy wx (some g0)) (fun _ _ v _ => nV - (intOf v).toNat)
        case atStart => exact ⟨0, Nat.zero_le _, rfl, hP3, hg3⟩
        case round =>
          clear hP3 hg3
          obtain ⟨q, hq, rfl, hP, hgx⟩ := hrel
          by_cases hq1 : q < nV
          · have hqI : (q : Int) < (nV : Int) := by omega
            have hFx := sat_heapX hgx
            obtain ⟨av, Aq, nq, cq, rfl, hvc, hvw⟩ := HVR.out q (by rw [← HVL.out]; exact hq1)
            have v1 := hFx.cell (hFX _ _ hvc)
            have hvw2 : Rd (heapX w2 g0) 1 Aq nq ((vs.getD q []).map u) := ⟨hvw.1, fun h0 => let ⟨a, e, h⟩ := hvw.2 h0; ⟨a, e, fun j u hu => hFX _ _ (h j u hu)⟩⟩
            have hH := fun (X : World) (h : Sat (heapX w2 g0) X) => bitsHas_w h (vs.getD q []) Aq nq cq hvw2 tc (by omega)
            have s1 := hP.slot
            have o1 := hP.sq.slot hq1
            have o2 := hP.sq.val hq1 hq1
            have o3 := hP.sq.soft hq1 q
            have hst := hP.store (m' := testTo (valS vs) tc (q + 1)) hq1 q (valS vs q tc) (testTo_step _ _ _)
            have hgs := fun u => grown_far hgx (p := ⟨G + 1 + q, q, none⟩) (by show w2.heap.size ≤ G + 1 + q; omega) u
            have hgs2 := fun u => grown_far (grown_drew hgx) (p := ⟨G + 1 + q, q, none⟩) (by show w2.heap.size ≤ G + 1 + q; omega) u
            have HH := Lib.hid hH
            have HVD : Hid (bitAt (vs.getD q []) tc = valS vs q tc) := Lib.hid rfl
            rw [HVD.out] at HH
            have HST := Lib.hid hst
            generalize valS vs q tc = b at *
            clear hst hH hvc hvw hvw2
            go_wp2_with fail
            go_region_with (go_at_call 140; refine (HH.out wr.drew hFx).mono ?_; rintro e4 w4 ⟨rfl, rfl⟩)
            all_goals
              go_wp2_with fail
              go_roundw
              case rel => exact ⟨q + 1, by omega, by go_num, HST.out, by first | exact hgs2 _ | exact grown_drew (hgs _)⟩
              case measure => simp [intOf]; omega
          · obtain rfl : q = nV := by omega
            have hdec : decide ((q : Int) < (q : Int)) = false := decide_eq_false (by omega)
            have hD := hP.done HP.out (fun i j hi hj => by rw [testTo_all _ _ i j hi hj, HM.out, ← HTC.out, Nat.zero_add])
            rw [← HTK.out] at hD
            go_wp2_with fail
            go_roundw
            case rel => exact ⟨m + 1, tc + 1, by omega, by omega, by go_num, by go_num, Lib.hid (by rw [HTK.out, List.countP_append, ← HTC.out]; simp [HT.out]), hD, hgx⟩
            case measure => simp [intOf]; omega
      · have HM := Lib.hid hM
        have HT : Hid (e.test = false) := Lib.hid (by rw [hnd2]; rfl)
        obtain ⟨pa, hpa⟩ : ∃ pa, pa = a.at_ := ⟨_, rfl⟩
        obtain ⟨pb, hpb⟩ : ∃ pb, pb = b.at_ := ⟨_, rfl⟩
        rw [← hpa, ← hpb] at hkids
        subst hkids
        rw [show ([(pa : Int), (pb : Int)] : List Int).length = 2 from rfl] at hAtW hgrW c4
        obtain ⟨ak, v, rfl, hv, hk0⟩ := hKX.at1 (k := 0) (by simp)
        obtain rfl : Value.int .i64 (pa : Int) = v := by simpa using hv
        obtain ⟨ak2, v, e2, hv, hk1⟩ := hKX.at1 (k := 1) (by simp)
        obtain rfl : Value.int .i64 (pb : Int) = v := by simpa using hv
        injection e2 with e2
        subst e2
        rw [show ak.add 0 = ak by unfold Addr.add; simp] at hk0
        rw [show ak.add 1 = ⟨ak.block, ak.off + 1, none⟩ by simp [Addr.add]] at hk1
        have hka : pa < n := by rw [hpa]; exact HLOW.out a ha
        have hkb : pb < n := by rw [hpb]; exact HLOW.out b hb
        have hkaI : (pa : Int) < (n : Int) := by omega
        have hkbI : (pb : Int) < (n : Int) := by omega
        have hgrW2 := sat_heapX hgrW
        have y0 := hgrW2.cell hk0
        have y1 := hgrW2.cell hk1
        obtain ⟨ga, za, _, hga, hSa⟩ := hAtW.cell ha
        obtain ⟨gb, zb, _, hgb, hSb⟩ := hAtW.cell hb
        rw [← hpa] at za
        rw [← hpb] at zb
        have hpna : p ≠ pa := fun e => hnin (by rw [e, hpa]; exact List.mem_map.2 ⟨a, ha, rfl⟩)
        have hpnb : p ≠ pb := fun e => hnin (by rw [e, hpb]; exact List.mem_map.2 ⟨b, hb, rfl⟩)
        have hak0 : ak.block ≠ g0 := fun e => by unfold Fz.cell heapX at hk0; rw [if_pos e] at hk0; cases hk0
        obtain ⟨x0, x1, x2, x3, x4⟩ := blk5 (Blk.new wr 62 #[.int .i64 20, .string name, .int .i64 lo, .int .i64 hi', .slice (some ak) 2 ck])
        have hWz : wr.heap.size < (wr.alloc (.cells #[.int .i64 20, .string name, .int .i64 lo, .int .i64 hi', .slice (some ak) 2 ck] 62)).heap.size := by simp
        have HPA := Lib.hid hpa
        have HPB := Lib.hid hpb
        clear hM hnd2 hv hpa hpb hKX hdX
        go_wp2_with fail
        generalize wr.alloc (.cells #[.int .i64 20, .string name, .int .i64 lo, .int .i64 hi', .slice (some ak) 2 ck] 62) = W at *
        have hBo := fun (X : World) (h1 : SqF (heapF X) ga nV a.m) (h2 : SqF (heapF X) gb nV b.m) => both_w (w := X) hV h1 h2
        have HBO := Lib.hid hBo
        have HSA := Lib.hid hSa
        have HSB := Lib.hid hSb
        have HAW := Lib.hid hAtW
        have HGW := Lib.hid hgrW
        clear hBo hSa hSb hAtW hgrW hAt hgr hFr c0 c1 c2 c3 c4 x0 x1 x2 x3
        have q0 : (⟨g0, p, none⟩ : Addr) ≠ ⟨wr.heap.size, 4, none⟩ := fun e => by have := congrArg Addr.block e; simp only at this; omega
        have q1 : (⟨g0, p, none⟩ : Addr) ≠ ak := fun e => hak0 (by rw [← e])
        have q2 : (⟨g0, p, none⟩ : Addr) ≠ ⟨ak.block, ak.off + 1, none⟩ := fun e => hak0 (by have := congrArg Addr.block e; simp only at this; omega)
        have q3 : (⟨g0, p, none⟩ : Addr) ≠ ⟨g0, pa, none⟩ := fun e => hpna (by have := congrArg Addr.off e; simp only at this; omega)
        have q4 : (⟨g0, p, none⟩ : Addr) ≠ ⟨g0, pb, none⟩ := fun e => hpnb (by have := congrArg Addr.off e; simp only at this; omega)
        have r0 := hWz
        have r1 := hgrW2.clt hk0
        have r2 := hgrW2.clt hk1
        have r3 : g0 < W.heap.size := by omega
        go_region_held3 (fun w' => w'.cell? ⟨wr.heap.size, 4, none⟩ = some (.slice (some ak) 2 ck) ∧ w'.cell? ak = some (.int .i64 pa) ∧ w'.cell? ⟨ak.block, ak.off + 1, none⟩ = some (.int .i64 pb) ∧ w'.cell? ⟨g0, pa, none⟩ = some (.slice (some ⟨ga, 0, none⟩) nV nV) ∧ w'.cell? ⟨g0, pb, none⟩ = some (.slice (some ⟨gb, 0, none⟩) nV nV)) (first | go_keep | exact ⟨cell_set_ne q0 s0, cell_set_ne q1 s1, cell_set_ne q2 s2, cell_set_ne q3 s3, cell_set_ne q4 s4⟩)
          (first | (go_at_call 141; refine (HBO.out _ (by exact HSA.out) (by exact HSB.out)).mono ?_; rintro e5 w5 ⟨g5, rfl, hg5, hS5, hb5⟩; have hbw : Below W.heap.size W w5 := (by refine bel_trans ?_ hb5; exact bel_eqv (Below.refl _ W) rfl rfl rfl rfl); have s0 := (hbw.cell (p := ⟨wr.heap.size, 4, none⟩) r0).trans x4; have s1 := (hbw.cell (p := ak) r1).trans y0; have s2 := (hbw.cell (p := ⟨ak.block, ak.off + 1, none⟩) r2).trans y1; have s3 := (hbw.cell (p := ⟨g0, pa, none⟩) r3).trans za; have s4 := (hbw.cell (p := ⟨g0, pb, none⟩) r3).trans zb; have hAt5 := HAW.out.call hbw; have z5 := hAt5.nil_ hpn hnin; have f5 := hAt5.soft p; have hP5 := hAt5.put hpn hnin (show g0 < g5 by have : W.heap.size ≤ g5 := hg5; omega) (show wr.heap.size ≤ g5 by have : W.heap.size ≤ g5 := hg5; omega) hS5; have hg6 := grown_set (grown_call HGW.out hbw) p (.slice (some ⟨g5, 0, none⟩) nV nV)))
        all_goals
          have hD := hP5.done HP.out (fun i j hi hj => by rw [HM.out])
          rw [← HTK.out] at hD
          go_wp2_with fail
          go_roundw
          case rel => exact ⟨m + 1, tc, by omega, by omega, by go_num, rfl, Lib.hid (by rw [HTK.out, List.countP_append, ← HTC.out]; simp [HT.out]), by first | exact hD, by first | exact hg6 | exact grown_drew hg6⟩
          case measure => simp [intOf]; omega
      · have HM := Lib.hid hM
        have HT : Hid (e.test = false) := Lib.hid (by rw [hnd2]; rfl)
        obtain ⟨pa, hpa⟩ : ∃ pa, pa = a.at_ := ⟨_, rfl⟩
        obtain ⟨pb, hpb⟩ : ∃ pb, pb = b.at_ := ⟨_, rfl⟩
        rw [← hpa, ← hpb] at hkids
        subst hkids
        rw [show ([(pa : Int), (pb : Int)] : List Int).length = 2 from rfl] at hAtW hgrW c4
        obtain ⟨ak, v, rfl, hv, hk0⟩ := hKX.at1 (k := 0) (by simp)
        obtain rfl : Value.int .i64 (pa : Int) = v := by simpa using hv
        obtain ⟨ak2, v, e2, hv, hk1⟩ := hKX.at1 (k := 1) (by simp)
        obtain rfl : Value.int .i64 (pb : Int) = v := by simpa using hv
        injection e2 with e2
        subst e2
        rw [show ak.add 0 = ak by unfold Addr.add; simp] at hk0
        rw [show ak.add 1 = ⟨ak.block, ak.off + 1, none⟩ by simp [Addr.add]] at hk1
        have hka : pa < n := by rw [hpa]; exact HLOW.out a ha
        have hkb : pb < n := by rw [hpb]; exact HLOW.out b hb
        have hkaI : (pa : Int) < (n : Int) := by omega
        have hkbI : (pb : Int) < (n : Int) := by omega
        have hgrW2 := sat_heapX hgrW
        have y0 := hgrW2.cell hk0
        have y1 := hgrW2.cell hk1
        obtain ⟨ga, za, _, hga, hSa⟩ := hAtW.cell ha
        obtain ⟨gb, zb, _, hgb, hSb⟩ := hAtW.cell hb
        rw [← hpa] at za
        rw [← hpb] at zb
        have hpna : p ≠ pa := fun e => hnin (by rw [e, hpa]; exact List.mem_map.2 ⟨a, ha, rfl⟩)
        have hpnb : p ≠ pb := fun e => hnin (by rw [e, hpb]; exact List.mem_map.2 ⟨b, hb, rfl⟩)
        have hak0 : ak.block ≠ g0 := fun e => by unfold Fz.cell heapX at hk0; rw [if_pos e] at hk0; cases hk0
        obtain ⟨x0, x1, x2, x3, x4⟩ := blk5 (Blk.new wr 62 #[.int .i64 21, .string name, .int .i64 lo, .int .i64 hi', .slice (some ak) 2 ck])
        have hWz : wr.heap.size < (wr.alloc (.cells #[.int .i64 21, .string name, .int .i64 lo, .int .i64 hi', .slice (some ak) 2 ck] 62)).heap.size := by simp
        have HPA := Lib.hid hpa
        have HPB := Lib.hid hpb
        clear hM hnd2 hv hpa hpb hKX hdX
        go_wp2_with fail
        generalize wr.alloc (.cells #[.int .i64 21, .string name, .int .i64 lo, .int .i64 hi', .slice (some ak) 2 ck] 62) = W at *
        have hBo := fun (X : World) (h1 : SqF (heapF X) ga nV a.m) (h2 : SqF (heapF X) gb nV b.m) => product_w (w := X) hV h1 h2
        have HBO := Lib.hid hBo
        have HSA := Lib.hid hSa
        have HSB := Lib.hid hSb
        have HAW := Lib.hid hAtW
        have HGW := Lib.hid hgrW
        clear hBo hSa hSb hAtW hgrW hAt hgr hFr c0 c1 c2 c3 c4 x0 x1 x2 x3
        have q0 : (⟨g0, p, none⟩ : Addr) ≠ ⟨wr.heap.size, 4, none⟩ := fun e => by have := congrArg Addr.block e; simp only at this; omega
        have q1 : (⟨g0, p, none⟩ : Addr) ≠ ak := fun e => hak0 (by rw [← e])
        have q2 : (⟨g0, p, none⟩ : Addr) ≠ ⟨ak.block, ak.off + 1, none⟩ := fun e => hak0 (by have := congrArg Addr.block e; simp only at this; omega)
        have q3 : (⟨g0, p, none⟩ : Addr) ≠ ⟨g0, pa, none⟩ := fun e => hpna (by have := congrArg Addr.off e; simp only at this; omega)
        have q4 : (⟨g0, p, none⟩ : Addr) ≠ ⟨g0, pb, none⟩ := fun e => hpnb (by have := congrArg Addr.off e; simp only at this; omega)
        have r0 := hWz
        have r1 := hgrW2.clt hk0
        have r2 := hgrW2.clt hk1
        have r3 : g0 < W.heap.size := by omega
        go_region_held3 (fun w' => w'.cell? ⟨wr.heap.size, 4, none⟩ = some (.slice (some ak) 2 ck) ∧ w'.cell? ak = some (.int .i64 pa) ∧ w'.cell? ⟨ak.block, ak.off + 1, none⟩ = some (.int .i64 pb) ∧ w'.cell? ⟨g0, pa, none⟩ = some (.slice (some ⟨ga, 0, none⟩) nV nV) ∧ w'.cell? ⟨g0, pb, none⟩ = some (.slice (some ⟨gb, 0, none⟩) nV nV)) (first | go_keep | exact ⟨cell_set_ne q0 s0, cell_set_ne q1 s1, cell_set_ne q2 s2, cell_set_ne q3 s3, cell_set_ne q4 s4⟩)
          (first | (go_at_call 142; refine (HBO.out _ (by exact HSA.out) (by exact HSB.out)).mono ?_; rintro e5 w5 ⟨g5, rfl, hg5, hS5, hb5⟩; have hbw : Below W.heap.size W w5 := (by refine bel_trans ?_ hb5; exact bel_eqv (Below.refl _ W) rfl rfl rfl rfl); have s0 := (hbw.cell (p := ⟨wr.heap.size, 4, none⟩) r0).trans x4; have s1 := (hbw.cell (p := ak) r1).trans y0; have s2 := (hbw.cell (p := ⟨ak.block, ak.off + 1, none⟩) r2).trans y1; have s3 := (hbw.cell (p := ⟨g0, pa, none⟩) r3).trans za; have s4 := (hbw.cell (p := ⟨g0, pb, none⟩) r3).trans zb; have hAt5 := HAW.out.call hbw; have z5 := hAt5.nil_ hpn hnin; have f5 := hAt5.soft p; have hP5 := hAt5.put hpn hnin (show g0 < g5 by have : W.heap.size ≤ g5 := hg5; omega) (show wr.heap.size ≤ g5 by have : W.heap.size ≤ g5 := hg5; omega) hS5; have hg6 := grown_set (grown_call HGW.out hbw) p (.slice (some ⟨g5, 0, none⟩) nV nV)))
        all_goals
          have hD := hP5.done HP.out (fun i j hi hj => by rw [HM.out])
          rw [← HTK.out] at hD
          go_wp2_with fail
          go_roundw
          case rel => exact ⟨m + 1, tc, by omega, by omega, by go_num, rfl, Lib.hid (by rw [HTK.out, List.countP_append, ← HTC.out]; simp [HT.out]), by first | exact hD, by first | exact hg6 | exact grown_drew hg6⟩
          case measure => simp [intOf]; omega
      · have HM := Lib.hid hM
        have HT : Hid (e.test = false) := Lib.hid (by rw [hnd2]; rfl)
        obtain ⟨pa, hpa⟩ : ∃ pa, pa = a.at_ := ⟨_, rfl⟩
        rw [← hpa] at hkids
        subst hkids
        rw [show ([(pa : Int)] : List Int).length = 1 from rfl] at hAtW hgrW c4
        obtain ⟨ak, v, rfl, hv, hk0⟩ := hKX.at1 (k := 0) (by simp)
        obtain rfl : Value.int .i64 (pa : Int) = v := by simpa using hv
        rw [show ak.add 0 = ak by unfold Addr.add; simp] at hk0
        have hka : pa < n := by rw [hpa]; exact HLOW.out a ha
        have hkaI : (pa : Int) < (n : Int) := by omega
        have hgrW2 := sat_heapX hgrW
        have y0 := hgrW2.cell hk0
        obtain ⟨ga, za, _, hga, hSa⟩ := hAtW.cell ha
        rw [← hpa] at za
        obtain ⟨x0, x1, x2, x3, x4⟩ := blk5 (Blk.new wr 62 #[.int .i64 22, .string name, .int .i64 lo, .int .i64 hi', .slice (some ak) 1 ck])
        have hWz : wr.heap.size < (wr.alloc (.cells #[.int .i64 22, .string name, .int .i64 lo, .int .i64 hi', .slice (some ak) 1 ck] 62)).heap.size := by simp
        have HPA := Lib.hid hpa
        have HFW := Lib.hid hfw
        have hBo := fun (X : World) (h1 : SqF (heapF X) ga nV a.m) => closure_w (w := X) hV HFW.out h1
        have HBO := Lib.hid hBo
        have HSA := Lib.hid hSa
        have HAW := Lib.hid hAtW
        have HGW := Lib.hid hgrW
        clear hM hnd2 hv hpa hKX hdX hfw hBo hSa hAtW hgrW hAt hgr hFr
        go_wp2_with fail
        generalize wr.alloc (.cells #[.int .i64 22, .string name, .int .i64 lo, .int .i64 hi', .slice (some ak) 1 ck] 62) = W at *
        go_at_call 143
        refine (HBO.out _ HSA.out).mono ?_
        rintro e5 w5 ⟨g5, rfl, hg5, hS5, hb5⟩
        have hAt5 := AtB.call HAW.out hb5
        have z5 := hAt5.nil_ hpn hnin
        have f5 := hAt5.soft p
        have hP5 := hAt5.put hpn hnin (show g0 < g5 by omega) (show wr.heap.size ≤ g5 by omega) hS5
        have hg6 := grown_set (grown_call HGW.out hb5) p (.slice (some ⟨g5, 0, none⟩) nV nV)
        go_wp2_with fail
        have hD := hP5.done HP.out (fun i j hi hj => by rw [HM.out])
        rw [← HTK.out] at hD
        go_roundw
        case rel => exact ⟨m + 1, tc, by omega, by omega, by go_num, rfl, Lib.hid (by rw [HTK.out, List.countP_append, ← HTC.out]; simp [HT.out]), hD, hg6⟩
        case measure => simp [intOf]; omega
    · obtain rfl : m = K := by omega
      have hdec : decide ((m : Int) < (m : Int)) = false := decide_eq_false (by omega)
      have hall : es.take m = es := by rw [HK.out, List.take_length]
      rw [hall] at hAt
      have hBW := below_grown HB0.out hgr (by rw [← HG0.out]; exact Nat.le_refl _)
      clear hall
      by_cases h0 : n = 0
      · subst h0
        go_wp2_with fail
        go_ret
        exact ⟨_, rfl, hBW, fun _ => rfl, fun h => by rw [HN.out] at h; omega⟩
      · have hn0 : ((n : Int) == 0) = false := by rw [beq_eq_false_iff_ne]; omega
        by_cases hv0 : nV = 0
        · subst hv0
          go_wp2_with fail
          go_ret
          exact ⟨_, rfl, hBW, fun _ => rfl, fun _ h => by omega⟩
        · have hv0b : ((nV : Int) == 0) = false := by rw [beq_eq_false_iff_ne]; omega
          obtain ⟨k, hk⟩ : ∃ k, n = k + 1 := ⟨n - 1, by omega⟩
          subst hk
          by_cases hin : k ∈ es.map Ent.at_
          · obtain ⟨x, hx, hxk⟩ := List.mem_map.1 hin
            obtain ⟨ge, zx, hge, hge2, hSx⟩ := hAt.cell hx
            rw [hxk] at zx
            have HND2 : Hid (∀ y ∈ es, y.at_ = k → y = x) := Lib.hid fun y hy hyk => by
              exact inj_at HND.out hy hx (by rw [hyk, hxk])
            have HSX := Lib.hid hSx
            clear hSx hxk
            have hkI : (k : Int) < (k : Int) + 1 := by omega
            go_wp2_with fail
            go_ret
            refine ⟨_, rfl, hBW, fun h => by rw [HN.out] at h; omega, fun _ _ => ⟨fun h => by rw [HN.out, Nat.add_sub_cancel] at h; exact absurd hin h, fun y hy hyk => ?_⟩⟩
            rw [HN.out, Nat.add_sub_cancel] at hyk
            rw [HND2.out y hy hyk]
            exact ⟨ge, rfl, by rw [← HG0.out]; omega, HSX.out⟩
          · have zx := hAt.nil_ (q := k) (by omega) hin
            have HIN := Lib.hid hin
            clear hin
            have hkI : (k : Int) < (k : Int) + 1 := by omega
            go_wp2_with fail
            go_ret
            refine ⟨_, rfl, hBW, fun _ => rfl, fun _ _ => ⟨fun _ => rfl, fun y hy hyk => ?_⟩⟩
            rw [HN.out, Nat.add_sub_cancel] at hyk
            exact absurd (List.mem_map.2 ⟨y, hy, hyk⟩) HIN.out
end Go.Proofs.YtdbbooibkiicnaaGreat
/-! What both Reaches leave, and the walk of law 14's Same. -/
namespace Go.Proofs.YtdbbooibkiicnaaGreat
open Go.RowKit
/-- What a Reach leaves. -/
def RetTab (w : World) (l : List Nd) (n : Nat) (v : Nat → Nat → Bool) (e : Ending) (w' : World) : Prop :=
  ∃ A c, e = .returned (.slice A (if regL l then n else 0) c) ∧ Below w.heap.size w w' ∧ ∀ t, treeS l = some t → regS t.root.kind = true → 0 < n → ∃ g, A = some ⟨g, 0, none⟩ ∧ c = n ∧ w.heap.size ≤ g ∧ SqF (heapF w') g n (reachT n v t 0)
theorem reg_of {l : List Nd} {t : Tr} (h : treeS l = some t) (hr : regS t.root.kind = true) : regL l = true := by unfold regL; rw [h]; exact hr
theorem pReachTab {F : Fz} {w : World} (hF : Sat F w) (l : List Nd) (hn : l.length ≤ 1000) (A : Option Addr) (n c : Nat) (hl : NodesF F A n l) (V : Option Addr) (nV cV : Nat) (hV : nV ≤ 1000)
    (vs : List (List (BitVec 64))) (hvs : RdR F V nV vs) :
    Calls Tryz.prog 119 #[.slice A n c, .slice V nV cV] w (RetTab w l nV (valS vs)) := by
  cases hreg : regL l with
  | false =>
    have h := pReach_w hF l hn A n c hl V nV cV hV vs hvs [] (by rw [ownS_no hreg]; rfl) (fun es1 e es2 h => by simp at h) (by simp) (by simp)
    refine h.mono fun e w' ⟨x, he, hb, h1, h2⟩ => ?_
    have hx : x = .slice none 0 0 := by
      by_cases h0 : l.length = 0 ∨ nV = 0
      · exact h1 h0
      · exact (h2 (by omega) (by omega)).1 (by simp)
    exact ⟨none, 0, by rw [he, hx, hreg]; rfl, hb, fun t ht hr _ => by rw [reg_of ht hr] at hreg; cases hreg⟩
  | true =>
    obtain ⟨t, ht, hrk, hown⟩ := ownS_yes hreg
    have hv := regV_of (tree_valid ht) hrk
    have htl := tree_len ht
    have hsp := t.size_pos
    have hro := res_own nV (valS vs) t 0 0
    have h := pReach_w hF l hn A n c hl V nV cV hV vs hvs (resT nV (valS vs) t 0 0) (by rw [hown, hro]) (res_ok nV (valS vs) t 0 0 l [] [] (by simpa using tree_flat ht) rfl hv)
      (by rw [hro]; exact (own_sorted t 0).imp fun h => by omega)
      (fun e he => by have := own_bounds t 0 e.at_ (by rw [← hro]; exact List.mem_map.2 ⟨e, he, rfl⟩); omega)
    refine h.mono fun e w' ⟨x, he, hb, h1, h2⟩ => ?_
    by_cases h0 : nV = 0
    · exact ⟨none, 0, by rw [he, h1 (.inr h0), h0, if_pos hreg], hb, fun _ _ _ h => by omega⟩
    · obtain ⟨es, e1, h3, h4, h5⟩ := res_last nV (valS vs) t 0 0
      obtain ⟨g, hg, hg2, hS⟩ := (h2 (by omega) (by omega)).2 e1 (by rw [h3]; simp) (by omega)
      rw [h5] at hS
      refine ⟨_, nV, by rw [he, hg, if_pos hreg], hb, fun s hs _ _ => ⟨g, rfl, rfl, hg2, ?_⟩⟩
      rw [ht] at hs
      injection hs with hs
      subst hs
      exact hS
theorem rReachTab {F : Fz} {w : World} (hF : Sat F w) (l : List Nd) (hn : l.length ≤ 1000) (A : Option Addr) (n c : Nat) (hl : NodesF F A n l) (V : Option Addr) (nV cV : Nat) (hV : nV ≤ 1000)
    (vs : List (List (BitVec 64))) (hvs : RdR F V nV vs) :
    Calls Tryz.prog 114 #[.slice A n c, .slice V nV cV] w (RetTab w l nV (valS vs)) := by
  refine (rReach_w hF l hn A n c hl V nV cV hV vs hvs).mono fun e w' ⟨h1, h2⟩ => ?_
  cases hreg : regL l with
  | false =>
    obtain ⟨he, hb⟩ := h1 hreg
    exact ⟨none, 0, by rw [he, hreg]; rfl, hb, fun t ht hr _ => by rw [reg_of ht hr] at hreg; cases hreg⟩
  | true =>
    obtain ⟨t, ht, hrk, hown⟩ := ownS_yes hreg
    obtain ⟨g, he, hg, hS, hb⟩ := h2 t ht hrk
    refine ⟨_, nV, by rw [he, if_pos hreg], hb, fun s hs _ _ => ⟨g, rfl, rfl, hg, ?_⟩⟩
    rw [ht] at hs
    injection hs with hs
    subst hs
    exact hS
end Go.Proofs.YtdbbooibkiicnaaGreat
