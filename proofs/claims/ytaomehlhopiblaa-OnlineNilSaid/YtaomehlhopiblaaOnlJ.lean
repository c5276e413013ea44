/- One pass: the walk of the closure of shifted: the states of a class. -/
import Derived.Test.YtaomehlhopiblaaOnlX
set_option linter.unusedVariables false
set_option linter.unusedSimpArgs false
/-! One pass: the walk of the closure of shifted: the states of a class. -/
namespace Go.Proofs.Ytaomehlhopiblaa
open Go.RowKit
attribute [local go_sem ↓] Go.wp_at_zero Go.wp_at_succ
theorem bucket_info : (Try.prog.info? 59).map (fun i => (i.zero, i.size, i.bytes)) = some (some (.agg #[.int .i64 0, .slice none 0 0]), 2, 32) := by kernel_rfl
theorem step_pushB {w : World} {ops : Array Oper} {o : Oper} {a : Act} {K : Act → World → Prop} {Q : Exit → Act → World → Prop} {E : Prop} (hgd : o.guard = none) (s x : Operand)
    (ho : o.op = .call { callee := .builtin .append, args := #[s, x], argTypes := #[57, 57] })
    {F : Fz} {B n q : Nat} {v y : Value} {xs : List Value} (hown : Own F w B 59 2 v n xs) (hy : y.oneCell' = true) (hF : Sat F w) (hs : a.eval s = v)
    (g c : Nat) (hx : a.eval x = .slice (some ⟨g, 0, none⟩) 1 c) (hg : Blk w g 59 #[.int .i64 (q : Nat), y]) (hn : n + 1 ≤ 1000000) (hB : B ≤ w.heap.size)
    (h : ∀ v' w', Own F w' B 59 2 v' (n + 1) (xs ++ [.int .i64 (q : Nat), y]) → Sat F w' → Below B w w' → w.grownBy w' v.ownBlock → (v'.ownBlock = v.ownBlock ∨ v'.ownBlock = some w.heap.size) → K (a.put o.dst v') w') :
    if Region.wanted o (yielded ops a.tmps) = true then Oper.wp Try.prog o a w K Q else E := by
  have hr : Rd (heapF w) 2 (some ⟨g, 0, none⟩) 1 [.int .i64 (q : Nat), y] := by
    refine ⟨rfl, fun _ => ⟨_, rfl, fun j u hu => ?_⟩⟩
    rw [add_lit0]
    unfold Fz.cell heapF
    rw [hg]
    simpa using hu
  refine step_pushAll hgd s x _ ho 59 _ 2 32 Try.underlying57 bucket_info rfl (by omega) hown hF hs _ 1 c _ hx (sat_heapF w) hr (fun u hu => by
    simp at hu
    rcases hu with rfl | rfl
    · rfl
    · exact hy) (by simp [maxLen]; omega) (by omega) hB ?_
  intro v' w' h3 h4 h5 h6 h7
  exact h v' w' h3 h4 h5 h6 h7
/-- A window in the making: the rows of states E, in the variable gout. -/
def SH (F0 : Fz) (B m M : Nat) (Gs : List Nat) (w : World) (gout : Nat) (E : List EntW) : Prop :=
  ∃ vO, Blk w gout 57 #[vO] ∧ Own F0 w B 59 2 vO E.length (plC (outP M E)) ∧ OutS m M Gs w E ∧ gout ∈ Gs ∧
    (∀ g, vO.ownBlock = some g → g ∈ Gs ∧ g ≠ gout ∧ ∀ e ∈ E, e.2.1 ≠ g) ∧ (∀ e ∈ E, e.2.1 ≠ gout) ∧ ∀ g, g ∈ Gs → B ≤ g ∧ g < w.heap.size
theorem SH.call {F0 : Fz} {B m M : Nat} {Gs : List Nat} {w w' : World} {gout : Nat} {E : List EntW} (h : SH F0 B m M Gs w gout E) (hb : Below w.heap.size w w') : SH F0 B m M Gs w' gout E :=
  let ⟨vO, h1, h2, h3, h4, h5, h6, h7⟩ := h
  ⟨vO, h1.call hb, h2.call hb, h3.call hb, h4, h5, h6, fun g hg => ⟨(h7 g hg).1, Nat.lt_of_lt_of_le (h7 g hg).2 hb.size⟩⟩
/-- What the closure leaves. -/
def RetAt (F0 : Fz) (B m M : Nat) (Gs : List Nat) (w : World) (gout : Nat) (E : List EntW) (c : Nat) (e : Ending) (w' : World) : Prop :=
  ∃ (E' : List EntW) (g : Nat) (f : Nat → Fn) (Gs' : List Nat), e = .returned (.slice (some ⟨g, 0, none⟩) (M + 1) (M + 1)) ∧ SH F0 B m M Gs' w' gout (E' ++ [(c, g, f)]) ∧ Wr Gs w w' ∧ CLe (hx w Gs) (hx w' Gs') ∧
    (∀ b, b ∈ Gs → b ∈ Gs') ∧ (∀ b, b ∈ Gs' → b ∈ Gs ∨ w.heap.size ≤ b) ∧
    (E = E' ++ [(c, g, f)] ∨ (E = E' ∧ (f = fun _ => noFn) ∧ ∀ e, E.getLast? = some e → e.1 ≠ c))
theorem cle_news {w w' : World} {Gs Hs : List Nat} (hb : Wr Gs w w') (hH : ∀ g, g ∈ Hs → w.heap.size ≤ g) : CLe (hx w Gs) (hx w' (Hs ++ Gs)) := fun a v hc => by
  have h1 := hb.cle a v hc
  have hlt : a.block < w.heap.size := by
    unfold Fz.cell at hc
    by_cases hg : a.block ∈ Gs
    · rw [hx_in hg] at hc; cases hc
    · rw [hx_out hg] at hc
      cases e : w.heap[a.block]? with
      | none => rw [e] at hc; cases hc
      | some o => exact (Array.getElem?_eq_some_iff.1 e).1
  unfold Fz.cell at h1 ⊢
  by_cases hg' : a.block ∈ Gs
  · rw [hx_in hg'] at h1; cases h1
  · rw [hx_out hg'] at h1
    rw [hx_out (fun e => by
      rcases List.mem_append.1 e with e | e
      · have := hH _ e; omega
      · exact hg' e)]
    exact h1
theorem OutS.news {m M : Nat} {Gs Hs : List Nat} {w w' : World} {E : List EntW} (h : OutS m M Gs w E) (hb : Wr Gs w w') (hB : ∀ e ∈ E, w'.heap[e.2.1]? = w.heap[e.2.1]?) (hH : ∀ g, g ∈ Hs → w.heap.size ≤ g) : OutS m M (Hs ++ Gs) w' E := by
  refine ⟨h.1, fun e he => ?_⟩
  obtain ⟨h1, cs, h2, h3, h4⟩ := h.2 e he
  exact ⟨List.mem_append_right _ h1, cs, (hB e he).trans h2, h3, fun q hq => let ⟨v, e, hv⟩ := h4 q hq; ⟨v, e, hv.cle (cle_news hb hH)⟩⟩
theorem RowA.zero {m n : Nat} {Gs : List Nat} {T : TypeId} {w : World} {g : Nat} (h : Blk w g T (zeros (.slice none 0 0) n)) : RowA m n Gs T w g fun _ => noFn :=
  ⟨List.replicate n (.slice none 0 0), h, by simp, fun q hq => ⟨_, by simp [hq], WdF.nil _ _⟩⟩
theorem wr_grown {w w' : World} {row : Option Nat} {Gs : List Nat} (h : w.grownBy w' row) (hr : ∀ g, row = some g → g ∈ Gs) : Wr Gs w w' :=
  ⟨h.os, h.tape, h.output, h.size, fun b hb hg => h.block b hb fun e => hg (hr b e.symm)⟩
theorem at_fin {F0 : Fz} {B m M : Nat} {Gs : List Nat} {w w7 : World} {gout : Nat} {E : List EntW} {c n g6 c6 : Nat} (hn : E.length = n) (h3 : OutS m M Gs w E) (h4 : gout ∈ Gs) (h6 : ∀ e ∈ E, e.2.1 ≠ gout) (h7 : ∀ g, g ∈ Gs → B ≤ g ∧ g < w.heap.size) (hBw : B ≤ w.heap.size)
    (hW : Wr Gs w w7) (hgo : Blk w7 gout 57 #[.slice (some ⟨g6, 0, none⟩) (n + 1) c6]) (hO : Own F0 w7 B 59 2 (.slice (some ⟨g6, 0, none⟩) (n + 1) c6) (n + 1) (plC (outP M E) ++ [.int .i64 (c : Nat), .slice (some ⟨w.heap.size, 0, none⟩) (M + 1) (M + 1)]))
    (hZ : Blk w7 w.heap.size 49 (zeros (.slice none 0 0) (M + 1))) (hG : (g6 ∈ Gs ∧ g6 ≠ gout ∧ ∀ e ∈ E, e.2.1 ≠ g6) ∨ g6 = w.heap.size + 2) (hk : ∀ e ∈ E, w7.heap[e.2.1]? = w.heap[e.2.1]?) (hl : ∀ e, E.getLast? = some e → e.1 ≠ c) :
    RetAt F0 B m M Gs w gout E c (.returned (.slice (some ⟨w.heap.size, 0, none⟩) (M + 1) (M + 1))) w7 := by
  have hg6 : g6 < w7.heap.size := (hO.1.lt g6 rfl).2
  have hgout : gout < w.heap.size := (h7 gout h4).2
  have hlE : ∀ e ∈ E, e.2.1 < w.heap.size := fun e he => (h3.2 e he).2.lt
  obtain ⟨Hs, hH1, hH2, hH3, hH4⟩ : ∃ Hs : List Nat, w.heap.size ∈ Hs ∧ (g6 ∈ Hs ++ Gs) ∧ (∀ g, g ∈ Hs → w.heap.size ≤ g) ∧ ∀ g, g ∈ Hs → g < w7.heap.size := by
    rcases hG with e | e
    · exact ⟨[w.heap.size], by simp, by simp [e.1], fun g hg => by simp at hg; omega, fun g hg => by simp at hg; rw [hg]; exact hZ.lt⟩
    · refine ⟨[g6, w.heap.size], by simp, by simp, fun g hg => ?_, fun g hg => ?_⟩
      · simp at hg; omega
      · simp at hg
        rcases hg with rfl | rfl
        · exact hg6
        · exact hZ.lt
  have hgn : g6 ≠ w.heap.size ∧ g6 ≠ gout ∧ ∀ e ∈ E, e.2.1 ≠ g6 := by
    rcases hG with e | e
    · exact ⟨by have := (h7 g6 e.1).2; omega, e.2.1, e.2.2⟩
    · exact ⟨by omega, by omega, fun x hx => by have := hlE x hx; omega⟩
  refine ⟨E, w.heap.size, fun _ => noFn, Hs ++ Gs, rfl, ⟨_, hgo, ?_, ?_, List.mem_append_right _ h4, ?_, ?_, ?_⟩, hW, cle_news hW hH3, fun b hb => List.mem_append_right _ hb, fun b hb => ?_, .inr ⟨rfl, rfl, hl⟩⟩
  · rw [outP_append, plC_append, List.length_append, hn]
    exact hO
  · exact (h3.news hW hk hH3).push (List.mem_append_left _ hH1) (fun e he => by have := hlE e he; omega) (RowA.zero hZ)
  · intro g e
    injection e with e
    subst e
    refine ⟨hH2, hgn.2.1, fun x hx => ?_⟩
    rcases List.mem_append.1 hx with hx | hx
    · exact hgn.2.2 x hx
    · simp at hx
      subst hx
      exact hgn.1.symm
  · intro x hx
    rcases List.mem_append.1 hx with hx | hx
    · exact h6 x hx
    · simp at hx
      subst hx
      show w.heap.size ≠ gout
      omega
  · intro g hg
    rcases List.mem_append.1 hg with hg | hg
    · exact ⟨Nat.le_trans hBw (hH3 g hg), hH4 g hg⟩
    · exact ⟨(h7 g hg).1, Nat.lt_of_lt_of_le (h7 g hg).2 hW.size⟩
  · rcases List.mem_append.1 hb with hb | hb
    · exact .inr (hH3 b hb)
    · exact .inl hb
set_option maxRecDepth 100000 in
set_option maxHeartbeats 2000000 in
theorem oat_w {F0 : Fz} {w : World} (hF0 : Sat F0 w) (B m M : Nat) (Gs : List Nat) (gout grx : Nat) (E : List EntW) (h : SH F0 B m M Gs w gout E) (hrx : w.cell? ⟨grx, 1, none⟩ = some (.int .i64 (M : Nat))) (hgr : grx ∉ Gs) (hM : M ≤ 1000) (hE : E.length ≤ 100000) (c : Nat) :
    Calls Try.prog 59 #[.int .i64 (c : Nat), .pointer (some ⟨gout, 0, none⟩), .pointer (some ⟨grx, 0, none⟩)] w (RetAt F0 B m M Gs w gout E c) := by
  obtain ⟨vO, h1, h2, h3, h4, h5, h6, h7⟩ := id h
  have HSH := Lib.hid h
  obtain ⟨k0, kf⟩ := blk1 h1
  obtain ⟨n, hn⟩ : ∃ n, E.length = n := ⟨_, rfl⟩
  have HN := Lib.hid hn
  rw [hn] at h2 hE
  have hmk : ∀ X : World, (Instr.makeSlice 42 (.int .i64 ((M : Int) + 1)) (.int .i64 ((M : Int) + 1))).run Try.prog X = .ok (.slice (some ⟨X.heap.size, 0, none⟩) (M + 1) (M + 1)) (X.alloc (.cells (zeros (.slice none 0 0) (M + 1)) 49)) := fun X => by
    have := makeR (M + 1) (by omega) X
    simpa using this
  have wM : IntKind.i64.wrap ((M : Int) + 1) = (M : Int) + 1 := wrap_i (by omega) (by omega)
  have hB1 : ∀ g, g ∈ Gs → g < w.heap.size := fun g hg => (h7 g hg).2
  have hBw : B ≤ w.heap.size := by have := (h7 gout h4).1; have := h1.lt; omega
  have hrow : some gout ≠ vO.ownBlock := fun e => (h5 gout e.symm).2.1 rfl
  have HmK := Lib.hid hmk
  obtain ⟨A, cap, rfl, hcap⟩ := h2.shape
  have wN1 : IntKind.i64.wrap (((n + 1 : Nat) : Int) - 1) = (n : Int) := by rw [show ((n + 1 : Nat) : Int) - 1 = (n : Int) by omega]; exact wrap_i (by omega) (by omega)
  have hnI : (n : Int) < ((n + 1 : Nat) : Int) := by omega
  rcases List.eq_nil_or_concat E with hE0 | ⟨E0, ⟨c0, g0, f0⟩, hE0⟩
  · have hn0 : n = 0 := by rw [← hn, hE0]; rfl
    have hd : ¬ (0 : Int) ≤ (n : Int) - 1 := by omega
    have HE0 : Hid (∀ e, E.getLast? = some e → e.1 ≠ c) := Lib.hid (by rw [hE0]; intro e h; cases h)
    clear h hn hE0 hn0
    go_enter Try.func59, Try.ntmps59
    go_wp2_with fail
    have hOW : Own F0 (((w.alloc (.cells (zeros (.slice none 0 0) (M + 1)) 49)).alloc (.cells #[.int .i64 (c : Nat), .slice (some ⟨w.heap.size, 0, none⟩) (M + 1) (M + 1)] 59)).drew) B 59 2 (.slice A n cap) n (plC (outP M E)) := ((h2.alloc _).alloc _).drew
    have hSW : Sat F0 (((w.alloc (.cells (zeros (.slice none 0 0) (M + 1)) 49)).alloc (.cells #[.int .i64 (c : Nat), .slice (some ⟨w.heap.size, 0, none⟩) (M + 1) (M + 1)] 59)).drew) := ((hF0.alloc _).alloc _).drew
    have hbW : Below w.heap.size w (((w.alloc (.cells (zeros (.slice none 0 0) (M + 1)) 49)).alloc (.cells #[.int .i64 (c : Nat), .slice (some ⟨w.heap.size, 0, none⟩) (M + 1) (M + 1)] 59)).drew) := ((balloc w _).alloc (by simp) _).drew
    have hKW : Blk (((w.alloc (.cells (zeros (.slice none 0 0) (M + 1)) 49)).alloc (.cells #[.int .i64 (c : Nat), .slice (some ⟨w.heap.size, 0, none⟩) (M + 1) (M + 1)] 59)).drew) (w.heap.size + 1) 59 #[.int .i64 (c : Nat), .slice (some ⟨w.heap.size, 0, none⟩) (M + 1) (M + 1)] := Blk.new2 w _ _ _
    have hZW : Blk (((w.alloc (.cells (zeros (.slice none 0 0) (M + 1)) 49)).alloc (.cells #[.int .i64 (c : Nat), .slice (some ⟨w.heap.size, 0, none⟩) (M + 1) (M + 1)] 59)).drew) w.heap.size 49 (zeros (.slice none 0 0) (M + 1)) := (Blk.new w 49 _).alloc _
    have hzW : (((w.alloc (.cells (zeros (.slice none 0 0) (M + 1)) 49)).alloc (.cells #[.int .i64 (c : Nat), .slice (some ⟨w.heap.size, 0, none⟩) (M + 1) (M + 1)] 59)).drew).heap.size = w.heap.size + 2 := by show ((w.alloc _).alloc _).heap.size = _; simp
    have hBs : B ≤ (((w.alloc (.cells (zeros (.slice none 0 0) (M + 1)) 49)).alloc (.cells #[.int .i64 (c : Nat), .slice (some ⟨w.heap.size, 0, none⟩) (M + 1) (M + 1)] 59)).drew).heap.size := by rw [hzW]; omega
    have ka1 := ((balloc w (.cells (zeros (.slice none 0 0) (M + 1)) 49)).cell (p := ⟨gout, 0, none⟩) h1.lt).trans k0
    have ka2 : ((w.alloc (.cells (zeros (.slice none 0 0) (M + 1)) 49)).alloc (.cells #[.int .i64 (c : Nat), .slice (some ⟨w.heap.size, 0, none⟩) (M + 1) (M + 1)] 59)).cell? ⟨gout, 0, none⟩ = some (.slice A n cap) := (hbW.cell (p := ⟨gout, 0, none⟩) h1.lt).trans k0
    go_region_law ((refine step_pushB rfl (.tmp 25) (.tmp 32) (by rfl) hOW (by rfl) hSW (by rfl) _ _ (by rfl) hKW (by omega) hBs ?_; intro v6 w6 hO6 hF6 hb6 hg6 hat6; obtain ⟨A6, c6, hv6, hc6⟩ := hO6.shape; subst hv6; have hB6 := (h1.call hbW).grown hg6 hrow; obtain ⟨q0, q1⟩ := blk1 hB6))
    all_goals
      have hlE : ∀ e ∈ E, e.2.1 < w.heap.size := fun e he => (h3.2 e he).2.lt
      rcases hO6.blk with ⟨_, e0, _⟩ | ⟨g6, cap6, e6, _, hg6B, _, hL6⟩
      · exact absurd e0 (by omega)
      injection e6 with e61 e62 e63
      subst e61 e63
      have HG6 : (g6 ∈ Gs ∧ g6 ≠ gout ∧ ∀ e ∈ E, e.2.1 ≠ g6) ∨ g6 = w.heap.size + 2 := by
        rcases hat6 with e | e
        · exact .inl (h5 g6 e.symm)
        · rw [hzW] at e
          injection e with e
          exact .inr e
      have hgg : gout < w.heap.size := h1.lt
      have hne6 : g6 ≠ gout := by rcases HG6 with e | e; exact e.2.1; omega
      have z1 : w6.cell? ⟨g6, n * 2 + 1, none⟩ = some (.slice (some ⟨w.heap.size, 0, none⟩) (M + 1) (M + 1)) := hL6.cell (by
        rw [List.getElem?_append_right (by rw [length_outC]; have := HN.out; omega), length_outC, HN.out, show n * 2 + 1 - n * 2 = 1 by omega]; rfl)
      have z2 : (w6.setCell ⟨gout, 0, none⟩ (.slice (some ⟨g6, 0, none⟩) (n + 1) c6)).cell? ⟨g6, n * 2 + 1, none⟩ = some (.slice (some ⟨w.heap.size, 0, none⟩) (M + 1) (M + 1)) := cellNe (fun e => hne6 (congrArg Addr.block e).symm) z1
      have HBW := Lib.hid hbW
      have HX := Lib.hid (show Wr Gs (((w.alloc (.cells (zeros (.slice none 0 0) (M + 1)) 49)).alloc (.cells #[.int .i64 (c : Nat), .slice (some ⟨w.heap.size, 0, none⟩) (M + 1) (M + 1)] 59)).drew) w6 from wr_grown hg6 (fun g e => (h5 g e).1))
      have HL6 := Lib.hid hL6
      have HO6 := Lib.hid hO6
      have HB6 := Lib.hid hB6
      have HZ6 := Lib.hid ((hZW).grown hg6 (fun e => absurd (hB1 _ (h5 _ e.symm).1) (by omega)))
      have HK6 := Lib.hid (fun (b : Nat) (hb : b < w.heap.size) (hr : some b ≠ (Value.slice A n cap).ownBlock) => (hg6.block b (by omega) hr).trans (hbW.block b hb))
      clear hO6 hL6 z1 hat6 hF6 hb6 hg6 hOW hSW hbW hKW hZW hBs ka1 ka2
      go_wp2_with fail
      go_ret
      have hW7 := ((Wr.of_below (Gs := Gs) HBW.out).trans HX.out).set h4 0 (.slice (some ⟨g6, 0, none⟩) (n + 1) c6)
      have hk7 : ∀ b, b < w.heap.size → some b ≠ (Value.slice A n cap).ownBlock → b ≠ gout → (w6.setCell ⟨gout, 0, none⟩ (.slice (some ⟨g6, 0, none⟩) (n + 1) c6)).heap[b]? = w.heap[b]? := fun b hb hr hg => (Below.heap_setCell w6 ⟨gout, 0, none⟩ _ b hg).trans (HK6.out b hb hr)
      exact at_fin HN.out h3 h4 h6 h7 hBw hW7 (by have := HB6.out.set_ 0 (.slice (some ⟨g6, 0, none⟩) (n + 1) c6); simpa using this) (HO6.out.setFar (a := ⟨gout, 0, none⟩) (fun e => hne6 (by injection e)) _) (HZ6.out.far (p := ⟨gout, 0, none⟩) (by show w.heap.size ≠ gout; omega) _) HG6
        (fun e he => hk7 _ (hlE e he) (fun e2 => (h5 _ e2.symm).2.2 e he rfl) (h6 e he)) HE0.out
  · obtain ⟨k, hk⟩ : ∃ k, E0.length = k := ⟨_, rfl⟩
    have hnk : n = k + 1 := by rw [← hn, hE0]; simp [hk]
    have hEk : E[k]? = some (c0, g0, f0) := by rw [hE0, ← hk]; simp
    rcases h2.blk with ⟨_, e0, _⟩ | ⟨g2, cap2, e2, _, _, _, hL⟩
    · exact absurd e0 (by omega)
    injection e2 with e21 e22 e23
    subst e21 e23
    obtain ⟨p1, p2⟩ := get_plC (outP M E) k (c0, .slice (some ⟨g0, 0, none⟩) (M + 1) (M + 1)) (by unfold outP; rw [List.getElem?_map, hEk]; rfl)
    have y1 : w.cell? ⟨g2, k * 2, none⟩ = some (.int .i64 (c0 : Nat)) := hL.cell p1
    have y2 : w.cell? ⟨g2, k * 2 + 1, none⟩ = some (.slice (some ⟨g0, 0, none⟩) (M + 1) (M + 1)) := hL.cell p2
    have wK : IntKind.i64.wrap ((n : Int) - 1) = (k : Int) := by rw [show (n : Int) - 1 = (k : Int) by omega]; exact wrap_i (by omega) (by omega)
    have hkI : (k : Int) < (n : Int) := by omega
    have hk0 : (0 : Int) ≤ (k : Int) := by omega
    by_cases hc : c0 = c
    · have hcc : ((c0 : Int) == (c : Int)) = true := by rw [hc]; exact beq_self_eq_true _
      have HE := Lib.hid hE0
      have HC := Lib.hid hc
      clear h hn hE0 hc hk hEk p1 p2 hL
      go_enter Try.func59, Try.ntmps59
      go_wp2_with fail
      go_ret
      have e1 : E = E0 ++ [(c, g0, f0)] := by rw [HE.out, HC.out, List.concat_eq_append]
      exact ⟨E0, g0, f0, Gs, rfl, e1 ▸ HSH.out, Wr.refl _ _, CLe.refl _, fun b hb => hb, fun b hb => .inl hb, .inl e1⟩
    · have hcc : ((c0 : Int) == (c : Int)) = false := by rw [beq_eq_false_iff_ne]; omega
      have HE0 : Hid (∀ e, E.getLast? = some e → e.1 ≠ c) := Lib.hid (by rw [hE0]; intro e h; simp at h; rw [← h]; exact hc)
      clear h hn hE0 hc hk hEk p1 p2 hL HSH hnk
      go_enter Try.func59, Try.ntmps59
      go_wp2_with fail
      have hOW : Own F0 (((w.alloc (.cells (zeros (.slice none 0 0) (M + 1)) 49)).alloc (.cells #[.int .i64 (c : Nat), .slice (some ⟨w.heap.size, 0, none⟩) (M + 1) (M + 1)] 59)).drew) B 59 2 (.slice (some ⟨g2, 0, none⟩) n cap) n (plC (outP M E)) := ((h2.alloc _).alloc _).drew
      have hSW : Sat F0 (((w.alloc (.cells (zeros (.slice none 0 0) (M + 1)) 49)).alloc (.cells #[.int .i64 (c : Nat), .slice (some ⟨w.heap.size, 0, none⟩) (M + 1) (M + 1)] 59)).drew) := ((hF0.alloc _).alloc _).drew
      have hbW : Below w.heap.size w (((w.alloc (.cells (zeros (.slice none 0 0) (M + 1)) 49)).alloc (.cells #[.int .i64 (c : Nat), .slice (some ⟨w.heap.size, 0, none⟩) (M + 1) (M + 1)] 59)).drew) := ((balloc w _).alloc (by simp) _).drew
      have hKW : Blk (((w.alloc (.cells (zeros (.slice none 0 0) (M + 1)) 49)).alloc (.cells #[.int .i64 (c : Nat), .slice (some ⟨w.heap.size, 0, none⟩) (M + 1) (M + 1)] 59)).drew) (w.heap.size + 1) 59 #[.int .i64 (c : Nat), .slice (some ⟨w.heap.size, 0, none⟩) (M + 1) (M + 1)] := Blk.new2 w _ _ _
      have hZW : Blk (((w.alloc (.cells (zeros (.slice none 0 0) (M + 1)) 49)).alloc (.cells #[.int .i64 (c : Nat), .slice (some ⟨w.heap.size, 0, none⟩) (M + 1) (M + 1)] 59)).drew) w.heap.size 49 (zeros (.slice none 0 0) (M + 1)) := (Blk.new w 49 _).alloc _
      have hzW : (((w.alloc (.cells (zeros (.slice none 0 0) (M + 1)) 49)).alloc (.cells #[.int .i64 (c : Nat), .slice (some ⟨w.heap.size, 0, none⟩) (M + 1) (M + 1)] 59)).drew).heap.size = w.heap.size + 2 := by show ((w.alloc _).alloc _).heap.size = _; simp
      have hBs : B ≤ (((w.alloc (.cells (zeros (.slice none 0 0) (M + 1)) 49)).alloc (.cells #[.int .i64 (c : Nat), .slice (some ⟨w.heap.size, 0, none⟩) (M + 1) (M + 1)] 59)).drew).heap.size := by rw [hzW]; omega
      have ka1 := ((balloc w (.cells (zeros (.slice none 0 0) (M + 1)) 49)).cell (p := ⟨gout, 0, none⟩) h1.lt).trans k0
      have ka2 : ((w.alloc (.cells (zeros (.slice none 0 0) (M + 1)) 49)).alloc (.cells #[.int .i64 (c : Nat), .slice (some ⟨w.heap.size, 0, none⟩) (M + 1) (M + 1)] 59)).cell? ⟨gout, 0, none⟩ = some (.slice (some ⟨g2, 0, none⟩) n cap) := (hbW.cell (p := ⟨gout, 0, none⟩) h1.lt).trans k0
      go_region_law ((refine step_pushB rfl (.tmp 25) (.tmp 32) (by rfl) hOW (by rfl) hSW (by rfl) _ _ (by rfl) hKW (by omega) hBs ?_; intro v6 w6 hO6 hF6 hb6 hg6 hat6; obtain ⟨A6, c6, hv6, hc6⟩ := hO6.shape; subst hv6; have hB6 := (h1.call hbW).grown hg6 hrow; obtain ⟨q0, q1⟩ := blk1 hB6))
      all_goals
        have hlE : ∀ e ∈ E, e.2.1 < w.heap.size := fun e he => (h3.2 e he).2.lt
        rcases hO6.blk with ⟨_, e0, _⟩ | ⟨g6, cap6, e6, _, hg6B, _, hL6⟩
        · exact absurd e0 (by omega)
        injection e6 with e61 e62 e63
        subst e61 e63
        have HG6 : (g6 ∈ Gs ∧ g6 ≠ gout ∧ ∀ e ∈ E, e.2.1 ≠ g6) ∨ g6 = w.heap.size + 2 := by
          rcases hat6 with e | e
          · exact .inl (h5 g6 e.symm)
          · rw [hzW] at e
            injection e with e
            exact .inr e
        have hgg : gout < w.heap.size := h1.lt
        have hne6 : g6 ≠ gout := by rcases HG6 with e | e; exact e.2.1; omega
        have z1 : w6.cell? ⟨g6, n * 2 + 1, none⟩ = some (.slice (some ⟨w.heap.size, 0, none⟩) (M + 1) (M + 1)) := hL6.cell (by
          rw [List.getElem?_append_right (by rw [length_outC]; have := HN.out; omega), length_outC, HN.out, show n * 2 + 1 - n * 2 = 1 by omega]; rfl)
        have z2 : (w6.setCell ⟨gout, 0, none⟩ (.slice (some ⟨g6, 0, none⟩) (n + 1) c6)).cell? ⟨g6, n * 2 + 1, none⟩ = some (.slice (some ⟨w.heap.size, 0, none⟩) (M + 1) (M + 1)) := cellNe (fun e => hne6 (congrArg Addr.block e).symm) z1
        have HBW := Lib.hid hbW
        have HX := Lib.hid (show Wr Gs (((w.alloc (.cells (zeros (.slice none 0 0) (M + 1)) 49)).alloc (.cells #[.int .i64 (c : Nat), .slice (some ⟨w.heap.size, 0, none⟩) (M + 1) (M + 1)] 59)).drew) w6 from wr_grown hg6 (fun g e => (h5 g e).1))
        have HL6 := Lib.hid hL6
        have HO6 := Lib.hid hO6
        have HB6 := Lib.hid hB6
        have HZ6 := Lib.hid ((hZW).grown hg6 (fun e => absurd (hB1 _ (h5 _ e.symm).1) (by omega)))
        have HK6 := Lib.hid (fun (b : Nat) (hb : b < w.heap.size) (hr : some b ≠ (Value.slice (some ⟨g2, 0, none⟩) n cap).ownBlock) => (hg6.block b (by omega) hr).trans (hbW.block b hb))
        clear hO6 hL6 z1 hat6 hF6 hb6 hg6 hOW hSW hbW hKW hZW hBs ka1 ka2
        go_wp2_with fail
        go_ret
        have hW7 := ((Wr.of_below (Gs := Gs) HBW.out).trans HX.out).set h4 0 (.slice (some ⟨g6, 0, none⟩) (n + 1) c6)
        have hk7 : ∀ b, b < w.heap.size → some b ≠ (Value.slice (some ⟨g2, 0, none⟩) n cap).ownBlock → b ≠ gout → (w6.setCell ⟨gout, 0, none⟩ (.slice (some ⟨g6, 0, none⟩) (n + 1) c6)).heap[b]? = w.heap[b]? := fun b hb hr hg => (Below.heap_setCell w6 ⟨gout, 0, none⟩ _ b hg).trans (HK6.out b hb hr)
        exact at_fin HN.out h3 h4 h6 h7 hBw hW7 (by have := HB6.out.set_ 0 (.slice (some ⟨g6, 0, none⟩) (n + 1) c6); simpa using this) (HO6.out.setFar (a := ⟨gout, 0, none⟩) (fun e => hne6 (by injection e)) _) (HZ6.out.far (p := ⟨gout, 0, none⟩) (by show w.heap.size ≠ gout; omega) _) HG6
          (fun e he => hk7 _ (hlE e he) (fun e2 => (h5 _ e2.symm).2.2 e he rfl) (h6 e he)) HE0.out
end Go.Proofs.Ytaomehlhopiblaa
