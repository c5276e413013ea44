/- The walk of law 29's awake. -/
import Derived.Test.YtdbbooibkiicnaaPlanO
import Derived.Test.YtdbbooibkiicnaaPlanG
import Derived.Test.YtdbbooibkiicnaaPlanC
import Derived.Test.YtdbbooibkiicnaaPileP
set_option linter.unusedVariables false
set_option linter.unusedSimpArgs false
namespace Go.Proofs.Ytdbbooibkiicnaa
open Go.RowKit
/-- The formula that every program must know. -/
def awakeAt : List Nd := [⟨18, ⟨#[]⟩, 0, 0, []⟩, ⟨3, ⟨#[112]⟩, 0, 0, []⟩, ⟨19, ⟨#[]⟩, 0, 0, [1]⟩, ⟨21, ⟨#[]⟩, 0, 0, [0, 2]⟩, ⟨17, ⟨#[]⟩, 0, 1, [3]⟩]
theorem awakeAt_atoms : onT atomsN awakeAt = 2 := by kernel_rfl
theorem awakeAt_place1 : placeL awakeAt 4 1 1 = 1 := by kernel_rfl
theorem awakeAt_place2 : placeL awakeAt 4 2 0 = -1 := by kernel_rfl
theorem awakeAt_tree : ∃ t, treeS (awakeAt.take 4) = some t ∧ regS t.root.kind = true ∧ stepsN t = 1 ∧ ∀ z : Zf, ∀ x, (stateK z t 0).1 0 x = true := by
  refine ⟨_, (by kernel_rfl : treeS (awakeAt.take 4) = some (.bin ⟨21, ⟨#[]⟩, 0, 0, [0, 2]⟩ (.leaf ⟨18, ⟨#[]⟩, 0, 0, []⟩) (.un ⟨19, ⟨#[]⟩, 0, 0, [1]⟩ (.leaf ⟨3, ⟨#[112]⟩, 0, 0, []⟩)))), by kernel_rfl, by kernel_rfl, fun z x => ?_⟩
  rfl
theorem tab_3 : tab 1 (fun _ => true) = [3#64] := by decide +kernel
def awakeAtcells (g1 g2 g3 : Nat) : Array Value := #[.int .i64 18, .string ⟨#[]⟩, .int .i64 0, .int .i64 0, .slice none 0 0, .int .i64 3, .string ⟨#[112]⟩, .int .i64 0, .int .i64 0, .slice none 0 0, .int .i64 19, .string ⟨#[]⟩, .int .i64 0, .int .i64 0, .slice (some ⟨g1, 0, none⟩) 1 1, .int .i64 21, .string ⟨#[]⟩, .int .i64 0, .int .i64 0, .slice (some ⟨g2, 0, none⟩) 2 2, .int .i64 17, .string ⟨#[]⟩, .int .i64 0, .int .i64 1, .slice (some ⟨g3, 0, none⟩) 1 1]
theorem awakeAt_nodes {w : World} {g1 g2 g3 g4 : Nat} (h1 : Blk w g1 3 #[.int .i64 1]) (h2 : Blk w g2 3 #[.int .i64 0, .int .i64 2]) (h3 : Blk w g3 3 #[.int .i64 3])
    (h4 : Blk w g4 29 (awakeAtcells g1 g2 g3)) :
    NodesF (heapF w) (some ⟨g4, 0, none⟩) 5 awakeAt := by
  have hk1 : Rd (heapF w) 1 (some ⟨g1, 0, none⟩) 1 ([(1 : Int)].map (Value.int .i64)) := rd_intsL (ks := [1]) h1
  have hk2 : Rd (heapF w) 1 (some ⟨g2, 0, none⟩) 2 ([(0 : Int), 2].map (Value.int .i64)) := rd_intsL (ks := [0, 2]) h2
  have hk3 : Rd (heapF w) 1 (some ⟨g3, 0, none⟩) 1 ([(3 : Int)].map (Value.int .i64)) := rd_intsL (ks := [3]) h3
  have hv : NodesV (heapF w) awakeAt (awakeAtcells g1 g2 g3).toList :=
    .cons _ _ none 0 _ (Nat.le_refl _) Rd.nil (.cons _ _ none 0 _ (Nat.le_refl _) Rd.nil (.cons _ _ (some ⟨g1, 0, none⟩) 1 _ (Nat.le_refl _) hk1 (.cons _ _ (some ⟨g2, 0, none⟩) 2 _ (Nat.le_refl _) hk2 (.cons _ _ (some ⟨g3, 0, none⟩) 1 [] (Nat.le_refl _) hk3 .nil))))
  refine hv.toF ⟨rfl, fun _ => ⟨_, rfl, fun j u hu => ?_⟩⟩
  rw [add_lit0]
  unfold Fz.cell heapF
  rw [h4]
  simpa using hu
theorem Blk.new3L (w : World) (o o' : Obj) (t : TypeId) (cs : Array Value) : Blk (((w.alloc o).alloc o').alloc (.cells cs t)) (w.heap.size + 2) t cs := by
  have := Blk.new ((w.alloc o).alloc o') t cs
  simpa using this
theorem Blk.new4L (w : World) (o o' o'' : Obj) (t : TypeId) (cs : Array Value) : Blk ((((w.alloc o).alloc o').alloc o'').alloc (.cells cs t)) (w.heap.size + 3) t cs := by
  have := Blk.new (((w.alloc o).alloc o').alloc o'') t cs
  simpa using this
set_option maxRecDepth 100000 in
theorem later_w (w : World) : Calls Try.prog 48 #[] w fun e w' => ∃ g, e = .returned (.slice (some ⟨g, 0, none⟩) 5 5) ∧ Below w.heap.size w w' ∧ NodesF (heapF w') (some ⟨g, 0, none⟩) 5 awakeAt := by
  obtain ⟨N, hN⟩ : ∃ N, N = (((w.alloc (.cells #[.int .i64 1] 3)).alloc (.cells #[.int .i64 0, .int .i64 2] 3)).alloc (.cells #[.int .i64 3] 3)).alloc (.cells (awakeAtcells w.heap.size (w.heap.size + 1) (w.heap.size + 2)) 29) := ⟨_, rfl⟩
  have hb1 : Blk N w.heap.size 3 #[.int .i64 1] := hN ▸ (((Blk.new w 3 #[.int .i64 1]).alloc _).alloc _).alloc _
  have hb2 : Blk N (w.heap.size + 1) 3 #[.int .i64 0, .int .i64 2] := hN ▸ ((Blk.new2 w (.cells #[.int .i64 1] 3) 3 #[.int .i64 0, .int .i64 2]).alloc _).alloc _
  have hb3 : Blk N (w.heap.size + 2) 3 #[.int .i64 3] := hN ▸ (Blk.new3L w (.cells #[.int .i64 1] 3) (.cells #[.int .i64 0, .int .i64 2] 3) 3 #[.int .i64 3]).alloc _
  have hb4 : Blk N (w.heap.size + 3) 29 (awakeAtcells w.heap.size (w.heap.size + 1) (w.heap.size + 2)) := hN ▸ Blk.new4L w (.cells #[.int .i64 1] 3) (.cells #[.int .i64 0, .int .i64 2] 3) (.cells #[.int .i64 3] 3) 29 _
  have hbl : Below w.heap.size w N := hN ▸ ((((balloc _ _).alloc (by simp) _).alloc (by simp; omega) _).alloc (by simp; omega) _)
  have hl := awakeAt_nodes hb1 hb2 hb3 hb4
  have HL := Lib.hid hl
  have HN := Lib.hid hN
  clear hl hN hb1 hb2 hb3 hb4
  go_enter Try.func48, Try.ntmps48
  go_wp2_with fail
  unfold awakeAtcells at HN
  first | rw [← HN.out] | skip
  go_ret
  first | (rw [← HN.out]; exact ⟨w.heap.size + 3, rfl, hbl, HL.out⟩) | exact ⟨w.heap.size + 3, rfl, hbl, HL.out⟩
set_option maxRecDepth 100000 in
set_option maxHeartbeats 2000000 in
theorem awake29_w (w : World) : Calls Try.prog 15 #[] w fun e w' => e = .returned (.bool true) ∧ Below w.heap.size w w' := by
  obtain ⟨t, ht, hr, hM, hO⟩ := awakeAt_tree
  have HX := Lib.hid (fun (X Y : World) (g : Nat) (hX : NodesF (heapF X) (some ⟨g, 0, none⟩) 5 awakeAt) (hY : Y = (X.alloc (.cells #[.int .u64 2] 37)).alloc (.cells #[.slice (some ⟨X.heap.size, 0, none⟩) 1 1] 58)) => (by
    have hb : Below X.heap.size X Y := hY ▸ (balloc _ _).alloc (by simp) _
    have hk1 : Blk Y X.heap.size 37 #[.int .u64 2] := hY ▸ (Blk.new X _ _).alloc _
    have hk2 : Blk Y (X.heap.size + 1) 58 #[.slice (some ⟨X.heap.size, 0, none⟩) 1 1] := hY ▸ Blk.new2 X (.cells #[.int .u64 2] 37) 58 #[.slice (some ⟨X.heap.size, 0, none⟩) 1 1]
    have hd : Rd (heapF Y) 1 (some ⟨X.heap.size, 0, none⟩) 1 ([2#64].map u) := Blk.rdH (xs := [2#64]) (enc := u) hk1
    have h := anext_w (sat_heapF Y) 1 (by omega) (awakeAt.take 4) (by decide) (some ⟨g, 0, none⟩) 4 5 ((hX.pre (k := 4) (by omega)).cle ((sat_heapF X).below hb).cle) ht hr 0 (some ⟨X.heap.size + 1, 0, none⟩) 1 1 (by omega) (fun q x => decide (q = 0) && bitAt [2#64] x)
      ⟨fun q hq => (by
        obtain rfl : q = 0 := by omega
        refine ⟨⟨X.heap.size + 1, 0, none⟩, .slice (some ⟨X.heap.size, 0, none⟩) 1 1, rfl, ?_, some ⟨X.heap.size, 0, none⟩, 1, 1, [2#64], rfl, hd, by decide, fun x _ => by simp⟩
        rw [show (⟨X.heap.size + 1, 0, none⟩ : Addr).add 0 = ⟨X.heap.size + 1, 0, none⟩ by unfold Addr.add; simp]
        exact blk_heapF hk2 rfl), fun q hq x => by simp; omega⟩
    rw [hM] at h
    exact h.mono fun e w' ⟨go, e1, hgo, hb', hZ⟩ => (by
      obtain ⟨v, hc, hv⟩ := hZ.full (j := 0) (by omega)
      have hv2 := hv.same (q := fun _ => true) (fun x _ => hO _ x)
      obtain ⟨_, A, c, rfl, hrd⟩ := hv2
      rw [tab_3] at hrd
      obtain ⟨ad, x, rfl, hx, hcx⟩ := hrd.at1 (k := 0) (by decide)
      have hx : u 3#64 = x := by simpa using hx
      subst hx
      refine ⟨go, ad, c, e1, hb', hc, ?_⟩
      rw [show ad.add 0 = ad by unfold Addr.add; simp] at hcx
      rw [heap_hx] at hcx
      exact (sat_heapF w').cell hcx : ∃ go ad c, e = .returned (.slice (some ⟨go, 0, none⟩) 1 1) ∧ Below Y.heap.size Y w' ∧ w'.cell? ⟨go, 0, none⟩ = some (.slice (some ad) 1 c) ∧ w'.cell? ad = some (.int .u64 3)) : Calls Try.prog 28 #[.int .i64 1, .slice (some ⟨g, 0, none⟩) 4 5, .int .i64 0, .slice (some ⟨X.heap.size + 1, 0, none⟩) 1 1] Y fun e w' => ∃ go ad c, e = .returned (.slice (some ⟨go, 0, none⟩) 1 1) ∧ Below Y.heap.size Y w' ∧ w'.cell? ⟨go, 0, none⟩ = some (.slice (some ad) 1 c) ∧ w'.cell? ad = some (.int .u64 3)))
  clear ht hr hM hO
  go_enter Try.func15, Try.ntmps15
  go_wp2_with fail
  refine (later_w w).mono ?_
  rintro e w1 ⟨g, rfl, hb1, hl1⟩
  obtain ⟨Y, hY⟩ : ∃ Y, Y = (w1.alloc (.cells #[.int .u64 2] 37)).alloc (.cells #[.slice (some ⟨w1.heap.size, 0, none⟩) 1 1] 58) := ⟨_, rfl⟩
  have hbY : Below w1.heap.size w1 Y := hY ▸ (balloc _ _).alloc (by simp) _
  have hlY := hl1.cle ((sat_heapF w1).below hbY).cle
  have HN := Lib.hid (HX.out w1 Y g hl1 hY)
  have HY := Lib.hid hY
  have HCt := Lib.hid (fun (X : World) (h : Sat (heapF Y) X) => acount_w h awakeAt (by decide) _ 5 5 (by decide) hlY 2 awakeAt_atoms)
  have HP1 := Lib.hid (fun (X : World) (h : Sat (heapF Y) X) => aplace_w h awakeAt (by decide) _ 5 5 (by decide) hlY 4 1 1 1 awakeAt_place1)
  have HP2 := Lib.hid (fun (X : World) (h : Sat (heapF Y) X) => aplace_w h awakeAt (by decide) _ 5 5 (by decide) hlY 4 2 0 (-1) awakeAt_place2)
  clear hl1 hlY hY HX
  go_wp2_with fail
  rw [← HY.out]
  refine HN.out.mono ?_
  rintro e w2 ⟨go, ad, c, rfl, hb2, k0, k1⟩
  have hS2 := (sat_heapF Y).below hb2
  have l0 : go < w2.heap.size := by rcases Nat.lt_or_ge go w2.heap.size with h | h
                                    · exact h
                                    · simp [World.cell?, Array.getElem?_eq_none h] at k0
  have l1 : ad.block < w2.heap.size := by rcases Nat.lt_or_ge ad.block w2.heap.size with h | h
                                          · exact h
                                          · simp [World.cell?, Array.getElem?_eq_none h] at k1
  clear HN
  go_wp2_with fail
  refine (HCt.out _ hS2).mono ?_
  rintro e w3 ⟨rfl, hb3⟩
  have hS3 := hS2.below hb3
  go_wp2_with fail
  refine (HP1.out _ hS3).mono ?_
  rintro e w4 ⟨rfl, hb4⟩
  have hS4 := hS3.below hb4
  go_wp2_with fail
  refine (HP2.out _ hS4).mono ?_
  rintro e w5 ⟨rfl, hb5⟩
  have hb25 : Below w2.heap.size w2 w5 := bthen (bthen hb3 hb4) hb5
  have k0' := (hb25.cell (p := ⟨go, 0, none⟩) l0).trans k0
  have k1' := (hb25.cell (p := ad) l1).trans k1
  clear k0 k1
  go_wp2_with fail
  go_ret
  exact ⟨by first | rfl | simp, bthen (bthen (bthen hb1 hbY) hb2) hb25⟩
end Go.Proofs.Ytdbbooibkiicnaa
namespace Go.Proofs.Ytdbbooibkiicnaa
open Go.RowKit
attribute [local go_sem ↓] Go.wp_at_zero Go.wp_at_succ
/-- What add leaves. -/
def RetA (F : Fz) (w0 w : World) (p : List Tr × List Tr) (e : Ending) (w' : World) : Prop :=
  ∃ A c A' c' F', e = .returned (.agg #[.slice A p.1.length c, .slice A' p.2.length c']) ∧ OwnR F' w' w0.heap.size (.slice A p.1.length c) (memL p.1) ∧ OwnR F' w' w0.heap.size (.slice A' p.2.length c') (memL p.2) ∧ Apart (.slice A p.1.length c) (.slice A' p.2.length c') ∧ Below w0.heap.size w w' ∧ Sat F' w' ∧ Fle w0 F F'
theorem far3 {F : Fz} {w : World} {B : Nat} {v : Value} {ls : List (List Nd)} (h : OwnR F w B v ls) {a b c : Addr} (ha : ∀ g, v.ownBlock = some g → g ≠ a.block ∧ g ≠ b.block ∧ g ≠ c.block) (x y z : Value) : OwnR F (((w.setCell a x).setCell b y).setCell c z) B v ls :=
  ((h.setFar (fun e => (ha _ e).1 rfl) x).setFar (fun e => (ha _ e).2.1 rfl) y).setFar (fun e => (ha _ e).2.2 rfl) z
theorem OwnR.rd2 {F : Fz} {w : World} {B : Nat} {A : Option Addr} {n c : Nat} {ls : List (List Nd)} (h : OwnR F w B (.slice A n c) ls) : n = ls.length ∧ n ≤ c ∧ ∃ xs, Rd (heapF w) 1 A n xs ∧ RowsV F ls xs := by
  obtain ⟨A', c', xs, e, h1, h2, h3⟩ := h.rd
  injection e with e1 e2 e3
  subst e1 e2 e3
  exact ⟨rfl, h1, xs, h2, h3⟩
/-- What leaves a pile's row. -/
def RetT (F : Fz) (w : World) (ts : List Tr) (e : Ending) (w' : World) : Prop := ∃ A c F', e = .returned (.slice A ts.length c) ∧ OwnR F' w' w.heap.size (.slice A ts.length c) (memL ts) ∧ Below w.heap.size w w' ∧ Sat F' w' ∧ Fle w F F'
theorem RetR.toT {F : Fz} {w : World} {ts : List Tr} {e : Ending} {w' : World} {ls : List (List Nd)} (h : RetR F w ls e w') (hl : ls = memL ts) : RetT F w ts e w' := by
  subst hl
  unfold RetR at h
  rw [length_memL] at h
  exact h
theorem row_one {F : Fz} {w : World} (hF : Sat F w) {B : Nat} {A : Option Addr} {c : Nat} {t : Tr} {f : List Tr} (hs : totT (t :: f) ≤ 900) (hf : OwnR F w B (.slice A (f.length + 1) c) (memL (t :: f))) (nd : Nd) (Ak : Option Addr) (nk ck : Nat) :
    Calls Try.prog 107 #[.slice A (f.length + 1) c, .agg #[.int .i64 nd.kind, .string nd.name, .int .i64 nd.lo, .int .i64 nd.hi, .slice Ak nk ck]] w (RetT F w (.un nd t :: f)) := by
  rw [memL_cons] at hf
  obtain ⟨_, hc, xs, h1, h2⟩ := hf.rd2
  rw [totT_cons] at hs
  have := totT_len f
  exact (one_w hF (sat_heapF w) (memL f) (t.flat 0) f.length (length_memL f) (by omega) (by rw [Tr.length_flat]; omega) A c xs h1 h2 hc nd Ak nk ck).mono fun e w' h => h.toT (by rw [memL_cons, over_un])
theorem row_two {F : Fz} {w : World} (hF : Sat F w) {B : Nat} {A : Option Addr} {c : Nat} {a b : Tr} {f : List Tr} (hs : totT (b :: a :: f) ≤ 900) (hf : OwnR F w B (.slice A (f.length + 2) c) (memL (b :: a :: f))) (nd : Nd) (Ak : Option Addr) (nk ck : Nat) :
    Calls Try.prog 108 #[.slice A (f.length + 2) c, .agg #[.int .i64 nd.kind, .string nd.name, .int .i64 nd.lo, .int .i64 nd.hi, .slice Ak nk ck]] w (RetT F w (.bin nd a b :: f)) := by
  rw [memL_cons, memL_cons, List.append_assoc] at hf
  obtain ⟨_, hc, xs, h1, h2⟩ := hf.rd2
  rw [totT_cons, totT_cons] at hs
  have := totT_len f
  exact (two_w hF (sat_heapF w) (memL f) (a.flat 0) (b.flat 0) f.length (length_memL f) (by omega) (by rw [Tr.length_flat]; omega) (by rw [Tr.length_flat]; omega) (flat_kids b 0 (by omega)) A c xs h1 h2 hc nd Ak nk ck).mono fun e w' h => h.toT (by rw [memL_cons, over_bin])
theorem blk2 {w : World} {g : Nat} {t : TypeId} {a b : Value} (h : Blk w g t #[a, b]) : w.cell? ⟨g, 0, none⟩ = some a ∧ w.cell? ⟨g, 1, none⟩ = some b ∧ w.frozen? ⟨g, 0, none⟩ = false ∧ w.frozen? ⟨g, 1, none⟩ = false := ⟨h.cell 0, h.cell 1, h.frozen 0, h.frozen 1⟩
theorem oldF {w0 w : World} {F F' : Fz} (h : Fle w F F') (hs : w0.heap.size ≤ w.heap.size) : Fle w0 F F' := h.old hs
theorem own_len (A : Option Addr) (n n' c c' : Nat) : (Value.slice A n c).ownBlock = (Value.slice A n' c').ownBlock := by cases A <;> rfl
theorem Apart.len {v : Value} {A : Option Addr} {n n' c c' : Nat} (h : Apart v (.slice A n c)) : Apart v (.slice A n' c') := fun g h1 h2 => h g h1 (by rw [own_len A n n' c c']; exact h2)
theorem fin3 {F F2 : Fz} {w0 w w2 : World} {vf vr : Value} {lf lr : List (List Nd)} (hO : OwnR F2 w2 w0.heap.size vf lf) (hO' : OwnR F2 w2 w0.heap.size vr lr) (hap : Apart vf vr) (hb : Below w0.heap.size w w2) (hF2 : Sat F2 w2) (hle : Fle w0 F F2) (g : Nat) (hg : w0.heap.size ≤ g) (h1 : F2 g = none) (h2 : F2 (g + 1) = none)
    (hf : ∀ b, vf.ownBlock = some b → b ≠ g ∧ b ≠ g + 1) (hr : ∀ b, vr.ownBlock = some b → b ≠ g ∧ b ≠ g + 1) (i : Nat) (x y z : Value) :
    OwnR F2 (((w2.setCell ⟨g, i, none⟩ x).setCell ⟨g + 1, 0, none⟩ y).setCell ⟨g + 1, 1, none⟩ z) w0.heap.size vf lf ∧ OwnR F2 (((w2.setCell ⟨g, i, none⟩ x).setCell ⟨g + 1, 0, none⟩ y).setCell ⟨g + 1, 1, none⟩ z) w0.heap.size vr lr ∧ Apart vf vr ∧ Below w0.heap.size w (((w2.setCell ⟨g, i, none⟩ x).setCell ⟨g + 1, 0, none⟩ y).setCell ⟨g + 1, 1, none⟩ z) ∧ Sat F2 (((w2.setCell ⟨g, i, none⟩ x).setCell ⟨g + 1, 0, none⟩ y).setCell ⟨g + 1, 1, none⟩ z) ∧ Fle w0 F F2 := by
  have hg' : w0.heap.size ≤ g + 1 := by omega
  exact ⟨far3 hO (fun b h => ⟨(hf b h).1, (hf b h).2, (hf b h).2⟩) x y z, far3 hO' (fun b h => ⟨(hr b h).1, (hr b h).2, (hr b h).2⟩) x y z, hap, ((hb.setCell (p := ⟨g, i, none⟩) hg x).setCell (p := ⟨g + 1, 0, none⟩) hg' y).setCell (p := ⟨g + 1, 1, none⟩) hg' z, ((hF2.setCell (p := ⟨g, i, none⟩) h1 x).setCell (p := ⟨g + 1, 0, none⟩) h2 y).setCell (p := ⟨g + 1, 1, none⟩) h2 z, hle⟩
end Go.Proofs.Ytdbbooibkiicnaa
