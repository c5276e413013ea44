/- The walk of law 29's awake. -/
import Derived.Test.YtdbbooibkiicnaaGreatPlanO
import Derived.Test.YtdbbooibkiicnaaGreatPlanC
set_option linter.unusedVariables false
set_option linter.unusedSimpArgs false
namespace Go.Proofs.YtdbbooibkiicnaaGreat
open Go.RowKit
/-- The formula that every program must know. -/
def awakeAt : List Nd := [⟨18, ⟨#[]⟩, 0, 0, []⟩, ⟨3, ⟨#[112]⟩, 0, 0, []⟩, ⟨19, ⟨#[]⟩, 0, 0, [1]⟩, ⟨21, ⟨#[]⟩, 0, 0, [0, 2]⟩, ⟨17, ⟨#[]⟩, 0, 1, [3]⟩]
def awakeT : Tr := .bin ⟨21, ⟨#[]⟩, 0, 0, []⟩ (.leaf ⟨18, ⟨#[]⟩, 0, 0, []⟩) (.un ⟨19, ⟨#[]⟩, 0, 0, []⟩ (.leaf ⟨3, ⟨#[112]⟩, 0, 0, []⟩))
theorem awakeAt_atoms : onT atomsN awakeAt = 2 := by kernel_rfl
theorem awakeAt_place1 : placeL awakeAt 4 1 1 = 1 := by kernel_rfl
theorem awakeAt_place2 : placeL awakeAt 4 2 0 = -1 := by kernel_rfl
theorem awakeAt_tree : ∃ t, treeS (awakeAt.take 4) = some t ∧ regS t.root.kind = true ∧ stepsN t = 1 ∧ ∀ z : Zf, ∀ x, (stateK z t 0).1 0 x = true := by
  refine ⟨_, (by kernel_rfl : treeS (awakeAt.take 4) = some (.bin ⟨21, ⟨#[]⟩, 0, 0, [0, 2]⟩ (.leaf ⟨18, ⟨#[]⟩, 0, 0, []⟩) (.un ⟨19, ⟨#[]⟩, 0, 0, [1]⟩ (.leaf ⟨3, ⟨#[112]⟩, 0, 0, []⟩)))), by kernel_rfl, by kernel_rfl, fun z x => ?_⟩
  rfl
theorem tab_3 : tab 1 (fun _ => true) = [3#64] := by decide +kernel
theorem rd_intsL {w : World} {g : Nat} {ks : List Int} (h : Blk w g 3 (ks.map (Value.int .i64)).toArray) : Rd (heapF w) 1 (some ⟨g, 0, none⟩) ks.length (ks.map (Value.int .i64)) := by
  refine ⟨by simp, fun _ => ⟨_, rfl, fun j u hu => ?_⟩⟩
  rw [add_lit0]
  unfold Fz.cell heapF
  rw [h]
  simpa using hu
def awakeAtcells (g1 g2 g3 : Nat) : Array Value := #[.int .i64 18, .string ⟨#[]⟩, .int .i64 0, .int .i64 0, .slice none 0 0, .int .i64 3, .string ⟨#[112]⟩, .int .i64 0, .int .i64 0, .slice none 0 0, .int .i64 19, .string ⟨#[]⟩, .int .i64 0, .int .i64 0, .slice (some ⟨g1, 0, none⟩) 1 1, .int .i64 21, .string ⟨#[]⟩, .int .i64 0, .int .i64 0, .slice (some ⟨g2, 0, none⟩) 2 2, .int .i64 17, .string ⟨#[]⟩, .int .i64 0, .int .i64 1, .slice (some ⟨g3, 0, none⟩) 1 1]
theorem awakeAt_nodes {w : World} {g1 g2 g3 g4 : Nat} (h1 : Blk w g1 3 #[.int .i64 1]) (h2 : Blk w g2 3 #[.int .i64 0, .int .i64 2]) (h3 : Blk w g3 3 #[.int .i64 3])
    (h4 : Blk w g4 62 (awakeAtcells g1 g2 g3)) :
    NodesF (heapF w) (some ⟨g4, 0, none⟩) 5 awakeAt := by
  have hk1 : Rd (heapF w) 1 (some ⟨g1, 0, none⟩) 1 ([(1 : Int)].map (Value.int .i64)) := rd_intsL (ks := [1]) h1
  have hk2 : Rd (heapF w) 1 (some ⟨g2, 0, none⟩) 2 ([(0 : Int), 2].map (Value.int .i64)) := rd_intsL (ks := [0, 2]) h2
  have hk3 : Rd (heapF w) 1 (some ⟨g3, 0, none⟩) 1 ([(3 : Int)].map (Value.int .i64)) := rd_intsL (ks := [3]) h3
  have hv : NodesV (heapF w) awakeAt (awakeAtcells g1 g2 g3).toList :=
    .cons _ _ none 0 _ (Nat.le_refl _) Rd.nil (.cons _ _ none 0 _ (Nat.le_refl _) Rd.nil (.cons _ _ (some ⟨g1, 0, none⟩) 1 _ (Nat.le_refl _) hk1 (.cons _ _ (some ⟨g2, 0, none⟩) 2 _ (Nat.le_refl _) hk2 (.cons _ _ (some ⟨g3, 0, none⟩) 1 [] (Nat.le_refl _) hk3 .nil))))
  refine hv.toF ⟨rfl, fun _ => ⟨_, rfl, fun j u hu => ?_⟩⟩
  rw [add_lit0]
  unfold Fz.cell heapF
  rw [h4]
  simpa using hu
theorem Blk.new3L (w : World) (o o' : Obj) (t : TypeId) (cs : Array Value) : Blk (((w.alloc o).alloc o').alloc (.cells cs t)) (w.heap.size + 2) t cs := by
  have := Blk.new ((w.alloc o).alloc o') t cs
  simpa using this
theorem Blk.new4L (w : World) (o o' o'' : Obj) (t : TypeId) (cs : Array Value) : Blk ((((w.alloc o).alloc o').alloc o'').alloc (.cells cs t)) (w.heap.size + 3) t cs := by
  have := Blk.new (((w.alloc o).alloc o').alloc o'') t cs
  simpa using this
set_option maxRecDepth 100000 in
theorem later_w (w : World) : Calls Tryz.prog 27 #[] w fun e w' => ∃ g, e = .returned (.slice (some ⟨g, 0, none⟩) 5 5) ∧ Below w.heap.size w w' ∧ NodesF (heapF w') (some ⟨g, 0, none⟩) 5 awakeAt := by
  obtain ⟨N, hN⟩ : ∃ N, N = (((w.alloc (.cells #[.int .i64 1] 3)).alloc (.cells #[.int .i64 0, .int .i64 2] 3)).alloc (.cells #[.int .i64 3] 3)).alloc (.cells (awakeAtcells w.heap.size (w.heap.size + 1) (w.heap.size + 2)) 62) := ⟨_, rfl⟩
  have hb1 : Blk N w.heap.size 3 #[.int .i64 1] := hN ▸ (((Blk.new w 3 #[.int .i64 1]).alloc _).alloc _).alloc _
  have hb2 : Blk N (w.heap.size + 1) 3 #[.int .i64 0, .int .i64 2] := hN ▸ ((Blk.new2 w (.cells #[.int .i64 1] 3) 3 #[.int .i64 0, .int .i64 2]).alloc _).alloc _
  have hb3 : Blk N (w.heap.size + 2) 3 #[.int .i64 3] := hN ▸ (Blk.new3L w (.cells #[.int .i64 1] 3) (.cells #[.int .i64 0, .int .i64 2] 3) 3 #[.int .i64 3]).alloc _
  have hb4 : Blk N (w.heap.size + 3) 62 (awakeAtcells w.heap.size (w.heap.size + 1) (w.heap.size + 2)) := hN ▸ Blk.new4L w (.cells #[.int .i64 1] 3) (.cells #[.int .i64 0, .int .i64 2] 3) (.cells #[.int .i64 3] 3) 62 _
  have hbl : Below w.heap.size w N := hN ▸ ((((balloc _ _).alloc (by simp) _).alloc (by simp; omega) _).alloc (by simp; omega) _)
  have hl := awakeAt_nodes hb1 hb2 hb3 hb4
  have HL := Lib.hid hl
  have HN := Lib.hid hN
  clear hl hN hb1 hb2 hb3 hb4
  go_enter Tryz.func27, Tryz.ntmps27
  go_wp2_with fail
  unfold awakeAtcells at HN
  first | rw [← HN.out] | skip
  go_ret
  first | (rw [← HN.out]; exact ⟨w.heap.size + 3, rfl, hbl, HL.out⟩) | exact ⟨w.heap.size + 3, rfl, hbl, HL.out⟩
set_option maxRecDepth 100000 in
set_option maxHeartbeats 2000000 in
theorem awake29_w (w : World) : Calls Tryz.prog 7 #[] w fun e w' => e = .returned (.bool true) ∧ Below w.heap.size w w' := by
  obtain ⟨t, ht, hr, hM, hO⟩ := awakeAt_tree
  have HX := Lib.hid (fun (X Y : World) (g : Nat) (hX : NodesF (heapF X) (some ⟨g, 0, none⟩) 5 awakeAt) (hY : Y = (X.alloc (.cells #[.int .u64 2] 44)).alloc (.cells #[.slice (some ⟨X.heap.size, 0, none⟩) 1 1] 33)) => (by
    have hb : Below X.heap.size X Y := hY ▸ (balloc _ _).alloc (by simp) _
    have hk1 : Blk Y X.heap.size 44 #[.int .u64 2] := hY ▸ (Blk.new X _ _).alloc _
    have hk2 : Blk Y (X.heap.size + 1) 33 #[.slice (some ⟨X.heap.size, 0, none⟩) 1 1] := hY ▸ Blk.new2 X (.cells #[.int .u64 2] 44) 33 #[.slice (some ⟨X.heap.size, 0, none⟩) 1 1]
    have hd : Rd (heapF Y) 1 (some ⟨X.heap.size, 0, none⟩) 1 ([2#64].map u) := Blk.rdH (xs := [2#64]) (enc := u) hk1
    have h := anext_w (sat_heapF Y) 1 (by omega) (awakeAt.take 4) (by decide) (some ⟨g, 0, none⟩) 4 5 ((hX.pre (k := 4) (by omega)).cle ((sat_heapF X).below hb).cle) ht hr 0 (some ⟨X.heap.size + 1, 0, none⟩) 1 1 (by omega) (fun q x => decide (q = 0) && bitAt [2#64] x)
      ⟨fun q hq => (by
        obtain rfl : q = 0 := by omega
        refine ⟨⟨X.heap.size + 1, 0, none⟩, .slice (some ⟨X.heap.size, 0, none⟩) 1 1, rfl, ?_, some ⟨X.heap.size, 0, none⟩, 1, 1, [2#64], rfl, hd, by decide, fun x _ => by simp⟩
        rw [show (⟨X.heap.size + 1, 0, none⟩ : Addr).add 0 = ⟨X.heap.size + 1, 0, none⟩ by unfold Addr.add; simp]
        exact blk_heapF hk2 rfl), fun q hq x => by simp; omega⟩
    rw [hM] at h
    exact h.mono fun e w' ⟨go, e1, hgo, hb', hZ⟩ => (by
      obtain ⟨v, hc, hv⟩ := hZ.full (j := 0) (by omega)
      have hv2 := hv.same (q := fun _ => true) (fun x _ => hO _ x)
      obtain ⟨_, A, c, rfl, hrd⟩ := hv2
      rw [tab_3] at hrd
      obtain ⟨ad, x, rfl, hx, hcx⟩ := hrd.at1 (k := 0) (by decide)
      have hx : u 3#64 = x := by simpa using hx
      subst hx
      refine ⟨go, ad, c, e1, hb', hc, ?_⟩
      rw [show ad.add 0 = ad by unfold Addr.add; simp] at hcx
      rw [heap_hx] at hcx
      exact (sat_heapF w').cell hcx : ∃ go ad c, e = .returned (.slice (some ⟨go, 0, none⟩) 1 1) ∧ Below Y.heap.size Y w' ∧ w'.cell? ⟨go, 0, none⟩ = some (.slice (some ad) 1 c) ∧ w'.cell? ad = some (.int .u64 3)) : Calls Tryz.prog 17 #[.int .i64 1, .slice (some ⟨g, 0, none⟩) 4 5, .int .i64 0, .slice (some ⟨X.heap.size + 1, 0, none⟩) 1 1] Y fun e w' => ∃ go ad c, e = .returned (.slice (some ⟨go, 0, none⟩) 1 1) ∧ Below Y.heap.size Y w' ∧ w'.cell? ⟨go, 0, none⟩ = some (.slice (some ad) 1 c) ∧ w'.cell? ad = some (.int .u64 3)))
  clear ht hr hM hO
  go_enter Tryz.func7, Tryz.ntmps7
  go_wp2_with fail
  refine (later_w w).mono ?_
  rintro e w1 ⟨g, rfl, hb1, hl1⟩
  obtain ⟨Y, hY⟩ : ∃ Y, Y = (w1.alloc (.cells #[.int .u64 2] 44)).alloc (.cells #[.slice (some ⟨w1.heap.size, 0, none⟩) 1 1] 33) := ⟨_, rfl⟩
  have hbY : Below w1.heap.size w1 Y := hY ▸ (balloc _ _).alloc (by simp) _
  have hlY := hl1.cle ((sat_heapF w1).below hbY).cle
  have HN := Lib.hid (HX.out w1 Y g hl1 hY)
  have HY := Lib.hid hY
  have HCt := Lib.hid (fun (X : World) (h : Sat (heapF Y) X) => acount_w h awakeAt (by decide) _ 5 5 (by decide) hlY 2 awakeAt_atoms)
  have HP1 := Lib.hid (fun (X : World) (h : Sat (heapF Y) X) => aplace_w h awakeAt (by decide) _ 5 5 (by decide) hlY 4 1 1 1 awakeAt_place1)
  have HP2 := Lib.hid (fun (X : World) (h : Sat (heapF Y) X) => aplace_w h awakeAt (by decide) _ 5 5 (by decide) hlY 4 2 0 (-1) awakeAt_place2)
  clear hl1 hlY hY HX
  go_wp2_with fail
  rw [← HY.out]
  refine HN.out.mono ?_
  rintro e w2 ⟨go, ad, c, rfl, hb2, k0, k1⟩
  have hS2 := (sat_heapF Y).below hb2
  have l0 : go < w2.heap.size := by rcases Nat.lt_or_ge go w2.heap.size with h | h
                                    · exact h
                                    · simp [World.cell?, Array.getElem?_eq_none h] at k0
  have l1 : ad.block < w2.heap.size := by rcases Nat.lt_or_ge ad.block w2.heap.size with h | h
                                          · exact h
                                          · simp [World.cell?, Array.getElem?_eq_none h] at k1
  clear HN
  go_wp2_with fail
  refine (HCt.out _ hS2).mono ?_
  rintro e w3 ⟨rfl, hb3⟩
  have hS3 := hS2.below hb3
  go_wp2_with fail
  refine (HP1.out _ hS3).mono ?_
  rintro e w4 ⟨rfl, hb4⟩
  have hS4 := hS3.below hb4
  go_wp2_with fail
  refine (HP2.out _ hS4).mono ?_
  rintro e w5 ⟨rfl, hb5⟩
  have hb25 : Below w2.heap.size w2 w5 := bthen (bthen hb3 hb4) hb5
  have k0' := (hb25.cell (p := ⟨go, 0, none⟩) l0).trans k0
  have k1' := (hb25.cell (p := ad) l1).trans k1
  clear k0 k1
  go_wp2_with fail
  go_ret
  exact ⟨by first | rfl | simp, bthen (bthen (bthen hb1 hbY) hb2) hb25⟩
end Go.Proofs.YtdbbooibkiicnaaGreat
