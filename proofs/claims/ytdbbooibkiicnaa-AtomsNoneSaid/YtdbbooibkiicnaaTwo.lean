/- The walks of the law's one and two. -/
import Derived.Test.YtdbbooibkiicnaaPileM
set_option linter.unusedVariables false
set_option linter.unusedSimpArgs false
/-! The walks of the law's one and two. -/
namespace Go.Proofs.Ytdbbooibkiicnaa
open Go.RowKit
attribute [local go_sem ↓] Go.wp_at_zero Go.wp_at_succ
theorem one_nil {w : World} (A : Option Addr) (c : Nat) (nd : Nd) (Ak : Option Addr) (nk ck : Nat) :
    Calls Try.prog 107 #[.slice A 0 c, .agg #[.int .i64 nd.kind, .string nd.name, .int .i64 nd.lo, .int .i64 nd.hi, .slice Ak nk ck]] w fun e w' => e = .returned (.slice A 0 c) ∧ Below w.heap.size w w' := by
  go_enter Try.func107, Try.ntmps107
  go_wp2_with fail
  go_ret
  exact ⟨rfl, balloc _ _⟩
set_option maxRecDepth 100000 in
set_option maxHeartbeats 4000000 in
theorem one_w {F G : Fz} {w : World} (hF : Sat F w) (hG : Sat G w) (ls : List (List Nd)) (l : List Nd) (k : Nat) (hk : ls.length = k) (hll : k ≤ 1000) (hl : l.length ≤ 1000) (A : Option Addr) (c : Nat) (xs : List Value) (hr : Rd G 1 A (k + 1) xs) (hv : RowsV F (ls ++ [l]) xs) (hc : k + 1 ≤ c)
    (nd : Nd) (Ak : Option Addr) (nk ck : Nat) :
    Calls Try.prog 107 #[.slice A (k + 1) c, .agg #[.int .i64 nd.kind, .string nd.name, .int .i64 nd.lo, .int .i64 nd.hi, .slice Ak nk ck]] w (RetR F w (ls ++ [overL nd l []])) := by
  obtain ⟨Ai, ci, hci, hNi, hxi⟩ := hv.at_ k (by simp; omega)
  have hgl : (ls ++ [l])[k]'(by simp; omega) = l := by simp [← hk]
  rw [hgl] at hci hNi hxi
  obtain ⟨ad, u, rfl, hu, hcell⟩ := hr.at1 (k := k) (by omega)
  rw [hxi] at hu
  injection hu with hu
  subst hu
  have hpre := hr.pre (k := k) (by omega)
  rw [Nat.mul_one] at hpre
  have hvk := hv.take k
  rw [List.take_left' hk] at hvk
  have hcz := hG.cell hcell
  have hclt := hG.clt hcell
  have HK := Lib.hid hk
  have hO := fun (W : World) (h : Sat F W) => over_w h nd Ak nk ck l [] hl (by simp) Ai none l.length 0 ci 0 hNi (NodesF.nil _ _) (fun n hn => by cases hn)
  have HO := Lib.hid hO
  have hBX := Blk.new w 29 #[.int .i64 nd.kind, .string nd.name, .int .i64 nd.lo, .int .i64 nd.hi, .slice Ak nk ck]
  obtain ⟨b0, b1, b2, b3, b4⟩ := blk5 hBX
  have hck : (k : Int) ≤ (c : Int) := by omega
  have hln1 : ([] : List (List Nd)).length + k ≤ 1000000 := by simp; omega
  have hln2 : ls.length + 1 ≤ 1000000 := by omega
  have hcz2 : (w.alloc (.cells #[.int .i64 nd.kind, .string nd.name, .int .i64 nd.lo, .int .i64 nd.hi, .slice Ak nk ck] 29)).cell? (ad.add k) = some (.slice Ai l.length ci) := (hG.alloc _).cell hcell
  have hk0 : (0 : Int) ≤ (k : Int) := by omega
  have hk1 : (k : Int) < (k : Int) + 1 := by omega
  clear hgl hk hxi hO
  go_enter Try.func107, Try.ntmps107
  go_wp2_with fail
  obtain ⟨N, hN⟩ : ∃ N, N = (w.alloc (.cells #[.int .i64 nd.kind, .string nd.name, .int .i64 nd.lo, .int .i64 nd.hi, .slice Ak nk ck] 29)) := ⟨_, rfl⟩
  have hbN : Below w.heap.size w N := hN ▸ balloc _ _
  have hFN : Sat F N := hF.below hbN
  have hGN : Sat G N := hG.below hbN
  have hzN := hbN.size
  have hNl : w.heap.size < N.heap.size := by rw [hN]; simp
  have hNk : (ad.add k).block < N.heap.size := by omega
  rw [← hN] at b0 b1 b2 b3 b4 hcz2 ⊢
  clear hN hBX
  go_region_held3 (fun w' => w'.cell? ⟨w.heap.size, 0, none⟩ = some (.int .i64 nd.kind) ∧ w'.cell? ⟨w.heap.size, 1, none⟩ = some (.string nd.name) ∧ w'.cell? ⟨w.heap.size, 2, none⟩ = some (.int .i64 nd.lo) ∧ w'.cell? ⟨w.heap.size, 3, none⟩ = some (.int .i64 nd.hi) ∧ w'.cell? ⟨w.heap.size, 4, none⟩ = some (.slice Ak nk ck) ∧ w'.cell? (ad.add k) = some (.slice Ai l.length ci)) (go_keep)
    (first
      | (go_at_call 56; refine (HO.out _ (by first | exact hF1 | exact hFN | exact hFN.alloc _)).mono ?_; rintro e w2 ⟨A2, c2, F2, rfl, hc2, hN2, hw2, hF2, hle2⟩; have hleN : Fle N F F2 := hle2.old (by first | exact hB1.size | exact Nat.le_refl _ | exact (balloc N _).size); have hz2 := hw2.size; (try simp at hz2); have hB2 : Below N.heap.size N w2 := (by refine bel_trans ?_ hw2; first | exact bel_eqv hB1 rfl rfl rfl rfl | exact bel_eqv (Below.refl _ N) rfl rfl rfl rfl | exact bel_eqv (balloc N _) rfl rfl rfl rfl); have s0 := (hB2.cell (p := ⟨w.heap.size, 0, none⟩) hNl).trans b0; have s1 := (hB2.cell (p := ⟨w.heap.size, 1, none⟩) hNl).trans b1; have s2 := (hB2.cell (p := ⟨w.heap.size, 2, none⟩) hNl).trans b2; have s3 := (hB2.cell (p := ⟨w.heap.size, 3, none⟩) hNl).trans b3; have s4 := (hB2.cell (p := ⟨w.heap.size, 4, none⟩) hNl).trans b4; have s5 := (hB2.cell (p := ad.add k) hNk).trans hcz2)
      | ((refine step_allR rfl (.tmp 12) (.tmp 15) (by rfl) (ls := []) (F := F2) (G := G) (B := N.heap.size) (by first | exact OwnR.empty _ hF2 hB2.size | exact (OwnR.empty _ hF2 hB2.size).alloc _ | exact ((OwnR.empty _ hFN (Nat.le_refl _)).le hle2).call hw2 | exact (((OwnR.empty _ hFN (Nat.le_refl _)).le hle2).call hw2).alloc _ | exact OwnR.empty _ (hF2.alloc _) (hB2.alloc hB2.size _).size) (by first | exact hF2 | exact hF2.alloc _ | exact (hF2.alloc _).alloc _) (by rfl) (some ad) k c ls (xs.take k) (by rfl) (by first | exact hGN.below hB2 | exact (hGN.below hB2).alloc _ | exact ((hGN.below hB2).alloc _).alloc _) hpre (hvk.cle hle2.cle) hln1 (by first | exact hB2.size | exact (hB2.alloc hB2.size _).size | exact ((hB2.alloc hB2.size _).alloc (hB2.alloc hB2.size _).size _).size) ?_; intro v1 w1 hO1 hF1 hb1 hg1 hat1; have hB1 : Below N.heap.size N w1 := (by refine Below.trans ?_ hb1; first | exact bel_eqv hB2 rfl rfl rfl rfl | exact bel_eqv (hB2.alloc hB2.size _) rfl rfl rfl rfl | exact bel_eqv ((hB2.alloc hB2.size _).alloc (hB2.alloc hB2.size _).size _) rfl rfl rfl rfl); have s0 := (hB1.cell (p := ⟨w.heap.size, 0, none⟩) hNl).trans b0; have s1 := (hB1.cell (p := ⟨w.heap.size, 1, none⟩) hNl).trans b1; have s2 := (hB1.cell (p := ⟨w.heap.size, 2, none⟩) hNl).trans b2; have s3 := (hB1.cell (p := ⟨w.heap.size, 3, none⟩) hNl).trans b3; have s4 := (hB1.cell (p := ⟨w.heap.size, 4, none⟩) hNl).trans b4; have s5 := (hB1.cell (p := ad.add k) hNk).trans hcz2))
      | ((refine step_allR rfl (.tmp 12) (.tmp 15) (by rfl) (ls := []) (F := F) (G := G) (B := N.heap.size) (by first | exact OwnR.empty _ hFN (Nat.le_refl _)) (by first | exact hFN.alloc _) (by rfl) (some ad) k c ls (xs.take k) (by rfl) (by first | exact hGN.alloc _) hpre hvk hln1 (by simp) ?_; intro v1 w1 hO1 hF1 hb1 hg1 hat1; have hB1 : Below N.heap.size N w1 := (by refine Below.trans ?_ hb1; first | exact bel_eqv (balloc N _) rfl rfl rfl rfl); have s0 := (hB1.cell (p := ⟨w.heap.size, 0, none⟩) hNl).trans b0; have s1 := (hB1.cell (p := ⟨w.heap.size, 1, none⟩) hNl).trans b1; have s2 := (hB1.cell (p := ⟨w.heap.size, 2, none⟩) hNl).trans b2; have s3 := (hB1.cell (p := ⟨w.heap.size, 3, none⟩) hNl).trans b3; have s4 := (hB1.cell (p := ⟨w.heap.size, 4, none⟩) hNl).trans b4; have s5 := (hB1.cell (p := ad.add k) hNk).trans hcz2))
      | ((refine step_allR rfl (.tmp 16) (.tmp 23) (by rfl) (ls := ls) (F := F2) (B := N.heap.size) (by first | exact hO1 | exact hO1.alloc _ | exact ((hO1.le hle2).call hw2).alloc _) (by first | exact hF1 | exact hF1.alloc _ | exact hF2.alloc _) (by rfl) (some ⟨_, 0, none⟩) 1 _ [overL nd l []] [.slice A2 (overL nd l []).length c2] (by rfl) (sat_heapF _) (rd_one (by first | exact Blk.new _ _ _ | exact Blk.new2 _ _ _ _ | exact (Blk.new _ _ _).grown hg1 (own_ne (by omega)) | exact (Blk.new2 _ _ _ _).grown hg1 (own_ne (by omega)) | exact ((Blk.new _ _ _).alloc _).grown hg1 (own_ne (by omega)))) (RowsV.one hc2 hN2) hln2 (by first | exact hB1.size | exact (hB1.alloc hB1.size _).size | exact (hB2.alloc hB2.size _).size) ?_; intro v4 w4 hO4 hF4 hb4 hg4 hat4; obtain ⟨A4, c4, rfl, _⟩ := hO4.shape; have hB4 : Below N.heap.size N w4 := (by refine Below.trans ?_ hb4; first | exact bel_eqv hB1 rfl rfl rfl rfl | exact bel_eqv (hB1.alloc hB1.size _) rfl rfl rfl rfl | exact bel_eqv (hB2.alloc hB2.size _) rfl rfl rfl rfl); have s0 := (hB4.cell (p := ⟨w.heap.size, 0, none⟩) hNl).trans b0; have s1 := (hB4.cell (p := ⟨w.heap.size, 1, none⟩) hNl).trans b1; have s2 := (hB4.cell (p := ⟨w.heap.size, 2, none⟩) hNl).trans b2; have s3 := (hB4.cell (p := ⟨w.heap.size, 3, none⟩) hNl).trans b3; have s4 := (hB4.cell (p := ⟨w.heap.size, 4, none⟩) hNl).trans b4; have s5 := (hB4.cell (p := ad.add k) hNk).trans hcz2)))
  all_goals
    go_wp2_with fail
    go_ret
    exact ⟨A4, c4, F2, by simp, hO4.base hzN, hbN.trans (hB4.mono hzN), hF4, hleN.old hzN⟩
end Go.Proofs.Ytdbbooibkiicnaa
/-! The walk of the law's two. -/
namespace Go.Proofs.Ytdbbooibkiicnaa
open Go.RowKit
attribute [local go_sem ↓] Go.wp_at_zero Go.wp_at_succ
theorem two_few {w : World} (A : Option Addr) (n c : Nat) (hn : n ≤ 1) (nd : Nd) (Ak : Option Addr) (nk ck : Nat) :
    Calls Try.prog 108 #[.slice A n c, .agg #[.int .i64 nd.kind, .string nd.name, .int .i64 nd.lo, .int .i64 nd.hi, .slice Ak nk ck]] w fun e w' => e = .returned (.slice A n c) ∧ Below w.heap.size w w' := by
  obtain rfl | rfl : n = 0 ∨ n = 1 := by omega
  all_goals
    go_enter Try.func108, Try.ntmps108
    go_wp2_with fail
    go_ret
    exact ⟨rfl, balloc _ _⟩
set_option maxRecDepth 100000 in
set_option maxHeartbeats 4000000 in
theorem two_w {F G : Fz} {w : World} (hF : Sat F w) (hG : Sat G w) (ls : List (List Nd)) (l l' : List Nd) (k : Nat) (hk : ls.length = k) (hll : k ≤ 1000) (hl : l.length ≤ 1000) (hl' : l'.length ≤ 1000) (hkb : KidsB l') (A : Option Addr) (c : Nat) (xs : List Value) (hr : Rd G 1 A (k + 2) xs) (hv : RowsV F (ls ++ [l, l']) xs) (hc : k + 2 ≤ c)
    (nd : Nd) (Ak : Option Addr) (nk ck : Nat) :
    Calls Try.prog 108 #[.slice A (k + 2) c, .agg #[.int .i64 nd.kind, .string nd.name, .int .i64 nd.lo, .int .i64 nd.hi, .slice Ak nk ck]] w (RetR F w (ls ++ [overL nd l l'])) := by
  obtain ⟨Ai, ci, hci, hNi, hxi⟩ := hv.at_ k (by simp; omega)
  obtain ⟨Bi, cj, hcj, hNj, hxj⟩ := hv.at_ (k + 1) (by simp; omega)
  have hgl : (ls ++ [l, l'])[k]'(by simp; omega) = l := by simp [← hk]
  have hgl' : (ls ++ [l, l'])[k + 1]'(by simp; omega) = l' := by simp [← hk]
  rw [hgl] at hci hNi hxi
  rw [hgl'] at hcj hNj hxj
  obtain ⟨ad, u, rfl, hu, hcell⟩ := hr.at1 (k := k) (by omega)
  rw [hxi] at hu
  injection hu with hu
  subst hu
  obtain ⟨ad', u, had, hu', hcell'⟩ := hr.at1 (k := k + 1) (by omega)
  injection had with had
  subst had
  rw [hxj] at hu'
  injection hu' with hu'
  subst hu'
  have hpre := hr.pre (k := k) (by omega)
  rw [Nat.mul_one] at hpre
  have hvk := hv.take k
  rw [List.take_left' hk] at hvk
  have hcz := hG.cell hcell
  have hclt := hG.clt hcell
  have HK := Lib.hid hk
  have hO := fun (W : World) (h : Sat F W) => over_w h nd Ak nk ck l l' hl hl' Ai Bi l.length l'.length ci cj hNi hNj hkb
  have HO := Lib.hid hO
  have hBX := Blk.new w 29 #[.int .i64 nd.kind, .string nd.name, .int .i64 nd.lo, .int .i64 nd.hi, .slice Ak nk ck]
  obtain ⟨b0, b1, b2, b3, b4⟩ := blk5 hBX
  have hck : (k : Int) ≤ (c : Int) := by omega
  have hclt' := hG.clt hcell'
  have hcz3 : (w.alloc (.cells #[.int .i64 nd.kind, .string nd.name, .int .i64 nd.lo, .int .i64 nd.hi, .slice Ak nk ck] 29)).cell? ⟨ad.block, ad.off + (k + 1), none⟩ = some (.slice Bi l'.length cj) := by rw [← add_succ]; exact (hG.alloc _).cell hcell'
  have hln1 : ([] : List (List Nd)).length + k ≤ 1000000 := by simp; omega
  have hln2 : ls.length + 1 ≤ 1000000 := by omega
  have hcz2 : (w.alloc (.cells #[.int .i64 nd.kind, .string nd.name, .int .i64 nd.lo, .int .i64 nd.hi, .slice Ak nk ck] 29)).cell? (ad.add k) = some (.slice Ai l.length ci) := (hG.alloc _).cell hcell
  have hk0 : (0 : Int) ≤ (k : Int) := by omega
  have hk1 : (k : Int) < (k : Int) + 2 := by omega
  have hk2 : (0 : Int) ≤ (k : Int) + 1 := by omega
  have hk3 : (k : Int) + 1 < (k : Int) + 2 := by omega
  have hk4 : ((k : Int) + 1).toNat = k + 1 := by omega
  have hk5 : IntKind.i64.wrap ((k : Int) + 1) = (k : Int) + 1 := by rw [IntKind.wrap_i64]; omega
  clear hgl hgl' hk hxi hxj hO
  go_enter Try.func108, Try.ntmps108
  go_wp2_with fail
  obtain ⟨N, hN⟩ : ∃ N, N = (w.alloc (.cells #[.int .i64 nd.kind, .string nd.name, .int .i64 nd.lo, .int .i64 nd.hi, .slice Ak nk ck] 29)) := ⟨_, rfl⟩
  have hbN : Below w.heap.size w N := hN ▸ balloc _ _
  have hFN : Sat F N := hF.below hbN
  have hGN : Sat G N := hG.below hbN
  have hzN := hbN.size
  have hNl : w.heap.size < N.heap.size := by rw [hN]; simp
  have hNk : (ad.add k).block < N.heap.size := by omega
  have hNk' : ad.block < N.heap.size := by rw [block_of_add] at hclt'; omega
  rw [← hN] at b0 b1 b2 b3 b4 hcz2 hcz3 ⊢
  clear hN hBX
  go_region_held3 (fun w' => w'.cell? ⟨w.heap.size, 0, none⟩ = some (.int .i64 nd.kind) ∧ w'.cell? ⟨w.heap.size, 1, none⟩ = some (.string nd.name) ∧ w'.cell? ⟨w.heap.size, 2, none⟩ = some (.int .i64 nd.lo) ∧ w'.cell? ⟨w.heap.size, 3, none⟩ = some (.int .i64 nd.hi) ∧ w'.cell? ⟨w.heap.size, 4, none⟩ = some (.slice Ak nk ck) ∧ w'.cell? (ad.add k) = some (.slice Ai l.length ci) ∧ w'.cell? ⟨ad.block, ad.off + (k + 1), none⟩ = some (.slice Bi l'.length cj)) (go_keep)
    (first
      | (go_at_call 56; refine (HO.out _ (by first | exact hF1 | exact hFN | exact hFN.alloc _)).mono ?_; rintro e w2 ⟨A2, c2, F2, rfl, hc2, hN2, hw2, hF2, hle2⟩; have hleN : Fle N F F2 := hle2.old (by first | exact hB1.size | exact Nat.le_refl _ | exact (balloc N _).size); have hz2 := hw2.size; (try simp at hz2); have hB2 : Below N.heap.size N w2 := (by refine bel_trans ?_ hw2; first | exact bel_eqv hB1 rfl rfl rfl rfl | exact bel_eqv (Below.refl _ N) rfl rfl rfl rfl | exact bel_eqv (balloc N _) rfl rfl rfl rfl); have s0 := (hB2.cell (p := ⟨w.heap.size, 0, none⟩) hNl).trans b0; have s1 := (hB2.cell (p := ⟨w.heap.size, 1, none⟩) hNl).trans b1; have s2 := (hB2.cell (p := ⟨w.heap.size, 2, none⟩) hNl).trans b2; have s3 := (hB2.cell (p := ⟨w.heap.size, 3, none⟩) hNl).trans b3; have s4 := (hB2.cell (p := ⟨w.heap.size, 4, none⟩) hNl).trans b4; have s5 := (hB2.cell (p := ad.add k) hNk).trans hcz2; have s6 := (hB2.cell (p := ⟨ad.block, ad.off + (k + 1), none⟩) hNk').trans hcz3)
      | ((refine step_allR rfl (.tmp 12) (.tmp 15) (by rfl) (ls := []) (F := F2) (G := G) (B := N.heap.size) (by first | exact OwnR.empty _ hF2 hB2.size | exact (OwnR.empty _ hF2 hB2.size).alloc _ | exact ((OwnR.empty _ hFN (Nat.le_refl _)).le hle2).call hw2 | exact (((OwnR.empty _ hFN (Nat.le_refl _)).le hle2).call hw2).alloc _ | exact OwnR.empty _ (hF2.alloc _) (hB2.alloc hB2.size _).size) (by first | exact hF2 | exact hF2.alloc _ | exact (hF2.alloc _).alloc _) (by rfl) (some ad) k c ls (xs.take k) (by rfl) (by first | exact hGN.below hB2 | exact (hGN.below hB2).alloc _ | exact ((hGN.below hB2).alloc _).alloc _) hpre (hvk.cle hle2.cle) hln1 (by first | exact hB2.size | exact (hB2.alloc hB2.size _).size | exact ((hB2.alloc hB2.size _).alloc (hB2.alloc hB2.size _).size _).size) ?_; intro v1 w1 hO1 hF1 hb1 hg1 hat1; have hB1 : Below N.heap.size N w1 := (by refine Below.trans ?_ hb1; first | exact bel_eqv hB2 rfl rfl rfl rfl | exact bel_eqv (hB2.alloc hB2.size _) rfl rfl rfl rfl | exact bel_eqv ((hB2.alloc hB2.size _).alloc (hB2.alloc hB2.size _).size _) rfl rfl rfl rfl); have s0 := (hB1.cell (p := ⟨w.heap.size, 0, none⟩) hNl).trans b0; have s1 := (hB1.cell (p := ⟨w.heap.size, 1, none⟩) hNl).trans b1; have s2 := (hB1.cell (p := ⟨w.heap.size, 2, none⟩) hNl).trans b2; have s3 := (hB1.cell (p := ⟨w.heap.size, 3, none⟩) hNl).trans b3; have s4 := (hB1.cell (p := ⟨w.heap.size, 4, none⟩) hNl).trans b4; have s5 := (hB1.cell (p := ad.add k) hNk).trans hcz2; have s6 := (hB1.cell (p := ⟨ad.block, ad.off + (k + 1), none⟩) hNk').trans hcz3))
      | ((refine step_allR rfl (.tmp 12) (.tmp 15) (by rfl) (ls := []) (F := F) (G := G) (B := N.heap.size) (by first | exact OwnR.empty _ hFN (Nat.le_refl _)) (by first | exact hFN.alloc _) (by rfl) (some ad) k c ls (xs.take k) (by rfl) (by first | exact hGN.alloc _) hpre hvk hln1 (by simp) ?_; intro v1 w1 hO1 hF1 hb1 hg1 hat1; have hB1 : Below N.heap.size N w1 := (by refine Below.trans ?_ hb1; first | exact bel_eqv (balloc N _) rfl rfl rfl rfl); have s0 := (hB1.cell (p := ⟨w.heap.size, 0, none⟩) hNl).trans b0; have s1 := (hB1.cell (p := ⟨w.heap.size, 1, none⟩) hNl).trans b1; have s2 := (hB1.cell (p := ⟨w.heap.size, 2, none⟩) hNl).trans b2; have s3 := (hB1.cell (p := ⟨w.heap.size, 3, none⟩) hNl).trans b3; have s4 := (hB1.cell (p := ⟨w.heap.size, 4, none⟩) hNl).trans b4; have s5 := (hB1.cell (p := ad.add k) hNk).trans hcz2; have s6 := (hB1.cell (p := ⟨ad.block, ad.off + (k + 1), none⟩) hNk').trans hcz3))
      | ((refine step_allR rfl (.tmp 16) (.tmp 28) (by rfl) (ls := ls) (F := F2) (B := N.heap.size) (by first | exact hO1 | exact hO1.alloc _ | exact ((hO1.le hle2).call hw2).alloc _) (by first | exact hF1 | exact hF1.alloc _ | exact hF2.alloc _) (by rfl) (some ⟨_, 0, none⟩) 1 _ [overL nd l l'] [.slice A2 (overL nd l l').length c2] (by rfl) (sat_heapF _) (rd_one (by first | exact Blk.new _ _ _ | exact Blk.new2 _ _ _ _ | exact (Blk.new _ _ _).grown hg1 (own_ne (by omega)) | exact (Blk.new2 _ _ _ _).grown hg1 (own_ne (by omega)) | exact ((Blk.new _ _ _).alloc _).grown hg1 (own_ne (by omega)))) (RowsV.one hc2 hN2) hln2 (by first | exact hB1.size | exact (hB1.alloc hB1.size _).size | exact (hB2.alloc hB2.size _).size) ?_; intro v4 w4 hO4 hF4 hb4 hg4 hat4; obtain ⟨A4, c4, rfl, _⟩ := hO4.shape; have hB4 : Below N.heap.size N w4 := (by refine Below.trans ?_ hb4; first | exact bel_eqv hB1 rfl rfl rfl rfl | exact bel_eqv (hB1.alloc hB1.size _) rfl rfl rfl rfl | exact bel_eqv (hB2.alloc hB2.size _) rfl rfl rfl rfl); have s0 := (hB4.cell (p := ⟨w.heap.size, 0, none⟩) hNl).trans b0; have s1 := (hB4.cell (p := ⟨w.heap.size, 1, none⟩) hNl).trans b1; have s2 := (hB4.cell (p := ⟨w.heap.size, 2, none⟩) hNl).trans b2; have s3 := (hB4.cell (p := ⟨w.heap.size, 3, none⟩) hNl).trans b3; have s4 := (hB4.cell (p := ⟨w.heap.size, 4, none⟩) hNl).trans b4; have s5 := (hB4.cell (p := ad.add k) hNk).trans hcz2; have s6 := (hB4.cell (p := ⟨ad.block, ad.off + (k + 1), none⟩) hNk').trans hcz3)))
  all_goals
    go_wp2_with fail
    go_ret
    exact ⟨A4, c4, F2, by simp, hO4.base hzN, hbN.trans (hB4.mono hzN), hF4, hleN.old hzN⟩
end Go.Proofs.Ytdbbooibkiicnaa
