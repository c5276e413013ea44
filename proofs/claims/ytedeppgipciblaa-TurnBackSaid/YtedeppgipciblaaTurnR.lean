/- The walk of the reference's Turn. -/
import Derived.Test.YtedeppgipciblaaTurnS
import Derived.Test.YtedeppgipciblaaRReach
import Derived.Test.YtedeppgipciblaaRPart
import Derived.Test.YtedeppgipciblaaOver
import Derived.Test.YtedeppgipciblaaWords
set_option linter.unusedVariables false
set_option linter.unusedSimpArgs false
namespace Go.Proofs.Ytedeppgipciblaa
open Go.RowKit
/-- The place of a number in a list. -/
theorem place_w {F : Fz} {w : World} (hF : Sat F w) (xs ys : List Nat) (x : Nat) (hx : x ∉ xs) (A : Option Addr) (n c : Nat) (hr : Rd F 1 A n ((zs (xs ++ x :: ys)).map encI)) (hn : n ≤ 1000) :
    Calls Try.prog 72 #[.slice A n c, .int .i64 x] w fun e w' => e = .returned (.int .i64 xs.length) ∧ w = w' := by
  have hlen : n = xs.length + 1 + ys.length := by have := hr.1; simp [zs] at this; omega
  go_enter Try.func72, Try.ntmps72
  go_wp2_with fail
  go_loop [5, 8] (fun _ v => ∃ k : Nat, k ≤ xs.length ∧ v = .int .i64 k) (fun _ v => n - (intOf v).toNat)
  case atStart => exact ⟨0, Nat.zero_le _, rfl⟩
  case round =>
    obtain ⟨k, hk, rfl⟩ := hrel
    have hkn : k < n := by omega
    have hkI : (k : Int) < (n : Int) := by omega
    obtain ⟨a1, v, rfl, hv, hcell⟩ := hr.at1 hkn
    have hcz := hF.cell hcell
    by_cases hkx : k < xs.length
    · have hv2 : ((zs (xs ++ x :: ys)).map encI)[k]? = some (encI (xs[k] : Nat)) := by unfold zs; rw [List.map_append, List.map_append, List.getElem?_append_left (by simpa using hkx)]; simp [hkx]
      rw [hv2] at hv
      simp only [Option.some.injEq] at hv
      subst hv
      have hne : xs[k] ≠ x := fun e => hx (e ▸ List.getElem_mem hkx)
      have hneI : (((xs[k] : Nat) : Int) == (x : Int)) = false := by rw [beq_eq_false_iff_ne]; omega
      generalize xs[k] = y at *
      clear hne hv2 hcell
      go_wp2_with fail
      go_round
      case rel => exact ⟨k + 1, by omega, by go_num⟩
      case measure => simp [intOf]; omega
    · obtain rfl : k = xs.length := by omega
      have hv2 : ((zs (xs ++ x :: ys)).map encI)[xs.length]? = some (encI (x : Nat)) := by simp [zs]
      rw [hv2] at hv
      simp only [Option.some.injEq] at hv
      subst hv
      clear hv2 hcell
      go_wp2_with fail
      go_ret
      exact ⟨rfl, rfl⟩
/-- What a function that gives a list of nodes and numbers leaves. -/
def RetTn (w : World) (l : List Nd) (ks : List Int) (e : Ending) (w' : World) : Prop := ∃ A c B d, e = .returned (.tuple #[.slice A l.length c, .slice B ks.length d]) ∧ l.length ≤ c ∧ ks.length ≤ d ∧ NodesF (heapF w') A l.length l ∧ Rd (heapF w') 1 B ks.length (ks.map encI) ∧ Below w.heap.size w w'
theorem retTn_nil {w w' : World} (hb : Below w.heap.size w w') : RetTn w [] [] (.returned (.tuple #[.slice none 0 0, .slice none 0 0])) w' := ⟨none, 0, none, 0, rfl, Nat.le_refl _, Nat.le_refl _, NodesF.nil _ _, Rd.nil, hb⟩
theorem flat_kidsB {t : Tr} (hv : validT t = true) (hn : t.size ≤ 1000) : KidsB (t.flat 0) := by
  obtain ⟨t', h1, _⟩ := tree_of_valid hv
  exact KidsB.of (by rw [Tr.length_flat]; exact hn) h1
theorem overL_leaf (n : Nd) : overL n [] [] = (Tr.leaf n).flat 0 := by simp [overL, overK, Tr.flat]
theorem flat_hdr_un (n : Nd) (k : List Int) (a : Tr) : (Tr.un { n with kids := k } a).flat 0 = (Tr.un n a).flat 0 := rfl
theorem flat_hdr_bin (n : Nd) (k : List Int) (a b : Tr) : (Tr.bin { n with kids := k } a b).flat 0 = (Tr.bin n a b).flat 0 := rfl
theorem flat_hdr_leaf (n : Nd) (k : List Int) : (Tr.leaf { n with kids := k }).flat 0 = (Tr.leaf n).flat 0 := rfl
set_option maxRecDepth 100000 in
set_option maxHeartbeats 1000000 in
theorem turned18_w {F : Fz} {w : World} (hF : Sat F w) (l : List Nd) (A : Option Addr) (n c : Nat) (hl : NodesF F A n l) (i : Nat) (hi : i < l.length) (hk : l[i].kind = 18) (T : Option Addr) (nT cT : Nat) :
    Calls Try.prog 38 #[.slice A n c, .int .i64 i, .slice T nT cT] w (RetTn w ((Tr.leaf l[i]).flat 0) []) := by
  have hO := fun (X : World) (h : Sat F X) (Ak : Option Addr) (nk ck : Nat) => over_w h l[i] Ak nk ck [] [] (by simp) (by simp) none none 0 0 0 0 (NodesF.nil _ _) (NodesF.nil _ _) (fun _ h => by simp at h)
  rw [overL_leaf] at hO
  obtain ⟨rfl, hl2⟩ := hl
  obtain ⟨ad, rfl, hL⟩ := hl2 (by omega)
  obtain ⟨Ak, ck, _, _, hd⟩ := hL i hi
  have hiI : (i : Int) < (l.length : Int) := by omega
  generalize l[i] = nd at *
  obtain ⟨kind, name, lo, hi', kids⟩ := nd
  dsimp only at hk hO
  subst hk
  obtain ⟨c0, c1, c2, c3, c4⟩ := hd.sat hF
  dsimp only at c0 c1 c2 c3 c4
  have hb0 := balloc w (.cells #[.int .i64 18, .string name, .int .i64 lo, .int .i64 hi', .slice Ak kids.length ck] 66)
  have HO := Lib.hid (hO _ (hF.below hb0) Ak kids.length ck)
  clear hO hd
  go_enter Try.func38, Try.ntmps38
  go_wp2_with (go_at_call 64; refine HO.out.mono ?_; rintro e w3 ⟨A3, c3, F3, rfl, hc3, hN3, hw3, hF3, hle3⟩)
  go_ret2
  exact ⟨A3, c3, none, 0, rfl, hc3, Nat.le_refl _, hN3.cle hF3.cle, Rd.nil, bthen hb0 hw3⟩
set_option maxRecDepth 100000 in
set_option maxHeartbeats 1000000 in
theorem turned19_w {F : Fz} {w : World} (hF : Sat F w) (l : List Nd) (hn : l.length ≤ 1000) (A : Option Addr) (n c : Nat) (hc : n ≤ c) (hl : NodesF F A n l) (i : Nat) (hi : i < l.length) (hk : l[i].kind = 19) (T : Option Addr) (nT cT : Nat) (p : List Nd) (hp : partL l (i : Int) = p) (k : Nat) (hk2 : k ≤ 1000)
    (hN : ∀ X, Sat F X → Calls Try.prog 72 #[.slice T nT cT, .int .i64 i] X fun e w' => e = .returned (.int .i64 k) ∧ X = w') :
    Calls Try.prog 38 #[.slice A n c, .int .i64 i, .slice T nT cT] w (RetTn w p [(k : Int)]) := by
  have hP := fun (X : World) (h : Sat F X) => rpart_w h l hn A n c hc hl (i : Int) (by omega) (by omega)
  rw [hp] at hP
  obtain ⟨rfl, hl2⟩ := hl
  obtain ⟨ad, rfl, hL⟩ := hl2 (by omega)
  obtain ⟨Ak, ck, _, _, hd⟩ := hL i hi
  have hiI : (i : Int) < (l.length : Int) := by omega
  generalize l[i] = nd at *
  obtain ⟨kind, name, lo, hi', kids⟩ := nd
  dsimp only at hk
  subst hk
  obtain ⟨c0, c1, c2, c3, c4⟩ := hd.sat hF
  dsimp only at c0 c1 c2 c3 c4
  have hb0 := balloc w (.cells #[.int .i64 19, .string name, .int .i64 lo, .int .i64 hi', .slice Ak kids.length ck] 66)
  have HP := Lib.hid hP
  have HN := Lib.hid hN
  clear hP hN hd hp
  go_enter Try.func38, Try.ntmps38
  go_wp2_with (first
    | (go_at_call 71; refine (HP.out _ (hF.below hb0)).mono ?_; rintro e w3 ⟨A3, c3, F3, rfl, hc3, hN3, hw3, hF3, hle3⟩)
    | (go_at_call 72; refine (HN.out _ ((hF.below hb0).below hw3)).mono ?_; rintro e w4 ⟨rfl, rfl⟩))
  go_ret2
  have hB := Blk.new w3 3 #[.int .i64 k]
  have hbl := bthen hb0 hw3
  refine ⟨A3, c3, some ⟨w3.heap.size, 0, none⟩, 1, rfl, hc3, Nat.le_refl _, hN3.cle (hF3.cle.trans (cle_below (balloc _ _))), ⟨rfl, fun _ => ⟨_, rfl, fun j u hu => ?_⟩⟩, bthen hbl (balloc _ _)⟩
  rw [add_lit0]
  unfold Fz.cell heapF
  rw [hB]
  simpa using hu
set_option maxRecDepth 100000 in
set_option maxHeartbeats 1000000 in
theorem turned22_w {F : Fz} {w : World} (hF : Sat F w) (l : List Nd) (A : Option Addr) (n c : Nat) (hl : NodesF F A n l) (i : Nat) (hi : i < l.length) (hk : l[i].kind = 22) (T : Option Addr) (nT cT : Nat) (ia : Nat) (hkids : l[i].kids = [(ia : Int)]) (a : Tr) (ka : List Int) (hsa : a.size ≤ 1000)
    (hA : ∀ X, Sat F X → Calls Try.prog 38 #[.slice A n c, .int .i64 ia, .slice T nT cT] X (RetTn X (a.flat 0) ka)) :
    Calls Try.prog 38 #[.slice A n c, .int .i64 i, .slice T nT cT] w (RetTn w ((Tr.un l[i] a).flat 0) ka) := by
  have hO := fun (G : Fz) (X : World) (h : Sat G X) (Ak : Option Addr) (nk ck : Nat) (B : Option Addr) (d : Nat) (hB : NodesF G B (a.flat 0).length (a.flat 0)) => over_w h l[i] Ak nk ck (a.flat 0) [] (by rw [Tr.length_flat]; exact hsa) (by simp) B none (a.flat 0).length 0 d 0 hB (NodesF.nil _ _) (fun _ h => by simp at h)
  rw [over_un] at hO
  obtain ⟨rfl, hl2⟩ := hl
  obtain ⟨ad, rfl, hL⟩ := hl2 (by omega)
  obtain ⟨Ak, ck, _, hK, hd⟩ := hL i hi
  have hiI : (i : Int) < (l.length : Int) := by omega
  generalize l[i] = nd at *
  obtain ⟨kind, name, lo, hi', kids⟩ := nd
  dsimp only at hk hkids hO hd hK
  subst hk hkids
  obtain ⟨c0, c1, c2, c3, c4⟩ := hd.sat hF
  obtain ⟨ak, v, rfl, hv, hk0⟩ := hK.at1 (k := 0) (by simp)
  obtain rfl : Value.int .i64 (ia : Int) = v := by simpa using hv
  rw [show ak.add 0 = ak by unfold Addr.add; simp] at hk0
  have c4' : w.cell? ⟨(ad.add (i * 5)).block, (ad.add (i * 5)).off + 4, none⟩ = some (.slice (some ak) 1 ck) := c4
  clear c4
  dsimp only at c0 c1 c2 c3
  have hb0 := balloc w (.cells #[.int .i64 22, .string name, .int .i64 lo, .int .i64 hi', .slice (some ak) 1 ck] 66)
  have hB0 := Blk.new w 66 #[.int .i64 22, .string name, .int .i64 lo, .int .i64 hi', .slice (some ak) 1 ck]
  have hF0 := hF.below hb0
  have y0 := hF0.cell hk0
  have HA := Lib.hid (hA _ hF0)
  obtain ⟨L, hL2⟩ : ∃ L, a.flat 0 = L := ⟨_, rfl⟩
  rw [hL2] at hO HA
  have HO := Lib.hid hO
  clear hO hA hd hv hK hL2
  go_enter Try.func38, Try.ntmps38
  go_wp2_with (first
    | (go_at_call 38; refine HA.out.mono ?_; rintro e w3 ⟨A3, c3, B3, d3, rfl, hc3, hd3, hN3, hR3, hw3⟩; obtain ⟨m0, m1, m2, m3, m4⟩ := blk5 (hB0.call hw3))
    | (go_at_call 64; refine (HO.out _ _ (sat_heapF w3) (some ak) 1 ck A3 c3 hN3).mono ?_; rintro e w4 ⟨A4, c4, F4, rfl, hc4, hN4, hw4, hF4, hle4⟩))
  go_ret2
  have hbl := bthen hb0 hw3
  exact ⟨A4, c4, B3, d3, rfl, hc4, hd3, hN4.cle hF4.cle, hR3.cle (cle_below hw4), bthen hbl hw4⟩
set_option maxRecDepth 100000 in
set_option maxHeartbeats 2000000 in
theorem turned20_w {F : Fz} {w : World} (hF : Sat F w) (l : List Nd) (A : Option Addr) (n c : Nat) (hl : NodesF F A n l) (i : Nat) (hi : i < l.length) (hk : l[i].kind = 20) (T : Option Addr) (nT cT : Nat) (ia ib : Nat) (hab : ia ≠ ib) (hkids : l[i].kids = [(ia : Int), (ib : Int)]) (a b : Tr) (ka kb : List Int) (hsa : a.size ≤ 1000) (hsb : b.size ≤ 1000)
    (hva : validT a = true) (hvb : validT b = true) (hka : ka.length ≤ 1000) (hkb : kb.length ≤ 1000)
    (hA : ∀ X, Sat F X → Calls Try.prog 38 #[.slice A n c, .int .i64 ia, .slice T nT cT] X (RetTn X (a.flat 0) ka))
    (hB : ∀ X, Sat F X → Calls Try.prog 38 #[.slice A n c, .int .i64 ib, .slice T nT cT] X (RetTn X (b.flat 0) kb)) :
    Calls Try.prog 38 #[.slice A n c, .int .i64 i, .slice T nT cT] w (RetTn w ((Tr.bin l[i] a b).flat 0) (ka ++ kb)) := by
  have hO := fun (G : Fz) (X : World) (h : Sat G X) (Ak : Option Addr) (nk ck : Nat) (B : Option Addr) (d : Nat) (hB : NodesF G B (a.flat 0).length (a.flat 0)) (B' : Option Addr) (d' : Nat) (hB' : NodesF G B' (b.flat 0).length (b.flat 0)) => over_w h l[i] Ak nk ck (a.flat 0) (b.flat 0) (by rw [Tr.length_flat]; omega) (by rw [Tr.length_flat]; omega) B B' _ _ d d' hB hB' (flat_kidsB (by assumption) (by omega))
  rw [over_bin] at hO
  have hAB : ∀ X, Sat F X → ∀ (z : Nat) (t : Tr) (k : List Int), (z = ia ∧ t = a ∧ k = ka ∨ z = ib ∧ t = b ∧ k = kb) → Calls Try.prog 38 #[.slice A n c, .int .i64 z, .slice T nT cT] X (RetTn X (t.flat 0) k) := fun X h z t k e => by
    rcases e with ⟨rfl, rfl, rfl⟩ | ⟨rfl, rfl, rfl⟩
    · exact hA X h
    · exact hB X h
  obtain ⟨rfl, hl2⟩ := hl
  obtain ⟨ad, rfl, hL⟩ := hl2 (by omega)
  obtain ⟨Ak, ck, _, hK, hd⟩ := hL i hi
  have hiI : (i : Int) < (l.length : Int) := by omega
  generalize l[i] = nd at *
  obtain ⟨kind, name, lo, hi', kids⟩ := nd
  dsimp only at hk hkids hO hd hK
  subst hk hkids
  obtain ⟨c0, c1, c2, c3, c4⟩ := hd.sat hF
  obtain ⟨ak, v, rfl, hv, hk0⟩ := hK.at1 (k := 0) (by simp)
  obtain rfl : Value.int .i64 (ia : Int) = v := by simpa using hv
  obtain ⟨ak2, v, e2, hv, hk1⟩ := hK.at1 (k := 1) (by simp)
  obtain rfl : Value.int .i64 (ib : Int) = v := by simpa using hv
  injection e2 with e2
  subst e2
  rw [show ak.add 0 = ak by unfold Addr.add; simp] at hk0
  rw [show ak.add 1 = ⟨ak.block, ak.off + 1, none⟩ by simp [Addr.add]] at hk1
  have c4' : w.cell? ⟨(ad.add (i * 5)).block, (ad.add (i * 5)).off + 4, none⟩ = some (.slice (some ak) 2 ck) := c4
  clear c4
  dsimp only at c0 c1 c2 c3
  have hb0 := balloc w (.cells #[.int .i64 20, .string name, .int .i64 lo, .int .i64 hi', .slice (some ak) 2 ck] 66)
  have hB0 := Blk.new w 66 #[.int .i64 20, .string name, .int .i64 lo, .int .i64 hi', .slice (some ak) 2 ck]
  have hF0 := hF.below hb0
  have y0 := hF0.cell hk0
  have HKI0 := Lib.hid hk1
  obtain ⟨La, hLa⟩ : ∃ L, a.flat 0 = L := ⟨_, rfl⟩
  obtain ⟨Lb, hLb⟩ : ∃ L, b.flat 0 = L := ⟨_, rfl⟩
  have hA' := hAB _ hF0 ia a ka (.inl ⟨rfl, rfl, rfl⟩)
  have hB' := fun X h => hAB X h ib b kb (.inr ⟨rfl, rfl, rfl⟩)
  rw [hLa] at hA'
  rw [hLb] at hB'
  rw [hLa, hLb] at hO
  have HA := Lib.hid hA'
  have HB := Lib.hid hB'
  have HO := Lib.hid hO
  obtain ⟨na, hna⟩ : ∃ na, ka.length = na := ⟨_, rfl⟩
  obtain ⟨nb, hnb⟩ : ∃ nb, kb.length = nb := ⟨_, rfl⟩
  have HNA := Lib.hid hna
  have HNB := Lib.hid hnb
  rw [hna] at hka
  rw [hnb] at hkb
  clear hO hA hB hAB hA' hB' hd hv hK hLa hLb hva hvb hna hnb hab hk1
  go_enter Try.func38, Try.ntmps38
  go_wp2_with (first
    | (go_at_call 38; refine (HB.out _ (hF0.below hw3)).mono ?_; rintro e w4 ⟨A4, c4, B4, d4, rfl, hc4, hd4, hN4, hR4, hw4⟩; rw [HNB.out] at hd4 hR4; rw [HNB.out]; obtain ⟨q0, q1, q2, q3, q4⟩ := blk5 ((hB0.call hw3).call hw4); have hN3' := hN3.cle (cle_below hw4); have hR3' := hR3.cle (cle_below hw4))
    | (go_at_call 38; refine HA.out.mono ?_; rintro e w3 ⟨A3, c3, B3, d3, rfl, hc3, hd3, hN3, hR3, hw3⟩; rw [HNA.out] at hd3 hR3; rw [HNA.out]; obtain ⟨m0, m1, m2, m3, m4⟩ := blk5 (hB0.call hw3); have y0' := (hF0.below hw3).cell hk0; have y1' := (hF0.below hw3).cell HKI0.out))
  go_wp2_with (first
    | (go_at_call 64; refine (HO.out _ _ (sat_heapF w4) (some ak) 2 ck A3 c3 hN3' A4 c4 hN4).mono ?_; rintro e w5 ⟨A5, c5, F5, rfl, hc5, hN5, hw5, hF5, hle5⟩; have hE := Own.empty (heapF w5) w5 w5.heap.size 3 1 (w' := w5.alloc (.cells #[] 3)) (sat_heapF w5) rfl (Nat.le_refl _); have hRa := (hR3'.cle (cle_below hw5)); have hRb := (hR4.cle (cle_below hw5)))
    | (at_builtin; refine wpList_allI (xs := []) rfl (.tmp 64) (.tmp 65) rfl hE ((sat_heapF w5).alloc _) (by rfl) B3 _ d3 ka (by rfl) ((sat_heapF w5).alloc _) hRa (by omega) (by simp) ?_; intro v6 w6 hO6 hF6 hb6 hg6 hat6)
    | (at_builtin; go_loud (refine wpList_allI rfl (.tmp 66) (.tmp 67) rfl hO6 hF6 (by rfl) B4 _ d4 kb (by rfl) hF6 hRb (by omega) (by have := hb6.size; simp at this; omega) ?_); intro v7 w7 hO7 hF7 hb7 hg7 hat7))
  rw [List.nil_append] at hO7
  obtain ⟨A7, d7, e7, hd7, hR7⟩ := hO7.rdH
  subst e7
  have HL : (ka ++ kb).length = 0 + na + nb := by rw [List.length_append, HNA.out, HNB.out, Nat.zero_add]
  have hbl := bthen (bthen hb0 hw3) hw4
  have h57 : Below w5.heap.size w5 w7 := ((balloc w5 _).trans hb6).trans hb7
  go_ret2
  exact ⟨A5, c5, A7, d7, by rw [HL]; rfl, hc5, by rw [HL]; exact hd7, hN5.cle (hF5.below h57).cle, by rw [HL]; exact hR7, bthen (bthen hbl hw5) h57⟩
set_option maxRecDepth 100000 in
set_option maxHeartbeats 2000000 in
theorem turned21_w {F : Fz} {w : World} (hF : Sat F w) (l : List Nd) (A : Option Addr) (n c : Nat) (hl : NodesF F A n l) (i : Nat) (hi : i < l.length) (hk : l[i].kind = 21) (T : Option Addr) (nT cT : Nat) (ia ib : Nat) (hab : ia ≠ ib) (hkids : l[i].kids = [(ia : Int), (ib : Int)]) (a b : Tr) (ka kb : List Int) (hsa : a.size ≤ 1000) (hsb : b.size ≤ 1000)
    (hva : validT a = true) (hvb : validT b = true) (hka : ka.length ≤ 1000) (hkb : kb.length ≤ 1000)
    (hA : ∀ X, Sat F X → Calls Try.prog 38 #[.slice A n c, .int .i64 ia, .slice T nT cT] X (RetTn X (a.flat 0) ka))
    (hB : ∀ X, Sat F X → Calls Try.prog 38 #[.slice A n c, .int .i64 ib, .slice T nT cT] X (RetTn X (b.flat 0) kb)) :
    Calls Try.prog 38 #[.slice A n c, .int .i64 i, .slice T nT cT] w (RetTn w ((Tr.bin l[i] b a).flat 0) (kb ++ ka)) := by
  have hO := fun (G : Fz) (X : World) (h : Sat G X) (Ak : Option Addr) (nk ck : Nat) (B : Option Addr) (d : Nat) (hB : NodesF G B (b.flat 0).length (b.flat 0)) (B' : Option Addr) (d' : Nat) (hB' : NodesF G B' (a.flat 0).length (a.flat 0)) => over_w h l[i] Ak nk ck (b.flat 0) (a.flat 0) (by rw [Tr.length_flat]; omega) (by rw [Tr.length_flat]; omega) B B' _ _ d d' hB hB' (flat_kidsB (by assumption) (by omega))
  rw [over_bin] at hO
  have hAB : ∀ X, Sat F X → ∀ (z : Nat) (t : Tr) (k : List Int), (z = ia ∧ t = a ∧ k = ka ∨ z = ib ∧ t = b ∧ k = kb) → Calls Try.prog 38 #[.slice A n c, .int .i64 z, .slice T nT cT] X (RetTn X (t.flat 0) k) := fun X h z t k e => by
    rcases e with ⟨rfl, rfl, rfl⟩ | ⟨rfl, rfl, rfl⟩
    · exact hA X h
    · exact hB X h
  obtain ⟨rfl, hl2⟩ := hl
  obtain ⟨ad, rfl, hL⟩ := hl2 (by omega)
  obtain ⟨Ak, ck, _, hK, hd⟩ := hL i hi
  have hiI : (i : Int) < (l.length : Int) := by omega
  generalize l[i] = nd at *
  obtain ⟨kind, name, lo, hi', kids⟩ := nd
  dsimp only at hk hkids hO hd hK
  subst hk hkids
  obtain ⟨c0, c1, c2, c3, c4⟩ := hd.sat hF
  obtain ⟨ak, v, rfl, hv, hk0⟩ := hK.at1 (k := 0) (by simp)
  obtain rfl : Value.int .i64 (ia : Int) = v := by simpa using hv
  obtain ⟨ak2, v, e2, hv, hk1⟩ := hK.at1 (k := 1) (by simp)
  obtain rfl : Value.int .i64 (ib : Int) = v := by simpa using hv
  injection e2 with e2
  subst e2
  rw [show ak.add 0 = ak by unfold Addr.add; simp] at hk0
  rw [show ak.add 1 = ⟨ak.block, ak.off + 1, none⟩ by simp [Addr.add]] at hk1
  have c4' : w.cell? ⟨(ad.add (i * 5)).block, (ad.add (i * 5)).off + 4, none⟩ = some (.slice (some ak) 2 ck) := c4
  clear c4
  dsimp only at c0 c1 c2 c3
  have hb0 := balloc w (.cells #[.int .i64 21, .string name, .int .i64 lo, .int .i64 hi', .slice (some ak) 2 ck] 66)
  have hB0 := Blk.new w 66 #[.int .i64 21, .string name, .int .i64 lo, .int .i64 hi', .slice (some ak) 2 ck]
  have hF0 := hF.below hb0
  have y0 := hF0.cell hk0
  have HKI0 := Lib.hid hk1
  obtain ⟨La, hLa⟩ : ∃ L, a.flat 0 = L := ⟨_, rfl⟩
  obtain ⟨Lb, hLb⟩ : ∃ L, b.flat 0 = L := ⟨_, rfl⟩
  have hA' := hAB _ hF0 ia a ka (.inl ⟨rfl, rfl, rfl⟩)
  have hB' := fun X h => hAB X h ib b kb (.inr ⟨rfl, rfl, rfl⟩)
  rw [hLa] at hA'
  rw [hLb] at hB'
  rw [hLa, hLb] at hO
  have HA := Lib.hid hA'
  have HB := Lib.hid hB'
  have HO := Lib.hid hO
  obtain ⟨na, hna⟩ : ∃ na, ka.length = na := ⟨_, rfl⟩
  obtain ⟨nb, hnb⟩ : ∃ nb, kb.length = nb := ⟨_, rfl⟩
  have HNA := Lib.hid hna
  have HNB := Lib.hid hnb
  rw [hna] at hka
  rw [hnb] at hkb
  clear hO hA hB hAB hA' hB' hd hv hK hLa hLb hva hvb hna hnb hab hk1
  go_enter Try.func38, Try.ntmps38
  go_wp2_with (first
    | (go_at_call 38; refine (HB.out _ (hF0.below hw3)).mono ?_; rintro e w4 ⟨A4, c4, B4, d4, rfl, hc4, hd4, hN4, hR4, hw4⟩; rw [HNB.out] at hd4 hR4; rw [HNB.out]; obtain ⟨q0, q1, q2, q3, q4⟩ := blk5 ((hB0.call hw3).call hw4); have hN3' := hN3.cle (cle_below hw4); have hR3' := hR3.cle (cle_below hw4))
    | (go_at_call 38; refine HA.out.mono ?_; rintro e w3 ⟨A3, c3, B3, d3, rfl, hc3, hd3, hN3, hR3, hw3⟩; rw [HNA.out] at hd3 hR3; rw [HNA.out]; obtain ⟨m0, m1, m2, m3, m4⟩ := blk5 (hB0.call hw3); have y0' := (hF0.below hw3).cell hk0; have y1' := (hF0.below hw3).cell HKI0.out))
  go_wp2_with (first
    | (go_at_call 64; refine (HO.out _ _ (sat_heapF w4) (some ak) 2 ck A4 c4 hN4 A3 c3 hN3').mono ?_; rintro e w5 ⟨A5, c5, F5, rfl, hc5, hN5, hw5, hF5, hle5⟩; have hE := Own.empty (heapF w5) w5 w5.heap.size 3 1 (w' := w5.alloc (.cells #[] 3)) (sat_heapF w5) rfl (Nat.le_refl _); have hRa := (hR4.cle (cle_below hw5)); have hRb := (hR3'.cle (cle_below hw5)))
    | (at_builtin; refine wpList_allI (xs := []) rfl (.tmp 64) (.tmp 65) rfl hE ((sat_heapF w5).alloc _) (by rfl) B4 _ d4 kb (by rfl) ((sat_heapF w5).alloc _) hRa (by omega) (by simp) ?_; intro v6 w6 hO6 hF6 hb6 hg6 hat6)
    | (at_builtin; go_loud (refine wpList_allI rfl (.tmp 66) (.tmp 67) rfl hO6 hF6 (by rfl) B3 _ d3 ka (by rfl) hF6 hRb (by omega) (by have := hb6.size; simp at this; omega) ?_); intro v7 w7 hO7 hF7 hb7 hg7 hat7))
  rw [List.nil_append] at hO7
  obtain ⟨A7, d7, e7, hd7, hR7⟩ := hO7.rdH
  subst e7
  have HL : (kb ++ ka).length = 0 + nb + na := by rw [List.length_append, HNB.out, HNA.out, Nat.zero_add]
  have hbl := bthen (bthen hb0 hw3) hw4
  have h57 : Below w5.heap.size w5 w7 := ((balloc w5 _).trans hb6).trans hb7
  go_ret2
  exact ⟨A5, c5, A7, d7, by rw [HL]; rfl, hc5, by rw [HL]; exact hd7, hN5.cle (hF5.below h57).cle, by rw [HL]; exact hR7, bthen (bthen hbl hw5) h57⟩
theorem sub_kid {T t : Tr} {o j : Nat} (hs : T.sub (o + t.size - 1) = t) (hi : o + t.size - 1 < T.size) (hj : j < t.size) : T.sub (o + j) = t.sub j := by
  have hp := t.size_pos
  have h := Tr.sub_sub T (o + t.size - 1) j hi (by rw [hs]; exact hj)
  rw [hs] at h
  rw [← h]
  congr 1
  omega
/-- The whole of the reference's turned. -/
theorem turned_w {F : Fz} (l : List Nd) (hn : l.length ≤ 1000) (A : Option Addr) (n c : Nat) (hc : n ≤ c) (hl : NodesF F A n l) {T0 : Tr} (hT0 : treeS l = some T0) (T : Option Addr) (nT cT : Nat) (Tl : List Nat) (hT : Rd F 1 T nT ((zs Tl).map encI)) (hTn : nT ≤ 1000) (hTs : Tl.Pairwise (· < ·)) :
    ∀ (t : Tr) (o : Nat) (pre post : List Nd) (T1 T2 : List Nat), l = pre ++ t.flat o ++ post → pre.length = o → regV t → validT t = true → T0.sub (o + t.size - 1) = t → Tl = T1 ++ testsL t o ++ T2 → ∀ w, Sat F w →
    Calls Try.prog 38 #[.slice A n c, .int .i64 (o + t.size - 1 : Nat), .slice T nT cT] w (RetTn w ((turnT t).flat 0) (zs (ordT t T1.length)))
  | .leaf h, o, pre, post, T1, T2, hl2, hp, hv, hval, hsub, hTl, w, hF => by
    obtain ⟨hi, hg⟩ := get_placed hl2 hp
    have := turned18_w hF l A n c hl _ hi (by rw [hg]; exact hv) T nT cT
    rw [hg] at this
    exact this
  | .un h a, o, pre, post, T1, T2, hl2, hp, hv, hval, hsub, hTl, w, hF => by
    obtain ⟨hi, hg⟩ := get_placed hl2 hp
    have hsz := tree_len hT0
    have hsa := a.size_pos
    by_cases h19 : h.kind = 19
    · have ht : testsL (.un h a) o = [o + a.size] := by simp [testsL, h19]
      rw [ht] at hTl
      have hx : o + a.size ∉ T1 := by
        intro hm
        rw [hTl, List.append_assoc, List.pairwise_append] at hTs
        have := hTs.2.2 _ hm (o + a.size) (by simp)
        omega
      have hlen : nT = Tl.length := by have := hT.1; simp [zs] at this; omega
      have hN := fun X (hX : Sat F X) => place_w hX T1 T2 (o + a.size) hx T nT cT (by rw [show T1 ++ (o + a.size) :: T2 = Tl by rw [hTl]; simp]; exact hT) hTn
      have hpart : partL l ((o + (Tr.un h a).size - 1 : Nat) : Int) = (Tr.un h a).flat 0 := by
        unfold partL
        rw [hT0]
        simp only
        rw [if_pos ⟨by omega, by omega⟩, Int.toNat_natCast, hsub]
      have e1 : turnT (.un h a) = .un h a := by simp [turnT, h19]
      have e2 : zs (ordT (.un h a) T1.length) = [(T1.length : Int)] := by simp [ordT, h19, zs]
      rw [e1, e2]
      refine turned19_w hF l hn A n c hc hl _ hi (by rw [hg]; exact h19) T nT cT _ hpart T1.length (by rw [hlen, hTl] at hTn; simp at hTn; omega) ?_
      intro X hX
      rw [show o + (Tr.un h a).size - 1 = o + a.size by simp [Tr.size]]
      exact hN X hX
    · obtain ⟨h22, hva⟩ := hv.elim (fun e => absurd e h19) id
      simp only [validT, Bool.and_eq_true] at hval
      have ht : testsL (.un h a) o = testsL a o := by simp [testsL, h19]
      rw [ht] at hTl
      have hsub2 : T0.sub (o + a.size - 1) = a := by
        rw [show o + a.size - 1 = o + (a.size - 1) by omega, sub_kid hsub (by rw [← hsz]; exact hi) (by simp [Tr.size]; omega), sub_un, if_pos (by omega)]
        exact Tr.sub_root a
      have ih := turned_w l hn A n c hc hl hT0 T nT cT Tl hT hTn hTs a o pre ({ h with kids := [((o + a.size : Nat) : Int) - 1] } :: post) T1 T2 (by rw [hl2, Tr.flat]; simp) hp hva hval.2 hsub2 hTl
      have hkids : l[o + (Tr.un h a).size - 1].kids = [((o + a.size - 1 : Nat) : Int)] := by
        rw [hg]
        show [((o + a.size : Nat) : Int) - 1] = _
        simp only [List.cons.injEq, and_true]
        omega
      have h3 := congrArg List.length hl2
      simp [Tr.length_flat, Tr.size] at h3
      have := turned22_w hF l A n c hl _ hi (by rw [hg]; exact h22) T nT cT _ hkids (turnT a) _ (by rw [size_turn]; omega) ih
      rw [hg] at this
      have e1 : (turnT (.un h a)).flat 0 = (Tr.un h (turnT a)).flat 0 := by simp [turnT, h19]
      have e2 : ordT (.un h a) T1.length = ordT a T1.length := by simp [ordT, h19]
      rw [e1, e2]
      exact this
  | .bin h a b, o, pre, post, T1, T2, hl2, hp, hv, hval, hsub, hTl, w, hF => by
    obtain ⟨hi, hg⟩ := get_placed hl2 hp
    have hsz := tree_len hT0
    obtain ⟨hk, hva, hvb⟩ := hv
    simp only [validT, Bool.and_eq_true] at hval
    have hsa := a.size_pos
    have hsb := b.size_pos
    have ht : testsL (.bin h a b) o = testsL a o ++ testsL b (o + a.size) := rfl
    rw [ht] at hTl
    have hsubA : T0.sub (o + a.size - 1) = a := by
      rw [show o + a.size - 1 = o + (a.size - 1) by omega, sub_kid hsub (by rw [← hsz]; exact hi) (by simp [Tr.size]; omega), sub_bin, if_pos (by omega)]
      exact Tr.sub_root a
    have hsubB : T0.sub (o + a.size + b.size - 1) = b := by
      rw [show o + a.size + b.size - 1 = o + (a.size + b.size - 1) by omega, sub_kid hsub (by rw [← hsz]; exact hi) (by simp [Tr.size]; omega), sub_bin, if_neg (by omega), if_pos (by omega), show a.size + b.size - 1 - a.size = b.size - 1 by omega]
      exact Tr.sub_root b
    have iha := turned_w l hn A n c hc hl hT0 T nT cT Tl hT hTn hTs a o pre (b.flat (o + a.size) ++ { h with kids := [((o + a.size : Nat) : Int) - 1, ((o + a.size + b.size : Nat) : Int) - 1] } :: post) T1 (testsL b (o + a.size) ++ T2) (by rw [hl2, Tr.flat]; simp) hp hva hval.1.2 hsubA (by rw [hTl]; simp)
    have ihb := turned_w l hn A n c hc hl hT0 T nT cT Tl hT hTn hTs b (o + a.size) (pre ++ a.flat o) ({ h with kids := [((o + a.size : Nat) : Int) - 1, ((o + a.size + b.size : Nat) : Int) - 1] } :: post) (T1 ++ testsL a o) T2 (by rw [hl2, Tr.flat]; simp) (by simp [hp, Tr.length_flat]) hvb hval.2 hsubB (by rw [hTl]; simp)
    rw [List.length_append, length_tests] at ihb
    have hkids : l[o + (Tr.bin h a b).size - 1].kids = [((o + a.size - 1 : Nat) : Int), ((o + a.size + b.size - 1 : Nat) : Int)] := by
      rw [hg]
      show [((o + a.size : Nat) : Int) - 1, ((o + a.size + b.size : Nat) : Int) - 1] = _
      simp only [List.cons.injEq, and_true]
      omega
    have h3 := congrArg List.length hl2
    simp [Tr.length_flat, Tr.size] at h3
    have hta := testsT_le a
    have htb := testsT_le b
    have hzs : ∀ x y : List Nat, zs x ++ zs y = zs (x ++ y) := fun x y => by simp [zs]
    rcases hk with hk | hk
    · have := turned20_w hF l A n c hl _ hi (by rw [hg]; exact hk) T nT cT _ _ (by omega) hkids (turnT a) (turnT b) _ _ (by rw [size_turn]; omega) (by rw [size_turn]; omega) (valid_turn hval.1.2) (valid_turn hval.2) (by rw [length_zs, length_ord]; omega) (by rw [length_zs, length_ord]; omega) iha ihb
      rw [hg, hzs] at this
      have e1 : (turnT (.bin h a b)).flat 0 = (Tr.bin h (turnT a) (turnT b)).flat 0 := by simp [turnT, hk]
      have e2 : ordT (.bin h a b) T1.length = ordT a T1.length ++ ordT b (T1.length + testsT a) := by simp [ordT, hk]
      rw [e1, e2]
      exact this
    · have := turned21_w hF l A n c hl _ hi (by rw [hg]; exact hk) T nT cT _ _ (by omega) hkids (turnT a) (turnT b) _ _ (by rw [size_turn]; omega) (by rw [size_turn]; omega) (valid_turn hval.1.2) (valid_turn hval.2) (by rw [length_zs, length_ord]; omega) (by rw [length_zs, length_ord]; omega) iha ihb
      rw [hg, hzs] at this
      have e1 : (turnT (.bin h a b)).flat 0 = (Tr.bin h (turnT b) (turnT a)).flat 0 := by simp [turnT, hk]
      have e2 : ordT (.bin h a b) T1.length = ordT b (T1.length + testsT a) ++ ordT a T1.length := by simp [ordT, hk]
      rw [e1, e2]
      exact this
set_option maxRecDepth 100000 in
theorem rTurn_w {F : Fz} {w : World} (hF : Sat F w) (l : List Nd) (hn : l.length ≤ 1000) (A : Option Addr) (n c : Nat) (hc : n ≤ c) (hl : NodesF F A n l) :
    Calls Try.prog 11 #[.slice A n c] w (RetTn w (turnL l) (zs (ordL l))) := by
  have hR := fun b hb => rreg_w hF l hn A n c hl b hb
  cases hreg : regL l
  · have HR := Lib.hid (hR _ hreg)
    have HE := Lib.hid (turn_no hreg)
    clear hR hreg hl
    go_enter Try.func11, Try.ntmps11
    go_wp2_with (go_at_call 36; refine HR.out.mono ?_; rintro e w1 ⟨rfl, hw⟩)
    go_ret2
    rw [HE.out.1, HE.out.2]
    exact retTn_nil hw
  · have HR := Lib.hid (hR _ hreg)
    obtain ⟨t, ht, hrk, he⟩ := ownS_yes hreg
    have hval := tree_valid ht
    have hv := regV_of hval hrk
    have htl := tree_len ht
    have hsp := t.size_pos
    have hks : kindS l 19 = testsL t 0 := by unfold kindS; rw [he]; exact ownK_tests (tree_flat ht) hv
    have hTs : (testsL t 0).Pairwise (· < ·) := by rw [← hks]; unfold kindS; rw [he]; exact (own_sorted t 0).filter _
    have hTn : (testsL t 0).length ≤ 1000 := by rw [length_tests]; have := testsT_le t; omega
    have hTT := fun (X : World) (h : Sat F X) => rtests_w h l hn A n c hl
    rw [hks] at hTT
    have hrr := fun (X : World) (hX : Sat F X) (B : Option Addr) (nB cB : Nat) (hr : Rd (heapF X) 1 B nB ((zs (testsL t 0)).map encI)) (hnB : nB ≤ 1000) =>
      turned_w (F := heapF X) l hn A n c hc (hl.cle hX.cle) ht B nB cB (testsL t 0) hr hnB hTs t 0 [] [] [] [] (by simpa using tree_flat ht) rfl hv hval (by rw [Nat.zero_add]; exact Tr.sub_root t) (by simp) X (sat_heapF X)
    rw [Nat.zero_add, List.length_nil] at hrr
    have hpl : ((n : Int) - 1) = ((t.size - 1 : Nat) : Int) := by have := hl.1; omega
    have HPL := Lib.hid hpl
    have hnn : n ≤ 1000 := by have := hl.1; omega
    obtain ⟨e1, e2⟩ := turn_yes ht hrk
    rw [← e1, ← e2] at hrr
    obtain ⟨N, hN⟩ : ∃ N, (zs (testsL t 0)).length = N := ⟨_, rfl⟩
    have HN := Lib.hid hN
    have hN1 : N ≤ 1000 := by rw [← hN, length_zs]; exact hTn
    generalize zs (testsL t 0) = TL at *
    have HTT := Lib.hid hTT
    have HRR := Lib.hid hrr
    clear hR hreg ht hrk he hv htl hsp hks hTs hTn hTT hrr hpl hN hval e1 e2
    go_enter Try.func11, Try.ntmps11
    go_wp2_with (go_at_call 36; refine HR.out.mono ?_; rintro e w1 ⟨rfl, hw1⟩)
    go_at_call 37
    refine (HTT.out _ (hF.below hw1)).mono ?_
    rintro e w2 ⟨B, cB, rfl, hcB, hrB, hw2⟩
    rw [HN.out] at hrB
    rw [HN.out]
    have hw12 := bthen hw1 hw2
    go_wp2_with fail
    rw [HPL.out]
    go_wp2_with (go_at_call 38; refine (HRR.out _ (hF.below hw12) B N cB hrB hN1).mono ?_; rintro e w3 ⟨A3, c3, B3, d3, rfl, hc3, hd3, hN3, hR3, hw3⟩)
    go_ret2
    exact ⟨A3, c3, B3, d3, by rw [length_zs]; rfl, hc3, hd3, hN3, hR3, bthen hw12 hw3⟩
end Go.Proofs.Ytedeppgipciblaa
