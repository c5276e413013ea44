/- The walk of merge.Merge. -/
import Derived.Test.YtgmbicjcfhmcdaaMergeV
set_option linter.unusedVariables false
set_option linter.unusedSimpArgs false
/-! The walk of merge.Merge. -/
namespace Go.Proofs.Ytgmbicjcfhmcdaa
open Go.RowKit
attribute [local go_sem ↓] Go.wp_at_zero Go.wp_at_succ
set_option maxRecDepth 100000 in
set_option maxHeartbeats 8000000 in
theorem merge_w {F : Fz} {w : World} (hF : Sat F w) (ls : List TrS) (A : Option Addr) (n c : Nat) (hl : TrsF F A n ls) (hn : n ≤ 20) (hb : ∀ t ∈ ls, t.1.length ≤ 100 ∧ t.2.length ≤ 1000 ∧ ∀ e ∈ t.2, e.ids.length ≤ 1000) :
    Calls Try.prog 9 #[.slice A n c] w (RetMg w (mergeM ls)) := by
  have hUl : (namesT ls).length ≤ 100000 := by
    have h1 := namesT_len ls 100 fun t ht => (hb t ht).1
    have h2 := hl.1
    omega
  have HNA := Lib.hid (fun (X : World) (h : Sat F X) => names32_w h ls A n c hl (by omega) (fun t ht => by have := (hb t ht).1; omega) (namesT ls) rfl hUl)
  have HMY := Lib.hid (fun (X : World) (h : Sat F X) (ss : List ByteArray) (es : List Evt) (An : Option Addr) (nn cn : Nat) (hcn : nn ≤ cn) (hN : Rd F 1 An nn (ss.map Value.string)) (Ae : Option Addr) (ne ce : Nat) (hne : ne ≤ 1000000000) (hE : EvsF F Ae ne es) hid R hR => mayT_w h ss es An nn cn hcn hN Ae ne ce hne hE hid R hR)
  obtain ⟨S, hS⟩ : ∃ S, 0 < n → BaseS F A ls S := by
    by_cases h0 : 0 < n
    · obtain ⟨S, hS⟩ := base_of hl h0
      exact ⟨S, fun _ => hS⟩
    · exact ⟨fun _ => (⟨0, 0, none⟩, 0), fun h => absurd h h0⟩
  have HS := Lib.hid hS
  have HL := Lib.hid hl
  have HLN : Hid (ls.length = n) := Lib.hid hl.1
  have HBD := Lib.hid hb
  have HF := Lib.hid hF
  clear hl hb hF hS hUl
  go_enter Try.func9, Try.ntmps9
  go_wp2_with fail
  obtain ⟨W3, hW3⟩ : ∃ W3, ((w.alloc (.cells #[.slice none 0 0, .slice none 0 0] 27)).alloc (.cells #[] 55)).alloc (.cells #[.slice (some ⟨w.heap.size + 1, 0, none⟩) 0 0] 53) = W3 := ⟨_, rfl⟩
  have HB1 : Hid (Blk W3 w.heap.size 27 #[.slice none 0 0, .slice none 0 0]) := Lib.hid (by rw [← hW3]; exact ((Blk.new w _ _).alloc _).alloc _)
  have HB2 : Hid (Blk W3 (w.heap.size + 1 + 1) 53 #[.slice (some ⟨w.heap.size + 1, 0, none⟩) 0 0]) := Lib.hid (by rw [← hW3]; have := Blk.new ((w.alloc (.cells #[.slice none 0 0, .slice none 0 0] 27)).alloc (.cells #[] 55)) 53 #[.slice (some ⟨w.heap.size + 1, 0, none⟩) 0 0]; simpa using this)
  have HB3 : Hid (Blk W3 (w.heap.size + 1) 55 #[]) := Lib.hid (by rw [← hW3]; have := (Blk.new (w.alloc (.cells #[.slice none 0 0, .slice none 0 0] 27)) 55 #[]).alloc (.cells #[.slice (some ⟨w.heap.size + 1, 0, none⟩) 0 0] 53); simpa using this)
  have HBW : Hid (Below w.heap.size w W3) := Lib.hid (by rw [← hW3]; exact ((balloc _ _).alloc (by simp) _).alloc (by simp; omega) _)
  have HFW : Hid (Sat F W3) := Lib.hid (HF.out.below HBW.out)
  have HOW : Hid (Own F W3 (w.heap.size + 1) 55 2 (.slice (some ⟨w.heap.size + 1, 0, none⟩) 0 0) 0 (linesC S (evsAt ls) (qOf ((ls.take 0).map fun t => t.2) 0))) := Lib.hid (by
    refine ⟨⟨rfl, .inr ⟨w.heap.size + 1, 0, _, rfl, Nat.le_refl _, HB3.out, Nat.le_refl _, by simp [maxLen], rfl, by simp [linesC, qOf]⟩⟩, fun g hg => ?_⟩
    simp [Value.ownBlock] at hg
    subst hg
    exact HF.out.none_ (Nat.le_succ _))
  rw [hW3]
  clear hW3
  go_loopw [5, 6, 15] (fun _ _ v15 wr => ∃ (i k g c : Nat), i ≤ n ∧ v15 = .int .i64 i ∧ k ≤ i ∧ k ≤ c ∧ g ≠ w.heap.size + 1 + 1 ∧ Hid (mayAll (ls.take i) = true) ∧ Hid ((qOf ((ls.take i).map fun t => t.2) 0).length = k) ∧ Blk wr w.heap.size 27 #[.slice none 0 0, .slice none 0 0] ∧ Blk wr (w.heap.size + 1 + 1) 53 #[.slice (some ⟨g, 0, none⟩) k c] ∧ Own F wr (w.heap.size + 1) 55 2 (.slice (some ⟨g, 0, none⟩) k c) k (linesC S (evsAt ls) (qOf ((ls.take i).map fun t => t.2) 0)) ∧ Sat F wr ∧ Below w.heap.size w wr) (fun _ _ v15 _ => n - (intOf v15).toNat)
  case atStart => exact ⟨0, 0, w.heap.size + 1, 0, Nat.zero_le _, rfl, Nat.le_refl _, Nat.le_refl _, by omega, Lib.hid (by simp [mayAll]), Lib.hid (by simp [qOf]), HB1.out, HB2.out, HOW.out, HFW.out, HBW.out⟩
  case round =>
    obtain ⟨i, k, g, c2, hi, rfl, hki, hkc, hgq, HMA, HKL, hB1, hB2, hO, hFr, hbl⟩ := hrel
    clear HB1 HB2 HB3 HOW HFW HBW
    by_cases hlt : i < n
    · have hiI : (i : Int) < (n : Int) := by omega
      have hil : i < ls.length := by rw [HLN.out]; exact hlt
      obtain ⟨ad, rfl, hrow⟩ := HL.out.2 (by omega)
      obtain ⟨An, cn, Ae, ce, hcn, hce, c0, c1, hrn, hev⟩ := hrow i hil
      have hFw : Sat F wr := HF.out.below hbl
      have z0 := hFw.cell c0
      have z1 := hFw.cell c1
      obtain ⟨b1, b2, b3⟩ := HBD.out _ (List.getElem_mem hil)
      have htk : ls.take (i + 1) = ls.take i ++ [ls[i]] := List.take_succ_eq_append_getElem hil
      have hgd : ls.getD i default = ls[i] := by rw [List.getD, List.getElem?_eq_getElem hil]; rfl
      have HSB : Hid (ls[i].2 ≠ [] → (Value.slice Ae ls[i].2.length ce) = .slice (some (S i).1) ls[i].2.length (S i).2) := Lib.hid (fun h0 => by
        obtain ⟨ad', e', hS⟩ := HS.out (by omega)
        injection e' with e'
        subst e'
        have := (hS i hil h0).1
        rw [c1] at this
        injection this)
      have HMA2 : Hid (∀ b, mayT ls[i].1 ls[i].2 = b → mayAll (ls.take (i + 1)) = b) := Lib.hid (fun b hb => by
        have := HMA.out
        unfold mayAll at this ⊢
        rw [htk, List.all_append, this, Bool.true_and, List.all_cons, List.all_nil, Bool.and_true, hb])
      have HMF : Hid (mayT ls[i].1 ls[i].2 = false → mayAll ls = false) := Lib.hid (fun hb => by
        unfold mayAll
        rw [List.all_eq_false]
        exact ⟨_, List.getElem_mem hil, by rw [hb]; simp⟩)
      have HQN : Hid (qOf ((ls.take (i + 1)).map fun t => t.2) 0 = qOf ((ls.take i).map fun t => t.2) 0 ++ if ls[i].2 = [] then [] else [(ls[i].2, i)]) := Lib.hid (by
        rw [htk, List.map_append, List.map_cons, List.map_nil, qOf_snoc]
        rw [List.length_map, List.length_take, Nat.min_eq_left (by omega), Nat.zero_add])
      have HLC : Hid (lnC S (evsAt ls) (ls[i].2, i) = [.slice (some (S i).1) ls[i].2.length (S i).2, .int .i64 (i : Nat)]) := Lib.hid (by
        unfold lnC evsAt
        rw [hgd]
        simp [Addr.add])
      have HM1 := Lib.hid (fun (X : World) (h : Sat F X) (R : Bool) (hR : mayT (ls[i]'hil).1 (ls[i]'hil).2 = R) => HMY.out X h ls[i].1 ls[i].2 An _ cn hcn hrn Ae _ ce (by omega) hev (fun e he => by have := b3 e he; omega) R hR)
      obtain ⟨x1, hx1⟩ : ∃ x, ls[i].1 = x := ⟨_, rfl⟩
      obtain ⟨x2, hx2⟩ : ∃ x, ls[i].2 = x := ⟨_, rfl⟩
      simp only [hx1, hx2] at z0 z1 HSB HMA2 HMF HQN HLC HM1 b2
      obtain ⟨K, hK⟩ : ∃ K, x1.length = K := ⟨_, rfl⟩
      obtain ⟨Q, hQ⟩ : ∃ Q, x2.length = Q := ⟨_, rfl⟩
      rw [hK] at z0 HM1
      rw [hQ] at z1 HM1 HSB HLC b2
      have z1' : wr.cell? ⟨(ad.add (i * 2)).block, (ad.add (i * 2)).off + 1, none⟩ = some (.slice Ae Q ce) := z1
      have HQL := Lib.hid hQ
      have HO := Lib.hid hO
      have HB1 := Lib.hid hB1
      have HB2 := Lib.hid hB2
      have HBL := Lib.hid hbl
      have HFr := Lib.hid hFr
      have HB1' := HB1.out
      clear z1 hrow c0 c1 hrn hev b1 b3 htk hgd hx1 hx2 hK hQ hFw hO hB1 hB2 hbl hFr hil hcn hce
      cases hmy : mayT x1 x2
      · have HMC := Lib.hid (HM1.out (wr.alloc (.cells #[.slice An K cn, .slice Ae Q ce] 27)) (HFr.out.alloc _) false hmy)
        have HFA := Lib.hid (HMF.out hmy)
        have hBA := HB1.out.alloc (.cells #[.slice An K cn, .slice Ae Q ce] 27)
        have HBA : Hid (Below w.heap.size w (wr.alloc (.cells #[.slice An K cn, .slice Ae Q ce] 27))) := Lib.hid (HBL.out.alloc HBL.out.size _)
        clear hmy HB1'
        go_wp2_with (go_at_call 13; refine HMC.out.mono ?_; rintro e w5 ⟨rfl, hb5⟩; have hB5 := hBA.call hb5; obtain ⟨r0, r1, g0, g1⟩ := blk2E hB5)
        have HB5 : Hid (Below w.heap.size w w5) := Lib.hid (bthen HBA.out hb5)
        exact bodyPost_ret (v := .tuple #[.agg #[.slice none 0 0, .slice none 0 0], .int .i64 1]) (by simp [results, Try.results9, go_sem, r0, r1, g0, g1]) rfl (by
          unfold mergeM
          rw [HFA.out]
          exact ⟨none, 0, none, 0, rfl, Nat.le_refl _, Nat.le_refl _, (HB5.out.setCell (p := ⟨w.heap.size, 0, none⟩) (Nat.le_refl _) _).setCell (p := ⟨w.heap.size, 1, none⟩) (Nat.le_refl _) _, Rd.nil, ⟨rfl, fun h => absurd h (Nat.lt_irrefl _)⟩⟩)
      · have HMC := Lib.hid (HM1.out (wr.alloc (.cells #[.slice An K cn, .slice Ae Q ce] 27)) (HFr.out.alloc _) true hmy)
        have HMA3 := Lib.hid (HMA2.out _ hmy)
        have HTB := Lib.hid (Blk.new wr 27 #[.slice An K cn, .slice Ae Q ce])
        have HBA : Hid (Below w.heap.size w (wr.alloc (.cells #[.slice An K cn, .slice Ae Q ce] 27))) := Lib.hid (HBL.out.alloc HBL.out.size _)
        have HBC := Lib.hid (balloc wr (.cells #[.slice An K cn, .slice Ae Q ce] 27))
        clear hmy HB1'
        by_cases hQ0 : Q = 0
        · subst hQ0
          have HX0 : Hid (x2 = []) := Lib.hid (List.eq_nil_of_length_eq_zero HQL.out)
          go_wp2_with (go_at_call 13; refine HMC.out.mono ?_; rintro e w5 ⟨rfl, hb5⟩; have hT5 := HTB.out.call hb5; obtain ⟨t0, t1, _, _⟩ := blk2E hT5)
          have HB5 : Hid (Below wr.heap.size wr w5) := Lib.hid (bthen HBC.out hb5)
          clear hb5 hT5 t0 t1
          go_roundw
          case rel => exact ⟨i + 1, k, g, c2, by omega, by go_num, by omega, hkc, hgq, HMA3, Lib.hid (by rw [HQN.out, if_pos HX0.out, List.append_nil, HKL.out]), HB1.out.call HB5.out, HB2.out.call HB5.out, by rw [HQN.out, if_pos HX0.out, List.append_nil]; exact HO.out.call HB5.out, HFr.out.below HB5.out, bthen HBL.out HB5.out⟩
          case measure => simp [intOf]; omega
        · have hQp : 0 < Q := by omega
          have hQI : (0 : Int) < (Q : Int) := by omega
          have HX0 : Hid (x2 ≠ []) := Lib.hid (fun h => by have := HQL.out; rw [h] at this; simp at this; omega)
          have hse := HSB.out HX0.out
          injection hse with hse1 _ hse3
          subst hse1 hse3
          go_wp2_with (go_at_call 13; refine HMC.out.mono ?_; rintro e w5 ⟨rfl, hb5⟩; have hT5 := HTB.out.call hb5; obtain ⟨t0, t1, _, _⟩ := blk2E hT5)
          have HB5 : Hid (Below wr.heap.size wr w5) := Lib.hid (bthen HBC.out hb5)
          have hP5 := HB2.out.call HB5.out
          have q0 : w5.cell? ⟨w.heap.size + 1 + 1, 0, none⟩ = some (.slice (some ⟨g, 0, none⟩) k c2) := by rw [hP5.cell]; rfl
          have hz5 := hP5.frozen 0
          have HR5 := Lib.hid (HB1.out.call HB5.out)
          have HO5 := Lib.hid (HO.out.call HB5.out)
          have HF5 := Lib.hid (HFr.out.below HB5.out)
          have HBL5 : Hid (Below w.heap.size w w5) := Lib.hid (bthen HBL.out HB5.out)
          have HP5 := Lib.hid hP5
          have hgr := fun g' (h : (Value.slice (some ⟨g, 0, none⟩) k c2).ownBlock = some g') => HO5.out.1.lt g' h
          have hzs := HBL5.out.size
          have hgl := hP5.lt
          clear hb5 hT5 t0 hP5
          go_region_law ((refine step_pushLn rfl (.tmp 31) (.tmp 36) (by rfl) (HO5.out.drew.alloc _) (HF5.out.drew.alloc _) (by rfl) _ _ _ _ _ _ (by rfl) (Blk.new _ _ _) (by omega) (by show w.heap.size + 1 ≤ _; simp; omega) ?_; intro v6 w6 hO6 hF6 hb6 hg6 hat6; obtain ⟨A6, c6, hv6, hc6⟩ := hO6.shape; subst hv6; have hP6 := (Blk.alloc (HP5.out.drewN 1) (.cells #[.slice (some (S i).1) Q (S i).2, .int .i64 (i : Nat)] 55)).grown hg6 (fun e => by injection e with e; exact hgq e.symm); have q6 : w6.cell? ⟨w.heap.size + 1 + 1, 0, none⟩ = some (.slice (some ⟨g, 0, none⟩) k c2) := (by rw [hP6.cell]; rfl); have f6 := hP6.frozen 0))
          all_goals
            have hR6 := ((HR5.out.drewN 1).alloc (.cells #[.slice (some (S i).1) Q (S i).2, .int .i64 (i : Nat)] 55)).below hb6 (Nat.lt_succ_self _)
            obtain ⟨g6, hg6e⟩ := ownAddrN hO6 (Nat.succ_pos _)
            subst hg6e
            have hne6 : g6 ≠ w.heap.size + 1 + 1 := by
              rcases hat6 with e | e
              · have e : some g6 = some g := e
                injection e with e; omega
              · have e : some g6 = some ((w5.drew.alloc (.cells #[.slice (some (S i).1) Q (S i).2, .int .i64 (i : Nat)] 55)).heap.size) := e
                injection e with e; simp at e; omega
            have HR7 := Lib.hid (hR6.far (p := ⟨w.heap.size + 1 + 1, 0, none⟩) (show w.heap.size ≠ w.heap.size + 1 + 1 by omega) (.slice (some ⟨g6, 0, none⟩) (k + 1) c6))
            have HP7 := Lib.hid (hP6.set_ 0 (.slice (some ⟨g6, 0, none⟩) (k + 1) c6))
            have HO7 : Hid (Own F (w6.setCell ⟨w.heap.size + 1 + 1, 0, none⟩ (.slice (some ⟨g6, 0, none⟩) (k + 1) c6)) (w.heap.size + 1) 55 2 (.slice (some ⟨g6, 0, none⟩) (k + 1) c6) (k + 1) (linesC S (evsAt ls) (qOf ((ls.take (i + 1)).map fun t => t.2) 0))) := Lib.hid (by
              rw [HQN.out, if_neg HX0.out, lines_snoc, HLC.out]
              exact hO6.setFar (a := ⟨w.heap.size + 1 + 1, 0, none⟩) (fun e => by injection e with e; exact hne6 e) _)
            have HF7 := Lib.hid (hF6.setCell (p := ⟨w.heap.size + 1 + 1, 0, none⟩) (HF.out.none_ (show w.heap.size ≤ w.heap.size + 1 + 1 by omega)) (.slice (some ⟨g6, 0, none⟩) (k + 1) c6))
            have HB7 : Hid (Below w.heap.size w (w6.setCell ⟨w.heap.size + 1 + 1, 0, none⟩ (.slice (some ⟨g6, 0, none⟩) (k + 1) c6))) := Lib.hid ((((bel_drewM HBL5.out).alloc hzs (.cells #[.slice (some (S i).1) Q (S i).2, .int .i64 (i : Nat)] 55)).trans (hb6.mono (Nat.le_succ _))).setCell (p := ⟨w.heap.size + 1 + 1, 0, none⟩) (show w.heap.size ≤ w.heap.size + 1 + 1 by omega) _)
            clear hR6 hO6 hF6 hb6 hg6 hat6 hP6 q6 f6
            go_wp2_with fail
            go_roundw
            case rel => exact ⟨i + 1, k + 1, g6, c6, by omega, by go_num, by omega, hc6, hne6, HMA3, Lib.hid (by rw [HQN.out, if_neg HX0.out, List.length_append, HKL.out]; rfl), HR7.out, HP7.out, HO7.out, HF7.out, HB7.out⟩
            case measure => simp [intOf]; omega
    · obtain rfl : i = n := by omega
      have hdec : decide ((i : Int) < (i : Int)) = false := decide_eq_false (by omega)
      have hta : ls.take i = ls := by rw [← HLN.out, List.take_length]
      rw [hta] at hO HMA HKL
      have HNC := Lib.hid (HNA.out wr hFr)
      have HO := Lib.hid hO
      have HB1 := Lib.hid hB1
      have HB2 := Lib.hid hB2
      have HBL := Lib.hid hbl
      have HFr := Lib.hid hFr
      obtain ⟨U, hU⟩ : ∃ U, namesT ls = U := ⟨_, rfl⟩
      rw [hU] at HNC
      have HU := Lib.hid hU
      obtain ⟨nu, hnu⟩ : ∃ nu, U.length = nu := ⟨_, rfl⟩
      rw [hnu] at HNC
      have HNU := Lib.hid hnu
      clear hO hB1 hB2 hbl hFr hta hU hnu
      by_cases h64 : 64 < nu
      · have h64I : (64 : Int) < (nu : Int) := by omega
        go_wp2_with (go_at_call 18; refine HNC.out.mono ?_; rintro e w2 ⟨Ao, co, ga, rfl, hco, hb2, hrd2, hpl2, hga, hfra⟩; have hR2 := HB1.out.call hb2; obtain ⟨r0, r1, g0, g1⟩ := blk2E hR2)
        have HB5 : Hid (Below w.heap.size w w2) := Lib.hid (bthen HBL.out hb2)
        exact bodyPost_ret (v := .tuple #[.agg #[.slice none 0 0, .slice none 0 0], .int .i64 4]) (by simp [results, Try.results9, go_sem, r0, r1, g0, g1]) rfl (by
          unfold mergeM
          rw [HMA.out, if_pos rfl, HU.out, HNU.out, if_pos h64]
          exact ⟨none, 0, none, 0, rfl, Nat.le_refl _, Nat.le_refl _, (HB5.out.setCell (p := ⟨w.heap.size, 0, none⟩) (Nat.le_refl _) _).setCell (p := ⟨w.heap.size, 1, none⟩) (Nat.le_refl _) _, Rd.nil, ⟨rfl, fun h => absurd h (Nat.lt_irrefl _)⟩⟩)
      · have h64I : ¬ (64 : Int) < (nu : Int) := by omega
        obtain ⟨xs0, hxs0⟩ : ∃ xs0, qOf (ls.map fun t => t.2) 0 = xs0 := ⟨_, rfl⟩
        rw [hxs0] at HO HKL
        have HXS := Lib.hid hxs0
        have HOK : Hid (∀ x ∈ xs0, LnF F S (evsAt ls) x) := Lib.hid (fun x hx => by
          rw [← hxs0] at hx
          obtain ⟨l, q⟩ := x
          rw [qOf_mem] at hx
          obtain ⟨_, h2, h3, h4⟩ := hx
          rw [Nat.sub_zero, List.length_map] at h2
          rw [Nat.sub_zero] at h3
          have h5 : evsAt ls q = l := by
            rw [← h3]
            unfold evsAt
            rw [List.getD, List.getD, List.getElem?_map, List.getElem?_eq_getElem h2]; rfl
          have h6 : ls[q].2 = l := by
            rw [← h5]; unfold evsAt; rw [List.getD, List.getElem?_eq_getElem h2]; rfl
          obtain ⟨ad, _, hS⟩ := HS.out (by have := HLN.out; omega)
          obtain ⟨s1, s2, s3⟩ := hS q h2 (by rw [h6]; exact h4)
          rw [h6] at s2 s3
          have hb := (HBD.out _ (List.getElem_mem h2)).2.1
          rw [h6] at hb
          refine ⟨h4, by dsimp only; rw [h5]; simp, ?_, ?_, ?_, ?_⟩ <;> dsimp only
          · rw [h5]; exact s3
          · rw [h5]; exact s2
          · rw [h5]; exact hb
          · have := HLN.out; omega)
        have hkb : k ≤ 1000 := by omega
        obtain ⟨gq, hgqe⟩ : ∃ gq, w.heap.size + 1 + 1 = gq := ⟨_, rfl⟩
        rw [hgqe] at HB2 hgq ⊢
        have HGQ := Lib.hid hgqe
        clear hgqe
        have HQ3 : Hid (∀ (X : World) (v : Value), Below wr.heap.size wr X → QM F (X.alloc (.cells #[v, .slice none 0 0] 27)) gq g c2 (w.heap.size + 1) S (evsAt ls) k xs0) := Lib.hid (fun X v hX => ⟨(HB2.out.call hX).alloc _, (HO.out.call hX).alloc _, (HFr.out.below hX).alloc _, fun e => hgq e.symm, HKL.out, HOK.out⟩)
        clear hxs0
        go_wp2_with (first
          | (go_at_call 18; refine HNC.out.mono ?_; rintro e w2 ⟨Ao, co, ga, rfl, hco, hb2, hrd2, hpl2, hga, hfra⟩; have HIN := Lib.hid (qinit_w (HQ3.out w2 (.slice Ao nu co) hb2) hkb))
          | (go_at_call 19; refine HIN.out.mono ?_; rintro e w4 ⟨rfl, hQ4, hW4⟩))
        obtain ⟨gout, hgo⟩ : ∃ gout, w2.heap.size = gout := ⟨_, rfl⟩
        have hgl : w.heap.size + 1 ≤ g := (hQ4.row.1.lt g rfl).1
        have hgw : g < wr.heap.size := (HO.out.1.lt g rfl).2
        have hqw : gq < wr.heap.size := HB2.out.lt
        have hw2s := hb2.size
        have hbA : Below w2.heap.size w2 (w2.alloc (.cells #[.slice Ao nu co, .slice none 0 0] 27)) := balloc _ _
        have hW24 : Wr [gq, g, gout] w2 w4 := (Wr.of_below hbA).trans (hW4.more (by simp))
        have hgqw : w.heap.size ≤ gq := by have := HGQ.out; omega
        have hFno : ∀ g', g' ∈ [gq, g, gout] → F g' = none := fun g' hg' => HF.out.none_ (by have := HBL.out.size; simp at hg'; omega)
        obtain ⟨F2, hF2⟩ : ∃ F2, hx w4 [gq, g, gout] = F2 := ⟨_, rfl⟩
        have hleF : CLe F F2 := hF2 ▸ cle_hx hQ4.sat hFno
        have hS4 : Sat F2 w4 := hF2 ▸ sat_hx w4 _
        have hF2g : F2 g = none := hF2 ▸ hx_in (by simp)
        have hF2q : F2 gq = none := hF2 ▸ hx_in (by simp)
        have hF2o : F2 gout = none := hF2 ▸ hx_in (by simp)
        have HQ0 : Hid (QM F2 w4 gq g c2 (w.heap.size + 1) S (evsAt ls) k (initS (ltL tmV) (k / 2) xs0)) := Lib.hid ⟨hQ4.ptr, ⟨hQ4.row.1, fun g' hg' => by simp [Value.ownBlock] at hg'; subst hg'; exact hF2g⟩, hS4, hQ4.ne, hQ4.len, fun x hx => let ⟨h1, h2, h3, h4, h5, h6⟩ := hQ4.ok x hx; ⟨h1, h2, h3.cle hleF, h4, h5, h6⟩⟩
        have HNM : Hid (Rd F2 1 Ao nu (U.map Value.string)) := Lib.hid (hF2 ▸ (rd_hxM hrd2 (fun a ha h0 => by have h1 := hfra a ha; have h2 := rd_lt hrd2 h0 a ha; simp; omega)).cle hW24.cle)
        have HPL : Hid (∀ q (h : q < ls.length), ∃ A c, F2.cell ⟨ga, q, none⟩ = some (.slice A ls[q].1.length c) ∧ Rd F2 1 A ls[q].1.length ((ls[q].1.map (idxS U)).map encI)) := Lib.hid (fun q hq => by
          obtain ⟨us, h1, h2, h3, _, _⟩ := hpl2
          obtain ⟨A', c', e1, e2, e3⟩ := h3 q hq (by have := HLN.out; omega)
          refine ⟨A', c', ?_, hF2 ▸ (rd_hxM e2 (fun a ha h0 => by have h1 := e3 a ha; have h2 := rd_lt e2 h0 a ha; simp; omega)).cle hW24.cle⟩
          have hga2 := h1.lt
          have h4 := hW24.blk h1 (by simp; omega)
          rw [← hF2]
          unfold Fz.cell
          dsimp only
          rw [hx_out (by simp; omega), h4]
          simpa using e1)
        have HG4 : Hid (Blk w4 gout 27 #[.slice Ao nu co, .slice none 0 0]) := Lib.hid (by
          have := hW4.blk (Blk.new w2 27 #[.slice Ao nu co, .slice none 0 0]) (by simp; omega)
          rw [hgo] at this; exact this)
        have HR4 : Hid (Blk w4 w.heap.size 27 #[.slice none 0 0, .slice none 0 0]) := Lib.hid (hW4.blk ((HB1.out.call hb2).alloc _) (by simp; omega))
        have HB4 : Hid (Below w.heap.size w w4) := Lib.hid ((bthen HBL.out hb2).trans (hW24.below (B := w.heap.size) (fun g' hg' => by simp at hg'; omega) (by have := HBL.out.size; omega)))
        have HP0 : Hid ((initS (ltL tmV) (k / 2) xs0).Perm (qOf (ls.map fun t => t.2) 0)) := Lib.hid (by rw [HXS.out]; exact init_perm _ _)
        have HH0 : Hid (HeapS (ltL tmV) (initS (ltL tmV) (k / 2) xs0) 0 k) := Lib.hid (by have h := init_all (ltS_ltL tmV) xs0; rw [HKL.out] at h; exact h)
        obtain ⟨TOT, hTOT⟩ : ∃ T, (mergeT ls).2.length = T := ⟨_, rfl⟩
        have HTOT := Lib.hid hTOT
        have HAR : Hid (∀ a, Ao = some a → w.heap.size < a.block) := Lib.hid (fun a ha => by have := hfra a ha; omega)
        have hTb : TOT ≤ 100000 := by
          have h1 := mergeT_len ls 1000 fun t ht => (HBD.out t ht).2.1
          have h2 := HLN.out
          omega
        have HFB : Hid (∀ b o, F2 b = some o → b < w4.heap.size) := Lib.hid (fun b o h => HQ0.out.sat.lt h)
        have HE0 : Hid (([] : List Evt) ++ (mergeS tmV (sumLn (ls.map fun t => t.2)) (ls.map fun t => t.2)).map (mvE U ls) = (mergeT ls).2) := Lib.hid (by rw [← HU.out]; rfl)
        have hg4 : gout < w4.heap.size := HG4.out.lt
        have HFG := Lib.hid hF2g
        have HFQ := Lib.hid hF2q
        have HFO := Lib.hid hF2o
        have HGO := Lib.hid hgo
        have HLEF := Lib.hid hleF
        rw [hgo]
        have hqw4 : gq < w4.heap.size := by omega
        have hgw4 : g < w4.heap.size := by omega
        have hwgo : w.heap.size < gout := by omega
        have hgog : gout ≠ g := by omega
        have hgoq : gout ≠ gq := by omega
        have hz4 : w.heap.size < w4.heap.size := HR4.out.lt
        clear hQ4 hW4 hb2 hrd2 hpl2 hbA hW24 hFno hF2 hleF hS4 hF2g hF2q hF2o hTOT hgo HB1 HB2 HO HFr HQ3 HNC HKL HOK HXS HIN
        go_loopw [10] (fun _ wr => ∃ (R : List (List Evt)) (xs : List Ln) (kk : Nat) (ev : List Evt) (Av : Option Addr) (L cv : Nat), QM F2 wr gq g c2 (w.heap.size + 1) S (evsAt ls) kk xs ∧ kk ≤ 1000 ∧ kk ≤ c2 ∧ Hid (xs.Perm (qOf R 0)) ∧ Hid (HeapS (ltL tmV) xs 0 kk) ∧ Hid (ev ++ (mergeS tmV (sumLn R) R).map (mvE U ls) = (mergeT ls).2) ∧ Hid (ev.length = L) ∧ L ≤ cv ∧ Blk wr gout 27 #[.slice Ao nu co, .slice Av L cv] ∧ OwnE wr w4.heap.size (.slice Av L cv) ev ∧ Blk wr w.heap.size 27 #[.slice none 0 0, .slice none 0 0] ∧ Below w.heap.size w wr ∧ w4.heap.size ≤ wr.heap.size) (fun _ wr => TOT - evL gout wr)
        case atStart => exact ⟨_, _, k, [], none, 0, 0, HQ0.out, hkb, hkc, HP0, HH0, HE0, Lib.hid rfl, Nat.le_refl _, HG4.out, OwnE.nil _ _, HR4.out, HB4.out, Nat.le_refl _⟩
        case round =>
          obtain ⟨R, xs, kk, ev, Av, L, cv, hQ, hkk, hkc2, HP, HH, HE, HEL, hLc, hG, hOE, hR0, hbl, hz⟩ := hrel
          clear HQ0 HP0 HH0 HE0 HG4 HR4 HB4
          have hq0 := hQ.cell
          rcases kk with _ | kk
          · have hXE : xs = [] := List.eq_nil_of_length_eq_zero hQ.len
            have HEV : Hid (ev = (mergeT ls).2) := Lib.hid (by rw [← HE.out, merge_end tmV (root_none tmV HP.out hXE)]; simp)
            obtain ⟨r0, r1, f0, f1⟩ := blk2E hR0
            obtain ⟨s0, s1, _, _⟩ := blk2E hG
            obtain ⟨A9, c9, e9, hc9, hev9, hfr9⟩ := hOE.done
            rw [HEL.out] at e9 hc9 hev9
            injection e9 with e91 _ e93
            subst e91 e93
            have hFr : Sat F2 wr := hQ.sat
            have HFIN : Hid (∀ u1 u2 : Value, Below w.heap.size w ((wr.setCell ⟨w.heap.size, 0, none⟩ u1).setCell ⟨w.heap.size, 1, none⟩ u2) ∧ Rd (heapF ((wr.setCell ⟨w.heap.size, 0, none⟩ u1).setCell ⟨w.heap.size, 1, none⟩ u2)) 1 Ao nu (U.map Value.string) ∧ EvsF (heapF ((wr.setCell ⟨w.heap.size, 0, none⟩ u1).setCell ⟨w.heap.size, 1, none⟩ u2)) Av L ev) := Lib.hid (fun u1 u2 => by
              refine ⟨(hbl.setCell (p := ⟨w.heap.size, 0, none⟩) (Nat.le_refl _) u1).setCell (p := ⟨w.heap.size, 1, none⟩) (Nat.le_refl _) u2, ?_, ?_⟩
              · refine rd_farM (rd_farM (HNM.out.heap hFr) (p := ⟨w.heap.size, 0, none⟩) (fun a ha => ?_) u1) (p := ⟨w.heap.size, 1, none⟩) (fun a ha => ?_) u2 <;> (have := HAR.out a ha; show a.block ≠ w.heap.size; omega)
              · obtain ⟨A8, c8, e8, _, h8, _⟩ := ((hOE.set (p := ⟨w.heap.size, 0, none⟩) (show w.heap.size < w4.heap.size by omega) u1).set (p := ⟨w.heap.size, 1, none⟩) (show w.heap.size < w4.heap.size by omega) u2).done
                injection e8 with e81
                rw [HEL.out, ← e81] at h8
                exact h8)
            have HT0 : Hid ((mergeT ls).2.length = L) := Lib.hid (by rw [← HEV.out, HEL.out])
            have HCO := Lib.hid hco
            clear hQ hG hOE hR0 hfr9
            go_wp2_with (go_at_call 20; refine (qlen_w _ 0 c2).mono ?_; rintro e w5 ⟨rfl, rfl⟩)
            exact bodyPost_ret (v := .tuple #[.agg #[.slice Ao nu co, .slice Av L cv], .int .i64 0]) (by simp [results, Try.results9, go_sem, r0, r1, f0, f1]) rfl (by
              unfold mergeM
              rw [HMA.out, if_pos rfl, HU.out, HNU.out, if_neg h64]
              have hT1 : (mergeT ls).1 = U := HU.out
              refine ⟨Ao, co, Av, cv, ?_, ?_, ?_, (HFIN.out _ _).1, ?_, ?_⟩
              · show Ending.returned (.tuple #[.agg #[.slice Ao nu co, .slice Av L cv], .int .i64 0]) = _
                rw [hT1, HNU.out, HT0.out]; rfl
              · rw [hT1, HNU.out]; exact HCO.out
              · rw [HT0.out]; exact hLc
              · rw [hT1, HNU.out]; exact (HFIN.out _ _).2.1
              · rw [HT0.out, ← HEV.out]; exact (HFIN.out _ _).2.2)
          · have hlen := hQ.len
            have hx0 : 0 < xs.length := by omega
            obtain ⟨hbR, hRb, hne, hbest⟩ := root_best tmV HP.out (by rw [hlen]; exact HH.out) hx0
            obtain ⟨x0, hx0e⟩ : ∃ x0, xs.getD 0 default = x0 := ⟨_, rfl⟩
            rw [hx0e] at hbR hRb hne hbest
            obtain ⟨rest, b⟩ := x0
            dsimp only at hbR hRb hne hbest
            obtain ⟨e, r, rfl⟩ : ∃ e r, rest = e :: r := by
              cases rest with
              | nil => exact absurd rfl hne
              | cons e r => exact ⟨e, r, rfl⟩
            have hmem : (e :: r, b) ∈ xs := by rw [← hx0e, List.getD, List.getElem?_eq_getElem hx0]; exact List.getElem_mem hx0
            obtain ⟨ax, cx, Ai, ci, hln, hcx, heE, het, hc0, hc1, hci, hri, htail⟩ := (hQ.ok _ hmem).headE
            have hbl2 : b < ls.length := by
              rcases Nat.lt_or_ge b ls.length with h | h
              · exact h
              · unfold evsAt at heE
                rw [List.getD, List.getElem?_eq_none h] at heE
                exact absurd heE (by simp [default])
            have hEb : evsAt ls b = ls[b].2 := by unfold evsAt; rw [List.getD, List.getElem?_eq_getElem hbl2]; rfl
            rw [hEb] at heE
            have hmayb : mayT ls[b].1 ls[b].2 = true := List.all_eq_true.1 HMA.out _ (List.getElem_mem hbl2)
            have hidsok : idsOk e.ids ls[b].1.length = true := by
              obtain ⟨q, hq, hqe⟩ := List.getElem_of_mem heE
              have := ((mayT_iff.1 hmayb).2 q hq).1
              rw [hqe] at this; exact this
            have hmvr := moved_ids (U := U) (by rw [← HU.out]; exact union_nodup _) (names_nodup (mayT_iff.1 hmayb).1).2.1 (fun s hs => by rw [← HU.out]; exact names_sub (List.getElem_mem hbl2) s hs) hidsok
            obtain ⟨Ab, cb, hcb, hrb⟩ := HPL.out b hbl2
            obtain ⟨m1, m2, m3⟩ := HBD.out _ (List.getElem_mem hbl2)
            have hidl := m3 e heE
            obtain ⟨ids2, hids2⟩ : ∃ ids2, mvR U ls[b].1 e.ids = ids2 := ⟨_, rfl⟩
            rw [hids2] at hmvr
            have hmve : mvE U ls (b, e) = ⟨e.time, ids2⟩ := by unfold mvE; rw [← hids2, List.getD, List.getElem?_eq_getElem hbl2]; rfl
            obtain ⟨NI, hNI⟩ : ∃ NI, ids2.length = NI := ⟨_, rfl⟩
            obtain ⟨nb, hnb⟩ : ∃ nb, ls[b].1.length = nb := ⟨_, rfl⟩
            obtain ⟨ni, hni⟩ : ∃ ni, e.ids.length = ni := ⟨_, rfl⟩
            have HMV : Hid (∀ X, Sat F2 X → Calls Try.prog 21 #[.agg #[.int .u64 (e.time : Nat), .slice Ai ni ci], .slice Ab nb cb] X fun e' X' => ∃ A c, e' = .returned (.agg #[.int .u64 (e.time : Nat), .slice A NI c]) ∧ NI ≤ c ∧ Rd (heapF X') 1 A NI (ids2.map (Value.int .i64)) ∧ Below X.heap.size X X' ∧ ∀ a, A = some a → X.heap.size ≤ a.block) := Lib.hid (fun X hX => by
              have h := mvd_w hX e.time e.ids Ai ni ci (by rw [← hni]; exact hri) (by omega) (ls[b].1.map (idxS U)) Ab nb cb (by rw [← hnb]; exact hrb) (by omega) (fun z hz => by have := (idsOk_iff.1 hidsok).1 z hz; omega)
              rw [hmvr] at h
              refine h.mono fun e' X' ⟨A, c, k1, k2, k3, k4, k5⟩ => ⟨A, c, ?_, ?_, ?_, k4, k5⟩
              · rw [k1, hNI]
              · rw [← hNI]; exact k2
              · rw [← hNI]; exact k3)
            obtain ⟨a0, a1, fa0, fa1⟩ := line_cells hQ.len hQ.row (i := 0) (by omega)
            rw [hx0e, hln] at a0 a1
            obtain ⟨nr, hnr⟩ : ∃ nr, r.length = nr := ⟨_, rfl⟩
            rw [hnr] at a0 hcx
            replace a0 : wr.cell? ⟨g, 0, none⟩ = some (.slice (some ax) (nr + 1) cx) := a0
            replace a1 : wr.cell? ⟨g, 1, none⟩ = some (.int .i64 (b : Nat)) := a1
            have hFr := hQ.sat
            have hax0 := hFr.clt hc0
            have hga0 : ga < wr.heap.size := hFr.clt hcb
            have hLT : L ≤ TOT := by have h := congrArg List.length HE.out; rw [List.length_append, HEL.out, HTOT.out] at h; omega
            have z0 := hFr.cell hc0
            have z1 := hFr.cell hc1
            rw [hni] at z1
            replace z1 : wr.cell? ⟨ax.block, ax.off + 1, none⟩ = some (.slice Ai ni ci) := z1
            have zb := hFr.cell hcb
            rw [hnb] at zb
            have hbI : (b : Int) < (i : Int) := by have := HLN.out; omega
            have hkI : (0 : Int) < ((kk + 1 : Nat) : Int) := by omega
            have hnrI : (0 : Int) < ((nr + 1 : Nat) : Int) := by omega
            have HNX : Hid (∃ f, sumLn R = f + 1 ∧ sumLn (R.set b r) = f ∧ mergeS tmV (sumLn R) R = (b, e) :: mergeS tmV f (R.set b r)) := Lib.hid (by
              have hs := sum_set hbR hRb
              exact ⟨sumLn (R.set b r), hs.symm, rfl, by rw [← hs]; exact merge_step tmV hbest hRb⟩)
            have HIDS := Lib.hid hNI
            have HMVE := Lib.hid hmve
            have HNR := Lib.hid hnr
            have HQ := Lib.hid hQ
            have HG := Lib.hid hG
            have HOE := Lib.hid hOE
            have HR0 := Lib.hid hR0
            have HBLx := Lib.hid hbl
            have HX0 := Lib.hid hx0e
            have HRB : Hid (b < R.length ∧ R.getD b [] = e :: r) := Lib.hid ⟨hbR, hRb⟩
            have HTAIL := Lib.hid htail
            have HLN0 := Lib.hid hln
            clear hFr hc0 hc1 hci hri hcb hrb hmayb hidsok hmvr m1 m2 m3 hidl hids2 hmve hNI hnb hni hEb heE hne hbest hbR hRb hmem hln hbl2 hnr hQ hG hOE hR0 hbl hx0e htail hx0 hlen
            go_upto_region 17 with (go_at_call 20; refine (qlen_w _ (kk + 1) c2).mono ?_; rintro e' w5 ⟨rfl, rfl⟩)
            obtain ⟨gw, hgw⟩ : ∃ gw, gw = wr.heap.size := ⟨_, rfl⟩
            rw [← hgw]
            have HGWE := Lib.hid hgw
            have hgwg : gout < gw := by omega
            have hz2 : w4.heap.size ≤ gw := by omega
            have hq4 : gq < w4.heap.size := by omega
            have hg4 : g < w4.heap.size := by omega
            have hev0 : evL gout wr = L := by
              obtain ⟨_, k1, _, _⟩ := blk2E HG.out
              unfold evL
              rw [k1]
            clear hgw
            go_cut [] from 64 to 78 (fun wx => ∃ (A4 : Option Addr) (c4 : Nat), QM F2 wx gq g c2 (w.heap.size + 1) S (evsAt ls) (kk + 1) xs ∧ L + 1 ≤ c4 ∧ Blk wx gout 27 #[.slice Ao nu co, .slice A4 (L + 1) c4] ∧ OwnE wx w4.heap.size (.slice A4 (L + 1) c4) (ev ++ [⟨e.time, ids2⟩]) ∧ Blk wx gw 55 #[.slice (some ax) (nr + 1) cx, .int .i64 (b : Nat)] ∧ Blk wx w.heap.size 27 #[.slice none 0 0, .slice none 0 0] ∧ Below w.heap.size w wx ∧ gw < wx.heap.size)
            case first =>
              obtain ⟨W, hW⟩ : ∃ W, W = wr.alloc (.cells #[.slice (some ax) (nr + 1) cx, .int .i64 (b : Nat)] 55) := ⟨_, rfl⟩
              have hgw := HGWE.out
              have hBW : Blk W gw 55 #[.slice (some ax) (nr + 1) cx, .int .i64 (b : Nat)] := by rw [hW, hgw]; exact Blk.new _ _ _
              have hbW : Below wr.heap.size wr W := by rw [hW]; exact balloc _ _
              have hzW : W.heap.size = gw + 1 := by rw [hW, hgw]; simp
              have hz2 : w4.heap.size ≤ gw := by omega
              have hOl := HOE.out.lt
              have hOl2 : ∀ g', (Value.slice Av L cv).ownBlock = some g' → w4.heap.size ≤ g' ∧ g' < gw := fun g' h => by have := hOl g' h; omega
              have HW := Lib.hid hW
              have HXB := Lib.hid hBW
              have HGW := Lib.hid (HG.out.call hbW)
              have HOW := Lib.hid (HOE.out.call hbW)
              have HQW : Hid (QM F2 W gq g c2 (w.heap.size + 1) S (evsAt ls) (kk + 1) xs) := Lib.hid (by rw [hW]; exact HQ.out.bel (D := w4.heap.size) ((Below.refl _ _).alloc (by omega) _) (by omega) (by omega) HFB.out)
              have HRW := Lib.hid (HR0.out.call hbW)
              have HBW2 : Hid (Below w.heap.size w W) := Lib.hid (bthen HBLx.out hbW)
              have HFW : Hid (Sat F2 W) := Lib.hid HQW.out.sat
              obtain ⟨j0, j1, _, _⟩ := blk2E hBW
              obtain ⟨k0, k1, f2, f3⟩ := blk2E HGW.out
              have z0' := (hbW.cell (p := ax) hax0).trans z0
              have z1' := (hbW.cell (p := ⟨ax.block, ax.off + 1, none⟩) hax0).trans z1
              have zb' := (hbW.cell (p := ⟨ga, b, none⟩) hga0).trans zb
              have hLb : L + 1 ≤ 1000000 := by omega
              clear hBW hbW z0 z1 zb a0 a1 fa0 fa1 hq0 hW
              rw [← HW.out]
              clear hgw
              go_region_law (first
                | (go_simp; go_at_call 21; refine (HMV.out _ (by first | exact HFW.out | exact HFW.out.drew)).mono ?_; rintro e' w5 ⟨Ai2, ci2, rfl, hci2, hr2, hb2', hfi⟩; have hb2 : Below W.heap.size W w5 := (by refine bel_trans ?_ hb2'; exact bel_eqv (Below.refl _ W) rfl rfl rfl rfl); have hz5 := hb2.size; have hgo5 : gout < w5.heap.size := (by omega); obtain ⟨k0, k1, f2, f3⟩ := blk2E (HGW.out.call hb2))
                | (refine step_pushE rfl (.tmp 65) (.tmp 76) (by rfl) (B := w4.heap.size) (v := .slice Av L cv) (es := ev) (by have := (HOW.out.call hb2).alloc (.cells #[.int .u64 (e.time : Nat), .slice Ai2 NI ci2] 31); exact this) (by rfl) ⟨e.time, ids2⟩ het Ai2 ci2 (by rw [HIDS.out]; exact hci2) (by rw [HIDS.out]; exact rd_call hr2 (balloc _ _)) (fun h0 a ha => ⟨by have h1 : W.heap.size ≤ a.block := hfi a ha; omega, fun q => by have h1 : W.heap.size ≤ a.block := hfi a ha; have := (hOl2 _ q).2; omega⟩) _ 1 (by rfl) (by rw [HIDS.out]; exact Blk.new w5 _ _) (by rw [HEL.out]; exact hLb) (by simp; omega) ?_; intro v6 w6 hO6 hb6 hg6' hat6; obtain ⟨A6, c6, hv6, hc6⟩ := hO6.shape; rw [List.length_append, HEL.out, List.length_singleton] at hv6 hc6; subst hv6; have hg6 : (w5.alloc (.cells #[.int .u64 (e.time : Nat), .slice Ai2 NI ci2] 31)).grownBy w6 _ := gb_src hg6' rfl rfl rfl rfl; have hG6 := ((HGW.out.call hb2).alloc (.cells #[.int .u64 (e.time : Nat), .slice Ai2 NI ci2] 31)).grown hg6 (fun q => by have := (hOl2 _ q.symm).1; omega); obtain ⟨k0, k1, f2, f3⟩ := blk2E hG6))
              all_goals
                have hB5 := hG6.set_ 1 (.slice A6 (L + 1) c6)
                have hO5 := hO6.set (p := ⟨gout, 1, none⟩) (show gout < w4.heap.size by omega) (.slice A6 (L + 1) c6)
                have hb24 : Below w4.heap.size W w6 := (by refine Below.trans ?_ hb6; exact bel_eqv ((hb2.mono (by omega)).alloc (by omega) _) rfl rfl rfl rfl)
                have hQ6 := (HQW.out.bel hb24 (by omega) (by omega) HFB.out).far (p := ⟨gout, 1, none⟩) hgoq hgog HFO.out (.slice A6 (L + 1) c6)
                have hX6 := (((HXB.out.call hb2).alloc (.cells #[.int .u64 (e.time : Nat), .slice Ai2 NI ci2] 31)).grown hg6 (fun q => by have := (hOl2 _ q.symm).2; omega)).far (p := ⟨gout, 1, none⟩) (show gw ≠ gout by omega) (.slice A6 (L + 1) c6)
                have hR6 := ((HRW.out.below hb24 hz4)).far (p := ⟨gout, 1, none⟩) (show w.heap.size ≠ gout by omega) (.slice A6 (L + 1) c6)
                have hb7 := (HBW2.out.trans (hb24.mono (by omega))).setCell (p := ⟨gout, 1, none⟩) (show w.heap.size ≤ gout by omega) (.slice A6 (L + 1) c6)
                have hz6 := hb24.size
                go_wp2_with fail
                go_meet
                exact ⟨A6, c6, hQ6, hc6, hB5, hO5, hX6, hR6, hb7, by simp; omega⟩
            case rest =>
              obtain ⟨A4, c4, hQx, hc4, hGx, hOx, hXx, hRx, hblx, hzx⟩ := hcut
              have HFGW : F2 gw = none := by
                cases h : F2 gw with
                | none => rfl
                | some o => have := HFB.out _ _ h; omega
              have hXL : xs.length = kk + 1 := hQx.len
              have HE2 : Hid ((ev ++ [⟨e.time, ids2⟩]) ++ (mergeS tmV (sumLn (R.set b r)) (R.set b r)).map (mvE U ls) = (mergeT ls).2) := Lib.hid (by
                obtain ⟨f, hf1, hf2, hf3⟩ := HNX.out
                rw [← HE.out, hf3, hf2, List.map_cons, HMVE.out]; simp)
              have hLT2 : L + 1 ≤ TOT := by
                have h := congrArg List.length HE2.out
                rw [HTOT.out] at h
                simp [HEL.out] at h
                omega
              have HEL2 : Hid ((ev ++ [(⟨e.time, ids2⟩ : Evt)]).length = L + 1) := Lib.hid (by rw [List.length_append, HEL.out]; rfl)
              have HBG : w.heap.size < gq ∧ w.heap.size < g := ⟨by have := HGQ.out; omega, by have := (hQx.row.1.lt g rfl).1; omega⟩
              have FW : Hid (∀ (u : Value) (w5 : World), Wr [g, gq] (wc.setCell ⟨gw, 0, none⟩ u) w5 → Blk w5 gout 27 #[.slice Ao nu co, .slice A4 (L + 1) c4] ∧ OwnE w5 w4.heap.size (.slice A4 (L + 1) c4) (ev ++ [⟨e.time, ids2⟩]) ∧ Blk w5 w.heap.size 27 #[.slice none 0 0, .slice none 0 0] ∧ Below w.heap.size w w5 ∧ w4.heap.size ≤ w5.heap.size ∧ evL gout w5 = L + 1) := Lib.hid (fun u w5 hw => by
                have hG5 := hw.blk (hGx.far (p := ⟨gw, 0, none⟩) (show gout ≠ gw by omega) u) (by simp; omega)
                have hR5 := hw.blk (hRx.far (p := ⟨gw, 0, none⟩) (show w.heap.size ≠ gw by omega) u) (by simp; omega)
                refine ⟨hG5, (hOx.setLine hXx u).keep fun b' h1 h2 => hw.block b' h2 (by simp; omega), hR5, ?_, ?_, ?_⟩
                · exact (hblx.setCell (p := ⟨gw, 0, none⟩) (show w.heap.size ≤ gw by omega) u).trans (hw.below (fun g' hg' => by simp at hg'; omega) (by simp; omega))
                · have := hw.size; simp at this; omega
                · obtain ⟨_, k1, _, _⟩ := blk2E hG5
                  unfold evL
                  rw [k1])
              have hQg : ∀ u, QM F2 (wc.setCell ⟨gw, 0, none⟩ u) gq g c2 (w.heap.size + 1) S (evsAt ls) (kk + 1) xs := fun u => hQx.far (p := ⟨gw, 0, none⟩) (show gw ≠ gq by omega) (show gw ≠ g by omega) HFGW u
              have hqx := hQx.cell
              obtain ⟨ya0, ya1, yf0, yf1⟩ := line_cells hQx.len hQx.row (i := 0) (by omega)
              rw [HX0.out, HLN0.out] at ya0 ya1
              replace ya0 : wc.cell? ⟨g, 0, none⟩ = some (.slice (some ax) (r.length + 1) cx) := ya0
              replace ya1 : wc.cell? ⟨g, 1, none⟩ = some (.int .i64 (b : Nat)) := ya1
              replace yf0 : wc.frozen? ⟨g, 0, none⟩ = false := yf0
              replace yf1 : wc.frozen? ⟨g, 1, none⟩ = false := yf1
              obtain ⟨j0, j1, f0, f1⟩ := blk2E hXx
              have HQG := Lib.hid hQg
              have HBLC := Lib.hid hblx
              clear a0 a1 fa0 fa1 hq0 z0 z1 zb HMV HQ HG HOE HR0 HBLx hQg hQx hGx hOx hXx hRx hblx
              by_cases hn0 : nr = 0
              · subst hn0
                have hr0 : r = [] := List.eq_nil_of_length_eq_zero HNR.out
                have HPP : Hid (((popS (ltL tmV) xs).take kk).Perm (qOf (R.set b r) 0) ∧ HeapS (ltL tmV) ((popS (ltL tmV) xs).take kk) 0 kk) := Lib.hid (by
                  have h1 := pop_permR tmV (e := e) HP.out (by omega) (by rw [HX0.out, hr0]) HRB.out.1 (by rw [HRB.out.2, hr0])
                  have h2 := pop_heap (ltS_ltL tmV) (xs := xs) (by omega) (by rw [hXL]; exact HH.out)
                  rw [hXL, Nat.add_sub_cancel] at h1 h2
                  exact ⟨by rw [hr0]; exact h1, h2⟩)
                have HPO : Hid (∀ u, Calls Try.prog 22 #[.iface 51 (.pointer (some ⟨gq, 0, none⟩))] (wc.setCell ⟨gw, 0, none⟩ u) fun e' w5 => ∃ v, e' = .returned v ∧ QM F2 w5 gq g c2 (w.heap.size + 1) S (evsAt ls) kk ((popS (ltL tmV) xs).take kk) ∧ Wr [g, gq] (wc.setCell ⟨gw, 0, none⟩ u) w5) := Lib.hid (fun u => (qpop_w (HQG.out u) (by omega) HFQ.out hkc2).mono fun e' w5 ⟨⟨v, h1⟩, h2, h3⟩ => ⟨v, h1, h2, h3⟩)
                by_cases hc1 : cx = 1
                · subst hc1
                  go_wp2_with (go_at_call 22; refine (HPO.out _).mono ?_; rintro e' w5 ⟨v5, rfl, hQ5, hW5⟩)
                  go_roundw
                  case rel =>
                    obtain ⟨p1, p2, p3, p4, p5, _⟩ := FW.out _ _ hW5
                    exact ⟨R.set b r, _, kk, ev ++ [⟨e.time, ids2⟩], A4, L + 1, c4, hQ5, by omega, by omega, Lib.hid HPP.out.1, Lib.hid HPP.out.2, HE2, HEL2, hc4, p1, p2, p3, p4, p5⟩
                  case measure =>
                    have := (FW.out _ _ hW5).2.2.2.2.2
                    show TOT - evL gout w5 < TOT - evL gout wr
                    rw [this, hev0]; omega
                · obtain ⟨cy, rfl⟩ : ∃ cy, cx = cy + 2 := ⟨cx - 2, by omega⟩
                  go_wp2_with (go_at_call 22; refine (HPO.out _).mono ?_; rintro e' w5 ⟨v5, rfl, hQ5, hW5⟩)
                  go_roundw
                  case rel =>
                    obtain ⟨p1, p2, p3, p4, p5, _⟩ := FW.out _ _ hW5
                    exact ⟨R.set b r, _, kk, ev ++ [⟨e.time, ids2⟩], A4, L + 1, c4, hQ5, by omega, by omega, Lib.hid HPP.out.1, Lib.hid HPP.out.2, HE2, HEL2, hc4, p1, p2, p3, p4, p5⟩
                  case measure =>
                    have := (FW.out _ _ hW5).2.2.2.2.2
                    show TOT - evL gout w5 < TOT - evL gout wr
                    rw [this, hev0]; omega
              · obtain ⟨ny, rfl⟩ : ∃ ny, nr = ny + 1 := ⟨nr - 1, by omega⟩
                obtain ⟨cy, rfl⟩ : ∃ cy, cx = cy + 2 := ⟨cx - 2, by omega⟩
                have hr0 : r ≠ [] := fun h => by have := HNR.out; rw [h] at this; simp at this
                obtain ⟨htl, hok⟩ := HTAIL.out hr0
                rw [HNR.out] at htl
                have hgqI : (0 : Int) < ((kk + 1 : Nat) : Int) := by omega
                have HFX : Hid (∀ m, Calls Try.prog 23 #[.iface 51 (.pointer (some ⟨gq, 0, none⟩)), .int .i64 0] ((((wc.setCell ⟨gw, 0, none⟩ (.slice (some (ax.add 2)) (ny + 1) (cy + 1))).setCell ⟨g, 0, none⟩ (.slice (some (ax.add 2)) (ny + 1) (cy + 1))).setCell ⟨g, 1, none⟩ (.int .i64 (b : Nat))).drewN m) fun e' w5 => e' = .returned (.tuple #[]) ∧ QM F2 w5 gq g c2 (w.heap.size + 1) S (evsAt ls) (kk + 1) (downS (ltL tmV) (kk + 1) (xs.set 0 (r, b)) (kk + 1) 0).1 ∧ Wr [g, gq] (wc.setCell ⟨gw, 0, none⟩ (.slice (some (ax.add 2)) (ny + 1) (cy + 1))) w5) := Lib.hid (fun m => by
                  have hq := HQG.out (.slice (some (ax.add 2)) (ny + 1) (cy + 1))
                  have hW : QM F2 (((wc.setCell ⟨gw, 0, none⟩ (.slice (some (ax.add 2)) (ny + 1) (cy + 1))).setCell ⟨g, 0, none⟩ (.slice (some (ax.add 2)) (ny + 1) (cy + 1))).setCell ⟨g, 1, none⟩ (.int .i64 (b : Nat))) gq g c2 (w.heap.size + 1) S (evsAt ls) (kk + 1) (xs.set 0 (r, b)) := by
                    refine ⟨(hq.ptr.far (p := ⟨g, 0, none⟩) hq.ne _).far (p := ⟨g, 1, none⟩) hq.ne _, ?_, (hq.sat.setCell (p := ⟨g, 0, none⟩) HFG.out _).setCell (p := ⟨g, 1, none⟩) HFG.out _, hq.ne, by rw [List.length_set]; exact hXL, fun x hx => ?_⟩
                    · rw [lines_set S (evsAt ls) (r, b) _ _ htl xs 0]
                      exact ownStoreN (ownStoreN hq.row _ _) _ _
                    · rcases List.mem_or_eq_of_mem_set hx with h | h
                      · exact hq.ok x h
                      · rw [h]; exact hok
                  refine (qfix_w (hW.drewN m) hkk).mono fun e' w5 ⟨h1, h2, h3⟩ => ⟨h1, h2, ?_⟩
                  exact ((((Wr.refl _ _).set (by simp) _ _).set (by simp) _ _).drewN m).trans (h3.more (by simp)))
                have HPP : Hid ((downS (ltL tmV) (kk + 1) (xs.set 0 (r, b)) (kk + 1) 0).1.Perm (qOf (R.set b r) 0) ∧ HeapS (ltL tmV) (downS (ltL tmV) (kk + 1) (xs.set 0 (r, b)) (kk + 1) 0).1 0 (kk + 1)) := Lib.hid (by
                  have h1 := fix_perm tmV (e := e) HP.out (by omega) HX0.out hr0 HRB.out.1 HRB.out.2
                  have h2 := fix_heap (ltS_ltL tmV) (xs := xs) (by rw [hXL]; exact HH.out) (r, b)
                  rw [hXL] at h1 h2
                  exact ⟨h1, h2⟩)
                go_upto_region 21 with fail
                go_region
                all_goals
                  go_wp2_with (go_at_call 23; refine (HFX.out 1).mono ?_; rintro e' w5 ⟨rfl, hQ5, hW5⟩)
                  go_roundw
                  case rel =>
                    obtain ⟨p1, p2, p3, p4, p5, _⟩ := FW.out _ _ hW5
                    exact ⟨R.set b r, _, kk + 1, ev ++ [⟨e.time, ids2⟩], A4, L + 1, c4, hQ5, hkk, hkc2, Lib.hid HPP.out.1, Lib.hid HPP.out.2, HE2, HEL2, hc4, p1, p2, p3, p4, p5⟩
                  case measure =>
                    have := (FW.out _ _ hW5).2.2.2.2.2
                    show TOT - evL gout w5 < TOT - evL gout wr
                    rw [this, hev0]; omega
end Go.Proofs.Ytgmbicjcfhmcdaa
