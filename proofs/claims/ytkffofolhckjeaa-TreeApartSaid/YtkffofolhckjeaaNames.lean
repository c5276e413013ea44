/- The walks of tree.Names and of the reference's Names. -/
import Derived.Test.YtkffofolhckjeaaNamesP
import Derived.Test.YtkffofolhckjeaaLay
import Derived.Test.YtkffofolhckjeaaRMay
import Derived.Test.YtkffofolhckjeaaNodes2
import Derived.Sort.OwnSorted
import Derived.Lib.RowBridge
import Derived.Shelf.Slices.In.SortNone
set_option linter.unusedVariables false
set_option linter.unusedSimpArgs false
namespace Go.Proofs.Ytkffofolhckjeaa
open Go.RowKit Go.Sort
theorem encStr_data (s : ByteArray) : encStr s.data.toList = .string s := by unfold encStr; simp
theorem encStr_one (ss : List (List UInt8)) : ∀ v ∈ ss.map encStr, v.oneCell' = true := by
  intro v hv
  obtain ⟨x, _, rfl⟩ := List.mem_map.1 hv
  rfl
theorem wpList_pushS {w : World} {ops : Array Oper} {rest : List Oper} {o : Oper} {a : Act} {Q : Exit → Act → World → Prop} (hgd : o.guard = none) (s x : Operand)
    (ho : o.op = .call { callee := .builtin .append, args := #[s, x], argTypes := #[68, 68] })
    {F : Fz} {B n : Nat} {v : Value} {xs : List (List UInt8)} (hown : Own F w B 9 1 v n (xs.map encStr)) (hF : Sat F w) (hs : a.eval s = v)
    (g c : Nat) (y : ByteArray) (hx : a.eval x = .slice (some ⟨g, 0, none⟩) 1 c) (hg : Blk w g 9 #[.string y]) (hn : n + 1 ≤ 1000000) (hB : B ≤ w.heap.size)
    (h : ∀ v' w', Own F w' B 9 1 v' (n + 1) ((xs ++ [y.data.toList]).map encStr) → Sat F w' → Below B w w' → w.grownBy w' v.ownBlock → (v'.ownBlock = v.ownBlock ∨ v'.ownBlock = some w.heap.size) → wpList Try.prog ops Q rest (a.put o.dst v') w') :
    wpList Try.prog ops Q (o :: rest) a w := by
  refine wpList_push hgd s x _ ho 9 (.string ⟨#[]⟩) 1 16 Try.underlying68 (by kernel_rfl) rfl (by omega) hown hF hs g c #[.string y] hx hg rfl (by intro u hu; simp at hu; subst hu; rfl) (by simp [maxLen]; omega) (by omega) hB ?_
  intro v' w' h1 h2 h3 h4 h5
  refine h v' w' ?_ h2 h3 h4 h5
  rw [List.map_append, List.map_cons, List.map_nil, encStr_data]
  exact h1
/-- What a function that gives texts leaves. -/
def RetS (w : World) (ss : List (List UInt8)) (e : Ending) (w' : World) : Prop := ∃ A c, e = .returned (.slice A ss.length c) ∧ ss.length ≤ c ∧ Rd (heapF w') 1 A ss.length (ss.map encStr) ∧ Below w.heap.size w w'
theorem grow_nil (w : World) : Sort.grow w #[] = w := by simp [Sort.grow]
theorem sort_w {F : Fz} {w : World} {B : Nat} {v : Value} {ss : List (List UInt8)} (hO : Own F w B 9 1 v ss.length (ss.map encStr)) (hF : Sat F w) (hB : B ≤ w.heap.size) (hl : ss.length ≤ 1000000) :
    Calls Try.prog 80 #[v] w fun e w' => e = .returned (.tuple #[]) ∧ Own F w' B 9 1 v ss.length ((sortL ss).map encStr) ∧ Below B w w' ∧ Sat F w' := by
  rcases hO.1.2 with ⟨rfl, h0⟩ | ⟨g, cap, cur, rfl, hbase, hb, h1, h2, h3, h4⟩
  · have e : ss = [] := List.eq_nil_of_length_eq_zero h0
    subst e
    exact (Any.slices_Sort_string_none lays190 none 0 w).mono fun e w' ⟨h1, h2⟩ => ⟨h1, by rw [h2, show sortL [] = [] by simp [sortL]]; exact hO, by rw [h2]; exact Below.refl _ _, by rw [h2]; exact hF⟩
  · have hg : g < w.heap.size := (Array.getElem?_eq_some_iff.1 hb).1
    refine (Any.slices_Sort_string lays190 g 0 cap ss w (holds_of_block hb (by simpa using h4)) hg (by omega)).mono fun e w' ⟨he, n, os, hw⟩ => ?_
    have hgr : w.grownBy w' (some g) := by rw [hw]; exact grownBy_sorted _
    refine ⟨he, ⟨?_, hO.2⟩, (Below.refl B w).grown hgr hB (fun k hk => by injection hk with hk; omega), hF.grown hgr (fun k hk => hO.2 k hk)⟩
    rw [hw]
    exact ownsRow_sorted (length_sortL ss) hbase hb h1 h2 h3
theorem compact_w {F : Fz} {w : World} {B : Nat} {v : Value} {ss : List (List UInt8)} (hO : Own F w B 9 1 v ss.length (ss.map encStr)) (hB : B ≤ w.heap.size) (hl : ss.length ≤ 1000000) :
    Calls Try.prog 81 #[v] w fun e w' => ∃ A c, e = .returned (.slice A (Lib.compact ss).length c) ∧ (Lib.compact ss).length ≤ c ∧ Rd (heapF w') 1 A (Lib.compact ss).length ((Lib.compact ss).map encStr) ∧ Below B w w' := by
  rcases hO.1.2 with ⟨rfl, h0⟩ | ⟨g, cap, cur, rfl, hbase, hb, h1, h2, h3, h4⟩
  · have e : ss = [] := List.eq_nil_of_length_eq_zero h0
    subst e
    exact (Any.slices_Compact_string_empty lays194 none 0 w).mono fun e w' ⟨h1, h2⟩ => ⟨none, 0, h1, Nat.le_refl _, Rd.nil, by rw [h2]; exact Below.refl _ _⟩
  · have hcl := Lib.compact_length_le ss
    refine (Any.slices_Compact_string lays194 g 0 cap ss w (holds_of_block hb (by simpa using h4)) (by omega) h1).mono fun e w' ⟨he, q, hw⟩ => ?_
    rw [← grow_nil (putRow encStr (Sort.ahead w q) g 0 _)] at hw
    have hgr : w.grownBy w' (some g) := by rw [hw]; exact grownBy_sorted _
    have hown : w'.ownsRow B 9 1 (.slice (some ⟨g, 0, none⟩) ss.length cap) ss.length ((Lib.compact ss ++ List.replicate (ss.length - (Lib.compact ss).length) []).map encStr) := by
      rw [hw]
      exact ownsRow_sorted (by simp; omega) hbase hb h1 h2 h3
    have hO2 : Own F w' B 9 1 (.slice (some ⟨g, 0, none⟩) ss.length cap) ss.length ((Lib.compact ss ++ List.replicate (ss.length - (Lib.compact ss).length) []).map encStr) := ⟨hown, hO.2⟩
    obtain ⟨A, c, e1, hc, hrd⟩ := hO2.rdH
    injection e1 with e1 _ e3
    subst e1 e3
    refine ⟨_, cap, he, by omega, ?_, (Below.refl B w).grown hgr hB (fun k hk => by injection hk with hk; omega)⟩
    have := hrd.pre (k := (Lib.compact ss).length) hcl
    rwa [Nat.mul_one, List.map_append, List.take_left' (by simp)] at this
theorem props_snoc (l : List Nd) (k : Nat) (hk : k < l.length) : propsL (l.take (k + 1)) = if l[k].kind = 3 then propsL (l.take k) ++ [nameB l[k]] else propsL (l.take k) := by
  unfold propsL
  rw [List.take_succ_eq_append_getElem hk, List.filter_append]
  by_cases h : l[k].kind = 3
  · simp [h]
  · simp [h]
theorem props_le (l : List Nd) : (propsL l).length ≤ l.length := by
  unfold propsL
  rw [List.length_map]
  exact List.length_filter_le _ _
set_option maxHeartbeats 2000000 in
theorem names_w {F : Fz} {w : World} (hF : Sat F w) (l : List Nd) (hn : l.length ≤ 1000) (A : Option Addr) (n c : Nat) (hl : NodesF F A n l) :
    Calls Try.prog 51 #[.slice A n c] w (RetS w (namesL l)) := by
  have hM := fun b h => may_w hF l hn A n c hl b h
  obtain ⟨rfl, hl2⟩ := hl
  cases hm : mayS l
  · have HM := Lib.hid (hM _ hm)
    have HR : Hid (namesL l = []) := Lib.hid (by unfold namesL; rw [hm]; rfl)
    clear hM hm
    go_enter Try.func51, Try.ntmps51
    go_wp2_with (go_at_call 58; refine HM.out.mono ?_; rintro e w' ⟨rfl, hw⟩)
    go_ret
    rw [HR.out]
    exact ⟨none, 0, rfl, Nat.le_refl _, Rd.nil, hw⟩
  · have HM := Lib.hid (hM _ hm)
    have HR : Hid (namesL l = Lib.compact (sortL (propsL l))) := Lib.hid (by unfold namesL; rw [hm, compact_names]; rfl)
    clear hM hm
    go_enter Try.func51, Try.ntmps51
    go_wp2_with (go_at_call 58; refine HM.out.mono ?_; rintro e w1 ⟨rfl, hw⟩)
    go_loopw [3, 5, 11] (fun o _ i wr => ∃ (k : Nat) (A3 : Option Addr) (n3 c3 : Nat), k ≤ l.length ∧ i = .int .i64 k ∧ o = .slice A3 n3 c3 ∧ n3 ≤ k ∧ Hid (n3 = (propsL (l.take k)).length) ∧ Own F wr w.heap.size 9 1 (.slice A3 n3 c3) n3 ((propsL (l.take k)).map encStr) ∧ Below w.heap.size w wr) (fun _ _ i _ => l.length - (intOf i).toNat)
    case atStart => exact ⟨0, none, 0, 0, Nat.zero_le _, rfl, rfl, Nat.le_refl _, Lib.hid rfl, Own.nil _ _ _ _ _, hw⟩
    case round =>
      obtain ⟨k, A3, n3, c3, hk, rfl, rfl, hn3, HN3, hO, hbl⟩ := hrel
      have hz := hbl.size
      by_cases hlt : k < l.length
      · obtain ⟨ad, rfl, hL⟩ := hl2 (by omega)
        obtain ⟨Ak, ck, _, _, hd⟩ := hL k hlt
        obtain ⟨c0, c1, c2, c3, c4⟩ := hd.sat (hF.below hbl)
        have hltI : (k : Int) < (l.length : Int) := by omega
        have hps := props_snoc l k hlt
        generalize hnd : l[k] = nd at *
        have HND := Lib.hid hnd
        clear hnd hd
        by_cases h3 : nd.kind = 3
        · rw [if_pos h3] at hps
          have HPS : Hid (propsL (l.take k) ++ [nd.name.data.toList] = propsL (l.take (k + 1))) := Lib.hid hps.symm
          have HN4 : Hid (n3 + 1 = (propsL (l.take (k + 1))).length) := Lib.hid (by rw [hps, List.length_append, ← HN3.out]; rfl)
          have e3 : (nd.kind == 3) = true := by rw [h3]; rfl
          clear hps h3
          go_wp2_with (at_builtin; refine wpList_pushS rfl (.tmp 18) (.tmp 21) rfl ((hO.alloc _).alloc _) (((hF.below hbl).alloc _).alloc _) (by rfl) (wr.heap.size + 1) 1 nd.name (by rfl) (by have := Blk.new (wr.alloc (.cells #[.int .i64 nd.kind, .string nd.name, .int .i64 nd.lo, .int .i64 nd.hi, .slice Ak nd.kids.length ck] 57)) 9 #[.string nd.name]; simpa using this) (by omega) (by simp; omega) ?_; intro v2 w2 hO2 hFF hb2 hg2 hat2; rw [HPS.out] at hO2; obtain ⟨A', c', rfl, hc'⟩ := hO2.shape)
          go_roundw
          case rel => exact ⟨k + 1, A', n3 + 1, c', by omega, by go_num, rfl, by omega, HN4, hO2, (((hbl.alloc hz _).alloc (by simp; omega) _).trans hb2)⟩
          case measure => simp [intOf]; omega
        · rw [if_neg h3] at hps
          have HPS := Lib.hid hps
          have HN4 : Hid (n3 = (propsL (l.take (k + 1))).length) := Lib.hid (by rw [hps, ← HN3.out])
          have e3 : (nd.kind == 3) = false := by rw [beq_eq_false_iff_ne]; exact h3
          clear hps h3
          go_wp2_with fail
          go_roundw
          case rel => exact ⟨k + 1, A3, n3, _, by omega, by go_num, rfl, by omega, HN4, by rw [HPS.out]; exact hO.alloc _, hbl.alloc hz _⟩
          case measure => simp [intOf]; omega
      · obtain rfl : k = l.length := by omega
        have hdec : decide ((l.length : Int) < (l.length : Int)) = false := decide_eq_false (by omega)
        rw [List.take_length] at hO HN3
        have hO' : Own F wr w.heap.size 9 1 (.slice A3 n3 c3) (propsL l).length ((propsL l).map encStr) := by rw [← HN3.out]; exact hO
        have HS := Lib.hid (sort_w hO' (hF.below hbl) hz (by rw [← HN3.out]; omega))
        have hlen := length_sortL (propsL l)
        rw [← HN3.out] at hlen
        have HLE := Lib.hid hlen
        clear hlen hO'
        go_wp2_with (first | (go_at_call 80; refine HS.out.mono ?_; rintro e w2 ⟨rfl, hO2, hb2, hF2⟩; have hO3 : Own F w2 w.heap.size 9 1 (.slice A3 n3 c3) (sortL (propsL l)).length ((sortL (propsL l)).map encStr) := by rw [length_sortL]; exact hO2) | (go_at_call 81; refine (compact_w hO3 (Nat.le_trans hz hb2.size) (by rw [HLE.out]; omega)).mono ?_; rintro e w3 ⟨A4, c4, rfl, hc4, hrd, hb3⟩))
        go_ret
        rw [HR.out]
        exact ⟨A4, c4, rfl, hc4, hrd, (hbl.trans hb2).trans hb3⟩
def mkB (l : List UInt8) : ByteArray := ⟨l.toArray⟩
theorem map_mkB (ss : List (List UInt8)) : ss.map encStr = (ss.map mkB).map Value.string := by rw [List.map_map]; rfl
theorem has_mkB (ss : List (List UInt8)) (s : ByteArray) : hasS (ss.map mkB) s = ss.contains s.data.toList := by
  rw [Bool.eq_iff_iff, hasS_iff]
  simp only [List.mem_map, List.contains_iff_mem]
  constructor
  · rintro ⟨l, hl, rfl⟩
    simpa [mkB] using hl
  · intro h
    exact ⟨_, h, by simp [mkB]⟩
set_option maxHeartbeats 2000000 in
theorem rnames_w {F : Fz} {w : World} (hF : Sat F w) (l : List Nd) (hn : l.length ≤ 1000) (A : Option Addr) (n c : Nat) (hl : NodesF F A n l) :
    Calls Try.prog 63 #[.slice A n c] w (RetS w (namesL l)) := by
  have hM := fun b h => rmay_w hF l hn A n c hl b h
  obtain ⟨rfl, hl2⟩ := hl
  cases hm : mayS l
  · have HM := Lib.hid (hM _ hm)
    have HR : Hid (namesL l = []) := Lib.hid (by unfold namesL; rw [hm]; rfl)
    clear hM hm
    go_enter Try.func63, Try.ntmps63
    go_wp2_with (go_at_call 48; refine HM.out.mono ?_; rintro e w' ⟨rfl, hw⟩)
    go_ret
    rw [HR.out]
    exact ⟨none, 0, rfl, Nat.le_refl _, Rd.nil, hw⟩
  · have HM := Lib.hid (hM _ hm)
    have HR : Hid (namesL l = sortL (dedupL (propsL l))) := Lib.hid (by unfold namesL; rw [hm]; rfl)
    clear hM hm
    go_enter Try.func63, Try.ntmps63
    go_wp2_with (go_at_call 48; refine HM.out.mono ?_; rintro e w1 ⟨rfl, hw⟩)
    go_loopw [3, 5, 11] (fun o _ i wr => ∃ (k : Nat) (A3 : Option Addr) (n3 c3 : Nat), k ≤ l.length ∧ i = .int .i64 k ∧ o = .slice A3 n3 c3 ∧ n3 ≤ k ∧ Hid (n3 = (dedupL (propsL (l.take k))).length) ∧ Own F wr w.heap.size 9 1 (.slice A3 n3 c3) n3 ((dedupL (propsL (l.take k))).map encStr) ∧ Below w.heap.size w wr) (fun _ _ i _ => l.length - (intOf i).toNat)
    case atStart => exact ⟨0, none, 0, 0, Nat.zero_le _, rfl, rfl, Nat.le_refl _, Lib.hid rfl, Own.nil _ _ _ _ _, hw⟩
    case round =>
      obtain ⟨k, A3, n3, c3, hk, rfl, rfl, hn3, HN3, hO, hbl⟩ := hrel
      have hz := hbl.size
      by_cases hlt : k < l.length
      · obtain ⟨ad, rfl, hL⟩ := hl2 (by omega)
        obtain ⟨Ak, ck, _, _, hd⟩ := hL k hlt
        obtain ⟨k0, k1, k2, k3, k4⟩ := hd.sat (hF.below hbl)
        have hltI : (k : Int) < (l.length : Int) := by omega
        have hps := props_snoc l k hlt
        generalize hnd : l[k] = nd at *
        have HND := Lib.hid hnd
        clear hnd hd
        by_cases h3 : nd.kind = 3
        · rw [if_pos h3] at hps
          have hds := dedup_snoc (propsL (l.take k)) nd.name.data.toList
          rw [show propsL (l.take k) ++ [nd.name.data.toList] = propsL (l.take (k + 1)) from hps.symm] at hds
          have e3 : (nd.kind == 3) = true := by rw [h3]; rfl
          have hO1 := hO.alloc (.cells #[.int .i64 nd.kind, .string nd.name, .int .i64 nd.lo, .int .i64 nd.hi, .slice Ak nd.kids.length ck] 57)
          obtain ⟨A', c', e1, _, hrd⟩ := hO1.rdH
          injection e1 with e1 _ e2
          subst e1 e2
          rw [map_mkB] at hrd
          have hC := contains_w (sat_heapF _) _ (by rw [List.length_map, ← HN3.out]; omega) _ _ c3 hrd nd.name
          rw [has_mkB] at hC
          cases hcon : (dedupL (propsL (l.take k))).contains nd.name.data.toList
          · rw [hcon] at hC hds
            have HC := Lib.hid hC
            have HPS : Hid (dedupL (propsL (l.take k)) ++ [nd.name.data.toList] = dedupL (propsL (l.take (k + 1)))) := Lib.hid (by rw [hds]; rfl)
            have HN4 : Hid (n3 + 1 = (dedupL (propsL (l.take (k + 1)))).length) := Lib.hid (by rw [← HPS.out, List.length_append, ← HN3.out]; rfl)
            clear hps h3 hC hds hcon hrd hO1
            go_wp2_with (first | (go_at_call 83; refine HC.out.mono ?_; rintro e w2 ⟨rfl, rfl⟩) | (at_builtin; refine wpList_pushS rfl (.tmp 25) (.tmp 28) rfl ((hO.alloc _).alloc _) (((hF.below hbl).alloc _).alloc _) (by rfl) (wr.heap.size + 1) 1 nd.name (by rfl) (by have := Blk.new (wr.alloc (.cells #[.int .i64 nd.kind, .string nd.name, .int .i64 nd.lo, .int .i64 nd.hi, .slice Ak nd.kids.length ck] 57)) 9 #[.string nd.name]; simpa using this) (by omega) (by simp; omega) ?_; intro v2 w2 hO2 hFF hb2 hg2 hat2; rw [HPS.out] at hO2; obtain ⟨A', c', rfl, hc'⟩ := hO2.shape))
            go_roundw
            case rel => exact ⟨k + 1, A', n3 + 1, c', by omega, by go_num, rfl, by omega, HN4, hO2, (((hbl.alloc hz _).alloc (by simp; omega) _).trans hb2)⟩
            case measure => simp [intOf]; omega
          · rw [hcon] at hC hds
            have HC := Lib.hid hC
            have HPS : Hid (dedupL (propsL (l.take (k + 1))) = dedupL (propsL (l.take k))) := Lib.hid (by rw [hds]; rfl)
            have HN4 : Hid (n3 = (dedupL (propsL (l.take (k + 1)))).length) := Lib.hid (by rw [HPS.out, ← HN3.out])
            clear hps h3 hC hds hcon hrd hO1
            go_wp2_with (go_at_call 83; refine HC.out.mono ?_; rintro e w2 ⟨rfl, rfl⟩)
            go_roundw
            case rel => exact ⟨k + 1, A3, n3, c3, by omega, by go_num, rfl, by omega, HN4, by rw [HPS.out]; exact hO.alloc _, hbl.alloc hz _⟩
            case measure => simp [intOf]; omega
        · rw [if_neg h3] at hps
          have HPS : Hid (propsL (l.take (k + 1)) = propsL (l.take k)) := Lib.hid hps
          have HN4 : Hid (n3 = (dedupL (propsL (l.take (k + 1)))).length) := Lib.hid (by rw [hps, ← HN3.out])
          have e3 : (nd.kind == 3) = false := by rw [beq_eq_false_iff_ne]; exact h3
          clear hps h3
          go_wp2_with fail
          go_roundw
          case rel => exact ⟨k + 1, A3, n3, c3, by omega, by go_num, rfl, by omega, HN4, by rw [HPS.out]; exact hO.alloc _, hbl.alloc hz _⟩
          case measure => simp [intOf]; omega
      · obtain rfl : k = l.length := by omega
        have hdec : decide ((l.length : Int) < (l.length : Int)) = false := decide_eq_false (by omega)
        rw [List.take_length] at hO HN3
        have hO' : Own F wr w.heap.size 9 1 (.slice A3 n3 c3) (dedupL (propsL l)).length ((dedupL (propsL l)).map encStr) := by rw [← HN3.out]; exact hO
        have HS := Lib.hid (sort_w hO' (hF.below hbl) hz (by rw [← HN3.out]; omega))
        have hlen := length_sortL (dedupL (propsL l))
        have HLE := Lib.hid hlen
        clear hlen hO'
        go_wp2_with (go_at_call 80; refine HS.out.mono ?_; rintro e w2 ⟨rfl, hO2, hb2, hF2⟩)
        go_ret
        rw [HR.out]
        obtain ⟨A4, c4, e1, hc4, hrd⟩ := hO2.rdH
        rw [← HLE.out] at e1 hc4 hrd
        exact ⟨A4, c4, congrArg Ending.returned e1, hc4, hrd, hbl.trans hb2⟩
end Go.Proofs.Ytkffofolhckjeaa
