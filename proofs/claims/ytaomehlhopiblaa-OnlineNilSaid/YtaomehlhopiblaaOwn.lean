/- The walk of paths.own. -/
import Derived.Test.YtaomehlhopiblaaOwnP
import Derived.Test.YtaomehlhopiblaaLayI
import Derived.Test.YtaomehlhopiblaaJoin
import Derived.Test.YtaomehlhopiblaaApp
import Derived.Sort.OwnSortedInts
import Derived.Shelf.Slices.In.SortNone
set_option linter.unusedVariables false
set_option linter.unusedSimpArgs false
/-! The walk of paths.own. -/
namespace Go.Proofs.Ytaomehlhopiblaa
open Go.RowKit Go.Sort
/-- What a function that gives numbers leaves. -/
def RetI (w : World) (zs : List Int) (e : Ending) (w' : World) : Prop := ∃ A c, e = .returned (.slice A zs.length c) ∧ zs.length ≤ c ∧ Rd (heapF w') 1 A zs.length (zs.map encI) ∧ Below w.heap.size w w'
/-- A list of numbers of a call's own, in a block of its own. -/
def RetIF (w : World) (zs : List Int) (e : Ending) (w' : World) : Prop := ∃ A c, e = .returned (.slice A zs.length c) ∧ zs.length ≤ c ∧ Rd (heapF w') 1 A zs.length (zs.map encI) ∧ Below w.heap.size w w' ∧ ∀ a, A = some a → w.heap.size ≤ a.block
theorem Own.fresh {F : Fz} {w : World} {B : Nat} {e : TypeId} {size n : Nat} {A : Option Addr} {m c : Nat} {xs : List Value} (h : Own F w B e size (.slice A m c) n xs) : ∀ a, A = some a → B ≤ a.block := by
  rintro a rfl
  exact (h.1.lt a.block rfl).1
theorem retI_nil {w w' : World} (hb : Below w.heap.size w w') : RetI w [] (.returned (.slice none 0 0)) w' := ⟨none, 0, rfl, Nat.le_refl _, Rd.nil, hb⟩
theorem sortI_w {F : Fz} {w : World} {B : Nat} {v : Value} {zs : List Int} (hO : Own F w B 3 1 v zs.length (zs.map encI)) (hF : Sat F w) (hB : B ≤ w.heap.size) (hl : zs.length ≤ 1000000) :
    Calls Try.prog 76 #[v] w fun e w' => e = .returned (.tuple #[]) ∧ Own F w' B 3 1 v zs.length ((zs.mergeSort fun x y => decide (x ≤ y)).map encI) ∧ Below B w w' ∧ Sat F w' := by
  rcases hO.1.2 with ⟨rfl, h0⟩ | ⟨g, cap, cur, rfl, hbase, hb, h1, h2, h3, h4⟩
  · have e : zs = [] := List.eq_nil_of_length_eq_zero h0
    subst e
    exact (Any.slices_Sort_int_none lays189 none 0 w).mono fun e w' ⟨h1, h2⟩ => ⟨h1, by rw [h2]; simpa using hO, by rw [h2]; exact Below.refl _ _, by rw [h2]; exact hF⟩
  · have hg : g < w.heap.size := (Array.getElem?_eq_some_iff.1 hb).1
    refine (Any.slices_Sort_int lays189 g 0 cap zs w (holds_of_blockI hb (by simpa using h4)) hg (by omega)).mono fun e w' ⟨he, n, os, hw⟩ => ?_
    have hgr : w.grownBy w' (some g) := by rw [hw]; exact grownBy_sortedI _
    refine ⟨he, ⟨?_, hO.2⟩, (Below.refl B w).grown hgr hB (fun k hk => by injection hk with hk; omega), hF.grown hgr (fun k hk => hO.2 k hk)⟩
    rw [hw]
    exact ownsRow_sortedI (by rw [List.length_mergeSort]) hbase hb h1 h2 h3
/-- The last element is cut off. -/
theorem Own.chop {F : Fz} {w : World} {B : Nat} {e : TypeId} {A : Option Addr} {n c : Nat} {xs : List Value} {x : Value} (h : Own F w B e 1 (.slice A (n + 1) c) (n + 1) (xs ++ [x])) : Own F w B e 1 (.slice A n c) n xs := by
  obtain ⟨⟨hl, h1⟩, h2⟩ := h
  have hl2 : xs.length = n := by simpa using hl
  rcases h1 with ⟨h3, _⟩ | ⟨g, cap, cur, h3, hbase, hb, h5, h6, h7, h8⟩
  · cases h3
  · injection h3 with h3 _ h4
    subst h3 h4
    refine ⟨⟨by simpa using hl2, .inr ⟨g, c, cur, rfl, hbase, hb, by omega, h6, h7, ?_⟩⟩, fun g' hg => h2 g' (by simpa [Value.ownBlock] using hg)⟩
    have := congrArg (List.take n) h8
    rw [List.take_take] at this
    rw [Nat.mul_one] at this ⊢
    rw [show min n (n + 1) = n by omega] at this
    rw [this, ← hl2, List.take_left']
    rfl
def lenV : Value → Nat
  | .slice _ n _ => n
  | _ => 0
theorem zs_snoc (xs : List Nat) (x : Nat) : zs (xs ++ [x]) = zs xs ++ [(x : Int)] := by simp [zs]
theorem length_zs (xs : List Nat) : (zs xs).length = xs.length := by simp [zs]
set_option maxRecDepth 100000 in
set_option maxHeartbeats 2000000 in
theorem own_w {F : Fz} {w : World} (hF : Sat F w) (l : List Nd) (hn : l.length ≤ 1000) (A : Option Addr) (n c : Nat) (hl : NodesF F A n l) :
    Calls Try.prog 69 #[.slice A n c] w (RetI w (zs (ownS l))) := by
  have hR := fun b hb => treg_w hF l hn A n c hl b hb
  obtain ⟨rfl, hl2⟩ := hl
  cases hreg : regL l
  · have HR := Lib.hid (hR _ hreg)
    have HE := Lib.hid (ownS_no hreg)
    clear hR hreg hl2
    go_enter Try.func69, Try.ntmps69
    go_wp2_with (go_at_call 70; refine HR.out.mono ?_; rintro e w1 ⟨rfl, hw⟩)
    go_ret
    rw [HE.out]
    exact retI_nil hw
  · have HR := Lib.hid (hR _ hreg)
    obtain ⟨T, ht, hrk, he⟩ := ownS_yes hreg
    have HE := Lib.hid he
    have hv := regV_of (tree_valid ht) hrk
    have hst0 := stack_start (tree_flat ht) hv
    have hTl := tree_len ht
    have hTp := T.size_pos
    obtain ⟨ad, rfl, hL⟩ := hl2 (by omega)
    have hp0 : placeT (T, 0) = l.length - 1 := by simp [placeT, hTl]
    have HP0 : Hid (((l.length : Int) - 1) = ((placeT (T, 0) : Nat) : Int)) := Lib.hid (by rw [hp0]; omega)
    have HST := Lib.hid hst0
    have HTS : Hid (T.size ≤ 1000) := Lib.hid (by omega)
    clear hR hreg hl2 ht hrk hv hp0 hTl he hst0 hTp
    go_enter Try.func69, Try.ntmps69
    go_wp2_with (go_at_call 70; refine HR.out.mono ?_; rintro e w1 ⟨rfl, hw⟩)
    rw [HP0.out]
    have hz1 := hw.size
    have hF1 := hF.below hw
    have hN1 := Blk.new w1 3 #[.int .i64 (placeT (T, 0) : Nat)]
    go_loopw [3, 4, 5] (fun o v4 _ wr => ∃ (out : List Nat) (st : List TO) (A3 : Option Addr) (n3 c3 : Nat) (A4 : Option Addr) (n4 c4 : Nat), o = .slice A3 n3 c3 ∧ v4 = .slice A4 n4 c4 ∧ n3 ≤ c3 ∧ n4 ≤ c4 ∧ Hid (n4 = st.length) ∧ Hid (n3 = out.length) ∧ Hid (StackT l T out st) ∧ Own F wr w.heap.size 3 1 (.slice A3 n3 c3) n3 ((zs out).map encI) ∧ Own F wr w.heap.size 3 1 (.slice A4 n4 c4) n4 ((zs (st.reverse.map placeT)).map encI) ∧ Apart (.slice A3 n3 c3) (.slice A4 n4 c4) ∧ Below w.heap.size w wr) (fun o _ _ _ => T.size - lenV o)
    case atStart =>
      refine ⟨[], [(T, 0)], none, 0, 0, some ⟨w1.heap.size, 0, none⟩, 1, 1, rfl, rfl, Nat.le_refl _, Nat.le_refl _, Lib.hid rfl, Lib.hid rfl, HST, Own.nil _ _ _ _ _, ?_, apart_nil _, bthen hw (balloc _ _)⟩
      refine ⟨⟨rfl, .inr ⟨_, 1, _, rfl, hz1, hN1, Nat.le_refl _, by simp [maxLen], rfl, rfl⟩⟩, fun g hg => ?_⟩
      simp [Value.ownBlock] at hg
      subst hg
      exact hF1.none_ (Nat.le_refl _)
    case round =>
      obtain ⟨out, st, A3, n3, c3, A4, n4, c4, rfl, rfl, hc3, hc4, H4, H3, HS, hO3, hO4, hap, hbl⟩ := hrel
      rcases st with _ | ⟨p, st⟩
      · have h40 := H4.out
        rw [List.length_nil] at h40
        have h4I : decide (0 < n4) = false := decide_eq_false (by omega)
        clear h40
        have hout := stack_end HS.out
        have hlen : (zs out).length = n3 := by rw [length_zs, H3.out]
        have hn3 : n3 ≤ 1000 := by have := HS.out.2.2; have := HTS.out; have := H3.out; omega
        have hO3' := hO3
        rw [← hlen] at hO3'
        have hsort := sortI_w hO3' (hF.below hbl) hbl.size (by omega)
        rw [hlen] at hsort
        have HSO := Lib.hid hsort
        have HZ : Hid (((zs out).mergeSort fun x y => decide (x ≤ y)) = zs (ownT T 0)) := Lib.hid (by rw [hout, sort_own])
        have HLN : Hid (n3 = (zs (ownT T 0)).length) := Lib.hid (by rw [← HZ.out, List.length_mergeSort, hlen])
        clear hO3' hsort hout hlen
        go_wp2_with (go_at_call 76; refine HSO.out.mono ?_; rintro e w2 ⟨rfl, hO5, hb5, hF5⟩)
        rw [HZ.out] at hO5
        obtain ⟨A5, c5, e5, hc5, hrd5⟩ := hO5.rdH
        injection e5 with e51 _ e53
        subst e51 e53
        go_wp2_with fail
        go_ret
        rw [HE.out]
        refine ⟨A3, c3, by rw [← HLN.out]; rfl, by rw [← HLN.out]; exact hc3, by rw [← HLN.out]; exact hrd5, hbl.trans hb5⟩
      · obtain ⟨nd, subs, e1, e2, e3, e4, e5⟩ := stack_step HS.out
        have h4 := H4.out
        rw [List.length_cons] at h4
        obtain ⟨k, hk⟩ : ∃ k, st.length = k := ⟨_, rfl⟩
        rw [hk] at h4
        subst h4
        have hbound := HS.out.2.2
        have hslen := stack_len (st := p :: st)
        have hslen2 := stack_len (st := subs.reverse ++ st)
        have hb2 := e4.2.2
        simp only [List.length_append, List.length_reverse, List.length_singleton, List.length_cons] at hslen hslen2 hb2
        have hT := HTS.out
        have h3 := H3.out
        have hpl : placeT p < l.length := (List.getElem?_eq_some_iff.1 e1).1
        obtain ⟨Ak, ck, hck, hK, hd⟩ := hL _ hpl
        have hnd : l[placeT p] = nd := by rw [List.getElem?_eq_getElem hpl] at e1; injection e1
        rw [hnd] at hck hK hd
        have hrow : ((p :: st).reverse.map placeT) = st.reverse.map placeT ++ [placeT p] := by simp
        rw [hrow, zs_snoc, List.map_append] at hO4
        have hO4c := hO4.chop
        obtain ⟨A4', c4', e4', _, hrd4⟩ := hO4.rdH
        injection e4' with e41 e42 e43
        subst e41
        clear e42 e43
        obtain ⟨a4, v, rfl, hv, hcell⟩ := hrd4.at1 (k := k) (by omega)
        rw [List.getElem?_append_right (by simp [zs, hk])] at hv
        simp [zs, hk] at hv
        subst hv
        have hcz := (sat_heapF wr).cell hcell
        obtain ⟨i, hi⟩ : ∃ i, placeT p = i := ⟨_, rfl⟩
        rw [hi] at hd hcz hpl e4 e1
        have hiI : (i : Int) < (l.length : Int) := by omega
        have hF4 := hF.below hbl
        have hzl := hbl.size
        have hlt3 := fun g (h : (Value.slice A3 n3 c3).ownBlock = some g) => hO3.1.lt g h
        have hlt4 := fun g (h : (Value.slice (some a4) k c4).ownBlock = some g) => hO4c.1.lt g h
        have hap2 : Apart (.slice A3 n3 c3) (.slice (some a4) k c4) := hap
        have hO4r : Own F wr w.heap.size 3 1 (.slice (some a4) k c4) k ((zs (st.reverse.map placeT)).map encI) := hO4c
        have HZN : Hid (zs out ++ [(i : Int)] = zs (out ++ [i])) := Lib.hid (by rw [zs_snoc])
        have hk0 : (k : Int) + 1 > 0 := by omega
        have hkb : k ≤ 1000 := by omega
        have hnb : n3 ≤ 1000 := by omega
        have hkc : (k : Int) ≤ (c4 : Int) := by omega
        have HE4 := Lib.hid e4
        have HKL : Hid (nd.kids.length ≤ 1000 → True) := Lib.hid fun _ => trivial
        by_cases h19 : nd.kind = 19
        · have hs := e2 h19
          subst hs
          have h19b : (nd.kind != 19) = false := by rw [h19]; rfl
          clear e1 e2 e3 e4 e5 hnd hrow hO4 hO4c hrd4 hcell hbound hslen hslen2 h3 h19 hap hk hi hb2 hT
          go_wp2_with (at_builtin; refine wpList_pushI rfl (.tmp 27) (.tmp 29) rfl (hO3.alloc _) (hF4.alloc _) (by rfl) wr.heap.size 1 (i : Int) (by rfl) (Blk.new _ _ _) (by omega) (by simp; omega) ?_; intro v2 w2 hO2 hF2 hb2 hg2 hat2; obtain ⟨c0, c1, c2, c3', c4'⟩ := hd.sat hF2)
          rw [HZN.out] at hO2
          obtain ⟨A2, c2', rfl, hc2'⟩ := hO2.shape
          have hb3 := ((hbl.alloc hzl (.cells #[.int .i64 (i : Int)] 3)).trans hb2)
          go_roundw
          case rel =>
            exact ⟨out ++ [i], st, A2, n3 + 1, c2', some a4, k, c4, rfl, rfl, hc2', by omega, Lib.hid (by have := H4.out; simpa using this), Lib.hid (by rw [H3.out]; simp), Lib.hid (by simpa using HE4.out), hO2, (hO4r.alloc _).kept hg2 hap2.or, hap2.push (fun g h => by have := hlt4 g h; simp; omega) hat2, hb3⟩
          case measure =>
            have hx := HE4.out.2.2
            have h3 := H3.out
            simp only [List.length_append, List.length_singleton] at hx
            simp [lenV]
            omega
        · have h19b : (nd.kind != 19) = true := by rw [bne_iff_ne]; exact h19
          have hks := e3 h19
          have HKS := Lib.hid hks
          have hkl : nd.kids.length ≤ 1000 := by rw [hks, length_zs, List.length_map]; omega
          have HRW : Hid (zs (st.reverse.map placeT) ++ nd.kids = zs ((subs.reverse ++ st).reverse.map placeT)) := Lib.hid (by rw [hks]; simp [zs])
          have HSL : Hid (subs.length = nd.kids.length) := Lib.hid (by rw [hks]; simp [zs])
          clear e1 e2 e3 e4 e5 hnd hrow hO4 hO4c hrd4 hcell hbound hslen hslen2 h3 h19 hap hk hi hb2 hT hks
          go_wp2_with (first
            | (at_builtin; refine wpList_pushI rfl (.tmp 27) (.tmp 29) rfl (hO3.alloc _) (hF4.alloc _) (by rfl) wr.heap.size 1 (i : Int) (by rfl) (Blk.new _ _ _) (by omega) (by simp; omega) ?_; intro v2 w2 hO2 hF2 hb2 hg2 hat2; obtain ⟨c0, c1, c2, c3', c4'⟩ := hd.sat hF2; have hb3 := ((hbl.alloc hzl (.cells #[.int .i64 (i : Int)] 3)).trans hb2); have hO4w := (hO4r.alloc (.cells #[.int .i64 (i : Int)] 3)).kept hg2 hap2.or; have hapw := hap2.push (fun g h => by have := hlt4 g h; simp; omega) hat2)
            | (at_builtin; refine wpList_allI rfl (.tmp 37) (.tmp 42) rfl hO4w hF2 (by rfl) Ak nd.kids.length ck nd.kids (by rfl) hF2 hK (by omega) hb3.size ?_; intro v5 w5 hO5 hF5 hb5 hg5 hat5))
          rw [HZN.out] at hO2
          rw [HRW.out] at hO5
          obtain ⟨A2, c2', rfl, hc2'⟩ := hO2.shape
          obtain ⟨A5, c5', rfl, hc5'⟩ := hO5.shape
          have hlt2 := fun g (h : (Value.slice A2 (n3 + 1) c2').ownBlock = some g) => (hO2.1.lt g h).2
          go_roundw
          case rel =>
            exact ⟨out ++ [i], subs.reverse ++ st, A2, n3 + 1, c2', A5, k + nd.kids.length, c5', rfl, rfl, hc2', hc5', Lib.hid (by have h1 := H4.out; have h2 := HSL.out; simp only [List.length_cons, List.length_append, List.length_reverse] at h1 ⊢; omega), Lib.hid (by rw [H3.out]; simp), HE4, hO2.kept hg5 hapw.symm.or, hO5, (hapw.symm.push hlt2 hat5).symm, hb3.trans hb5⟩
          case measure =>
            have hx := HE4.out.2.2
            have h3 := H3.out
            simp only [List.length_append, List.length_singleton] at hx
            simp [lenV]
            omega
end Go.Proofs.Ytaomehlhopiblaa
/-! The walks of paths.kind, Tests, Steps. -/
namespace Go.Proofs.Ytaomehlhopiblaa
open Go.RowKit
def kindS (l : List Nd) (k : Int) : List Nat := (ownS l).filter fun p => decide (kindAt l p = k)
theorem ownS_lt {l : List Nd} {p : Nat} (h : p ∈ ownS l) : p < l.length := by
  cases hreg : regL l with
  | false => rw [ownS_no hreg] at h; cases h
  | true =>
    obtain ⟨t, ht, _, he⟩ := ownS_yes hreg
    rw [he] at h
    have := own_bounds t 0 p h
    rw [tree_len ht]; omega
theorem ownS_len (l : List Nd) : (ownS l).length ≤ l.length := by
  cases hreg : regL l with
  | false => rw [ownS_no hreg]; simp
  | true =>
    obtain ⟨t, ht, _, he⟩ := ownS_yes hreg
    rw [he, own_filter, List.length_map, tree_len ht]
    exact Nat.le_trans (List.length_filter_le _ _) (by simp)
theorem kindAt_get {l : List Nd} {p : Nat} (h : p < l.length) : kindAt l p = l[p].kind := by unfold kindAt; rw [List.getElem?_eq_getElem h]
set_option maxRecDepth 100000 in
set_option maxHeartbeats 1000000 in
theorem kind_wF {F : Fz} {w : World} (hF : Sat F w) (l : List Nd) (hn : l.length ≤ 1000) (A : Option Addr) (n c : Nat) (hl : NodesF F A n l) (k : Int) :
    Calls Try.prog 58 #[.slice A n c, .int .i64 k] w (RetIF w (zs (kindS l k))) := by
  have hO := own_w hF l hn A n c hl
  have hle := ownS_len l
  have hlt := fun p (h : p ∈ ownS l) => ownS_lt h
  have hks : kindS l k = (ownS l).filter fun p => decide (kindAt l p = k) := rfl
  obtain ⟨rfl, hl2⟩ := hl
  generalize ownS l = os at *
  have HO := Lib.hid hO
  have HLT := Lib.hid hlt
  have HK := Lib.hid hks
  obtain ⟨N, hN⟩ : ∃ N, os.length = N := ⟨_, rfl⟩
  have HN := Lib.hid hN
  rw [hN] at hle
  clear hO hlt hks hN
  go_enter Try.func58, Try.ntmps58
  go_wp2_with (go_at_call 69; refine HO.out.mono ?_; rintro e w1 ⟨A1, c1, rfl, hc1, hr1, hb1⟩; rw [length_zs, HN.out] at hr1 hc1; rw [length_zs, HN.out])
  have hz1 := hb1.size
  have hF1 := hF.below hb1
  go_loopw [5, 7, 11] (fun o _ i wr => ∃ (m : Nat) (xs : List Nat) (A3 : Option Addr) (n3 c3 : Nat), m ≤ N ∧ i = .int .i64 m ∧ o = .slice A3 n3 c3 ∧ n3 ≤ m ∧ Hid (xs = (os.take m).filter fun p => decide (kindAt l p = k)) ∧ Own (heapF w1) wr w1.heap.size 3 1 (.slice A3 n3 c3) n3 ((zs xs).map encI) ∧ Hid (n3 = xs.length) ∧ Below w1.heap.size w1 wr) (fun _ _ i _ => N - (intOf i).toNat)
  case atStart => exact ⟨0, [], none, 0, 0, Nat.zero_le _, rfl, rfl, Nat.le_refl _, Lib.hid (by simp), Own.nil _ _ _ _ _, Lib.hid rfl, Below.refl _ _⟩
  case round =>
    obtain ⟨m, xs, A3, n3, c3, hm, rfl, rfl, hn3, HX, hO3, H3, hbl⟩ := hrel
    have hzl := hbl.size
    by_cases hmN : m < N
    · have hmI : (m : Int) < (N : Int) := by omega
      have hmo : m < os.length := by rw [HN.out]; exact hmN
      obtain ⟨a1, v, rfl, hv, hcell⟩ := hr1.at1 hmN
      have hx : ((zs os).map encI)[m]? = some (encI (os[m] : Nat)) := by simp [zs, hmo]
      rw [hx] at hv
      simp only [Option.some.injEq] at hv
      subst hv
      have hcz := ((sat_heapF w1).below hbl).cell hcell
      have hpl := HLT.out _ (List.getElem_mem hmo)
      have htk : (os.take (m + 1)).filter (fun p => decide (kindAt l p = k)) = xs ++ if kindAt l os[m] = k then [os[m]] else [] := by
        rw [List.take_succ_eq_append_getElem hmo, List.filter_append, HX.out]
        by_cases h : kindAt l os[m] = k <;> simp [h]
      rw [kindAt_get hpl] at htk
      generalize os[m] = p at *
      obtain ⟨ad, rfl, hL⟩ := hl2 (by omega)
      obtain ⟨Ak, ck, _, _, hd⟩ := hL p hpl
      obtain ⟨c0, _, _, _, _⟩ := hd.sat (hF1.below hbl)
      have hplI : (p : Int) < (l.length : Int) := by omega
      generalize l[p] = nd at *
      have HTK := Lib.hid htk
      clear htk hx hcell hd
      by_cases hk : nd.kind = k
      · have hkb : (nd.kind == k) = true := by rw [hk]; simp
        have HTK2 : Hid ((os.take (m + 1)).filter (fun p => decide (kindAt l p = k)) = xs ++ [p]) := Lib.hid (by rw [HTK.out, if_pos hk])
        have HZS : Hid (zs xs ++ [(p : Int)] = zs (xs ++ [p])) := Lib.hid (by rw [zs_snoc])
        clear hk
        go_wp2_with (at_builtin; refine wpList_pushI rfl (.tmp 22) (.tmp 24) rfl (hO3.alloc _) (((sat_heapF w1).below hbl).alloc _) (by rfl) wr.heap.size 1 (p : Int) (by rfl) (Blk.new _ _ _) (by omega) (by simp; omega) ?_; intro v2 w2 hO2 hF2 hb2 hg2 hat2)
        rw [HZS.out] at hO2
        obtain ⟨A2, c2, rfl, hc2⟩ := hO2.shape
        have hS2 := (hbl.alloc hzl (.cells #[.int .i64 (p : Int)] 3)).trans hb2
        go_roundw
        case rel => exact ⟨m + 1, xs ++ [p], A2, n3 + 1, c2, by omega, by go_num, rfl, by omega, Lib.hid HTK2.out.symm, hO2, Lib.hid (by rw [H3.out]; simp), hS2⟩
        case measure => simp [intOf]; omega
      · have hkb : (nd.kind == k) = false := by rw [beq_eq_false_iff_ne]; exact hk
        have HTK2 : Hid ((os.take (m + 1)).filter (fun p => decide (kindAt l p = k)) = xs) := Lib.hid (by rw [HTK.out, if_neg hk]; simp)
        clear hk
        go_wp2_with fail
        go_roundw
        case rel => exact ⟨m + 1, xs, A3, n3, c3, by omega, by go_num, rfl, by omega, Lib.hid HTK2.out.symm, hO3, H3, hbl⟩
        case measure => simp [intOf]; omega
    · obtain rfl : m = N := by omega
      have hdec : decide ((m : Int) < (m : Int)) = false := decide_eq_false (by omega)
      have HZ : Hid (zs xs = zs (kindS l k)) := Lib.hid (by rw [HX.out, ← HN.out, List.take_length, HK.out])
      have HL3 : Hid (n3 = (zs (kindS l k)).length) := Lib.hid (by rw [← HZ.out, length_zs, H3.out])
      go_wp2_with fail
      go_ret
      obtain ⟨A5, c5, e5, hc5, hrd5⟩ := hO3.rdH
      injection e5 with e51 e52 e53
      subst e51 e53
      rw [HZ.out] at hrd5
      exact ⟨A3, c3, by rw [← HL3.out]; rfl, by rw [← HL3.out]; exact hc5, by rw [← HL3.out]; exact hrd5, hb1.trans (hbl.mono hz1), fun a ha => Nat.le_trans hz1 (hO3.fresh a ha)⟩
theorem tests_wF {F : Fz} {w : World} (hF : Sat F w) (l : List Nd) (hn : l.length ≤ 1000) (A : Option Addr) (n c : Nat) (hl : NodesF F A n l) :
    Calls Try.prog 37 #[.slice A n c] w (RetIF w (zs (kindS l 19))) := by
  have hK := kind_wF hF l hn A n c hl 19
  generalize zs (kindS l 19) = xs at *
  obtain ⟨N, hN⟩ : ∃ N, xs.length = N := ⟨_, rfl⟩
  have HK := Lib.hid hK
  have HN := Lib.hid hN
  clear hK hN
  go_enter Try.func37, Try.ntmps37
  go_wp2_with (go_at_call 58; refine HK.out.mono ?_; rintro e w1 ⟨A1, c1, rfl, hc1, hr1, hb1, hf1⟩; rw [HN.out] at hr1 hc1; rw [HN.out])
  go_ret
  exact ⟨A1, c1, by rw [HN.out]; rfl, by rw [HN.out]; exact hc1, by rw [HN.out]; exact hr1, hb1, hf1⟩
theorem steps_wF {F : Fz} {w : World} (hF : Sat F w) (l : List Nd) (hn : l.length ≤ 1000) (A : Option Addr) (n c : Nat) (hl : NodesF F A n l) :
    Calls Try.prog 57 #[.slice A n c] w (RetIF w (zs (kindS l 18))) := by
  have hK := kind_wF hF l hn A n c hl 18
  generalize zs (kindS l 18) = xs at *
  obtain ⟨N, hN⟩ : ∃ N, xs.length = N := ⟨_, rfl⟩
  have HK := Lib.hid hK
  have HN := Lib.hid hN
  clear hK hN
  go_enter Try.func57, Try.ntmps57
  go_wp2_with (go_at_call 58; refine HK.out.mono ?_; rintro e w1 ⟨A1, c1, rfl, hc1, hr1, hb1, hf1⟩; rw [HN.out] at hr1 hc1; rw [HN.out])
  go_ret
  exact ⟨A1, c1, by rw [HN.out]; rfl, by rw [HN.out]; exact hc1, by rw [HN.out]; exact hr1, hb1, hf1⟩
end Go.Proofs.Ytaomehlhopiblaa
