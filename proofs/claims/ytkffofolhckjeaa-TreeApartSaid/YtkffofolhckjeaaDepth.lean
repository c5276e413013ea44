/- The walks of tree.Depth and of the reference's Depth. -/
import Derived.Test.YtkffofolhckjeaaRMay
import Derived.Test.YtkffofolhckjeaaTreeP
import Derived.Test.YtkffofolhckjeaaNodes
set_option linter.unusedVariables false
set_option linter.unusedSimpArgs false
namespace Go.Proofs.Ytkffofolhckjeaa
open Go.RowKit
set_option maxRecDepth 100000 in
set_option maxHeartbeats 4000000 in
theorem depth_w {F : Fz} {w : World} (hF : Sat F w) (l : List Nd) (hn : l.length ≤ 1000) (A : Option Addr) (n c : Nat) (hl : NodesF F A n l) :
    Calls Try.prog 50 #[.slice A n c] w fun e w' => e = .returned (.int .i64 (depthL l : Int)) ∧ Below w.heap.size w w' := by
  have HL := Lib.hid hl
  obtain ⟨rfl, hl2⟩ := hl
  cases ht : treeS l with
  | none =>
    have HS := Lib.hid (may_w hF l hn A _ c HL.out false (by unfold mayS; rw [ht]; rfl))
    have HB : Hid (depthL l = 0) := Lib.hid (by unfold depthL; rw [ht])
    clear ht hl2
    go_enter Try.func50, Try.ntmps50
    go_wp2_with (go_at_call 58; refine HS.out.mono ?_; rintro e w' ⟨rfl, hw⟩)
    go_ret
    exact ⟨by rw [HB.out] <;> rfl, hw⟩
  | some t =>
    have HS := Lib.hid (may_w hF l hn A _ c HL.out true (by unfold mayS; rw [ht]; rfl))
    have h0' : 0 < l.length := by have := tree_len ht; have := t.size_pos; omega
    have HT := Lib.hid ht
    have HB : Hid (depthL l = t.depth) := Lib.hid (by unfold depthL; rw [ht])
    clear ht
    obtain ⟨ad, rfl, hL⟩ := hl2 h0'
    have hmk := fun (w : World) => makeI (w := w) l.length (by omega)
    go_enter Try.func50, Try.ntmps50
    go_wp2_with (go_at_call 58; refine HS.out.mono ?_; rintro e w0 ⟨rfl, hw⟩)
    have hwz := hw.size
    go_loopw [4, 5, 7, 16] (fun _ _ _ i wr => ∃ k : Nat, k ≤ l.length ∧ i = .int .i64 k ∧ Below w.heap.size w wr ∧ w0.heap.size < wr.heap.size ∧ ∃ st, Hid (parseS (l.take k) = some st) ∧ Blk wr w0.heap.size 3 ((depthsOf st ++ List.replicate (l.length - k) 0).map encN).toArray) (fun _ _ _ i _ => l.length - (intOf i).toNat)
    case atStart => exact ⟨0, Nat.zero_le _, rfl, bthen hw (balloc _ _), by simp, [], Lib.hid rfl, by rw [show depthsOf [] = [] from rfl, List.nil_append, Nat.sub_zero, List.map_replicate]; exact Blk.new _ _ _⟩
    case round =>
      obtain ⟨k, hk, rfl, hbl, hsz, st, hst, hB⟩ := hrel
      by_cases hlt : k < l.length
      · obtain ⟨Ak, ck, hck, hK, hd⟩ := hL k hlt
        obtain ⟨c0, c1, c2, c3, c4⟩ := hd.sat (hF.below hbl)
        have hltI : (k : Int) < (l.length : Int) := by omega
        obtain ⟨st', hpush, hpk⟩ := push_of_tree HT.out hlt hst.out
        have hk22 : l[k].kids.length ≤ 2 := by have h1 := fields_kids (pushS_some hpush).1; have h2 := arity_le l[k].kind; omega
        obtain ⟨t', st0, rfl, hdep, hkb⟩ := push_depth hpush
        obtain ⟨t1, st1, e1, hszs, hds⟩ := push_sizes hpush
        injection e1 with e1 e2
        subst e1 e2
        have htot := parse_total hst.out
        rw [List.length_take, Nat.min_eq_left hk] at htot
        have hlen := length_depthsOf st
        have hle := depthsOf_le st
        rw [htot] at hlen hle hkb
        rw [hdep] at hds
        generalize hnd : l[k] = nd at *
        have HPK := Lib.hid hpk
        have HDS := Lib.hid hds
        have hB0 : Blk (wr.alloc (.cells #[.int .i64 nd.kind, .string nd.name, .int .i64 nd.lo, .int .i64 nd.hi, .slice Ak nd.kids.length ck] 57)) w0.heap.size 3 ((depthsOf st ++ maxD (depthsOf st) (nd.kids.take 0) :: List.replicate (l.length - (k + 1)) 0).map encN).toArray := by
          have := hB.alloc (.cells #[.int .i64 nd.kind, .string nd.name, .int .i64 nd.lo, .int .i64 nd.hi, .slice Ak nd.kids.length ck] 57)
          rw [show l.length - k = (l.length - (k + 1)) + 1 by omega, List.replicate_succ] at this
          exact this
        have HLE := Lib.hid hle
        have HLN := Lib.hid hlen
        have HKB := Lib.hid hkb
        clear hszs hnd hd hpk hds hdep hpush htot hB hlen hle hkb
        have hbr : Below w.heap.size w (wr.alloc (.cells #[.int .i64 nd.kind, .string nd.name, .int .i64 nd.lo, .int .i64 nd.hi, .slice Ak nd.kids.length ck] 57)) := bthen hbl (balloc _ _)
        go_wp2_with fail
        go_loopw [7, 24] (fun _ j wr2 => ∃ jj : Nat, jj ≤ nd.kids.length ∧ j = .int .i64 jj ∧ Below w.heap.size w wr2 ∧ w0.heap.size < wr2.heap.size ∧ Blk wr2 w0.heap.size 3 ((depthsOf st ++ maxD (depthsOf st) (nd.kids.take jj) :: List.replicate (l.length - (k + 1)) 0).map encN).toArray) (fun _ j _ => nd.kids.length - (intOf j).toNat)
        case atStart => exact ⟨0, Nat.zero_le _, rfl, hbr, by simp; omega, hB0⟩
        case round =>
          obtain ⟨jj, hjj, rfl, hb2, hsz2, hB2⟩ := hrel
          have hgk : ((depthsOf st ++ maxD (depthsOf st) (nd.kids.take jj) :: List.replicate (l.length - (k + 1)) 0))[k]? = some (maxD (depthsOf st) (nd.kids.take jj)) := by
            rw [List.getElem?_append_right (by rw [HLN.out]; exact Nat.le_refl _), HLN.out, Nat.sub_self]; rfl
          have hck' := hB2.cellL hgk
          have hfz := hB2.frozen k
          have hmle : maxD (depthsOf st) (nd.kids.take jj) ≤ 1000 := by have := maxD_le HLE.out (nd.kids.take jj); omega
          by_cases hjl : jj < nd.kids.length
          · obtain ⟨Akd, v, rfl, hv, hcell⟩ := hK.at1 hjl
            obtain rfl : Value.int .i64 nd.kids[jj] = v := by simpa [hjl] using hv
            have hcz := (hF.below hb2).cell hcell
            obtain ⟨hk0, hk1⟩ := HKB.out _ (List.getElem_mem hjl)
            have hsn := maxD_snoc (depthsOf st) (nd.kids.take jj) nd.kids[jj]
            rw [← List.take_succ_eq_append_getElem hjl] at hsn
            generalize nd.kids[jj] = K at *
            obtain ⟨T, rfl⟩ := Int.eq_ofNat_of_zero_le hk0
            have hTl : T < (depthsOf st).length := by rw [HLN.out]; omega
            have hg1 : (depthsOf st)[T]? = some (depthsOf st)[T] := List.getElem?_eq_getElem hTl
            have hTd : (depthsOf st)[T] ≤ 1000 := by have := HLE.out _ _ hg1; omega
            have hcT := hB2.cellL (k := T) (x := (depthsOf st)[T]) (by rw [List.getElem?_append_left hTl]; exact hg1)
            rw [Int.toNat_natCast, getD_of hg1] at hsn
            have hset : (depthsOf st ++ maxD (depthsOf st) (nd.kids.take jj) :: List.replicate (l.length - (k + 1)) 0).set k (maxD (depthsOf st) (nd.kids.take (jj + 1))) = depthsOf st ++ maxD (depthsOf st) (nd.kids.take (jj + 1)) :: List.replicate (l.length - (k + 1)) 0 := by
              rw [List.set_append_right _ _ (by rw [HLN.out]; exact Nat.le_refl _), HLN.out, Nat.sub_self]; rfl
            rw [hsn] at hset
            have HSET := Lib.hid hset
            have HSN := Lib.hid hsn
            have hTI : (T : Int) < (l.length : Int) := by omega
            have hjI : (jj : Int) < (nd.kids.length : Int) := by omega
            generalize (depthsOf st)[T] = dT at *
            clear hset hsn hv hcell hg1 hgk
            generalize hm1 : maxD (depthsOf st) (nd.kids.take jj) = m1 at *
            clear hm1
            go_wp2_with fail
            go_region
            go_wp2_with fail
            go_roundw
            case rel => exact ⟨jj + 1, by omega, by go_num, by first | exact (hb2.setCell (Nat.le_trans (Nat.le_refl _) hwz) _).drew | exact hb2.drew.setCell hwz _, by simpa using hsz2, by
              rw [HSN.out]
              rw [show (if m1 < dT then (dT : Int) else (m1 : Int)) = ((max m1 dT : Nat) : Int) by split <;> omega]
              first | exact (hB2.setL k _ HSET.out) | exact (hB2.drew.setL k _ HSET.out)⟩
            case measure => simp [intOf]; omega
          · obtain rfl : jj = nd.kids.length := by omega
            have hdec : decide ((nd.kids.length : Int) < (nd.kids.length : Int)) = false := decide_eq_false (by omega)
            rw [List.take_length] at hgk hck' hmle
            have hset : (depthsOf st ++ maxD (depthsOf st) nd.kids :: List.replicate (l.length - (k + 1)) 0).set k (maxD (depthsOf st) nd.kids + 1) = depthsOf (t' :: st0) ++ List.replicate (l.length - (k + 1)) 0 := by
              rw [List.set_append_right _ _ (by rw [HLN.out]; exact Nat.le_refl _), HLN.out, Nat.sub_self, HDS.out, List.append_assoc]; rfl
            have HSET := Lib.hid hset
            rw [List.take_length] at hB2
            clear hset hgk
            generalize maxD (depthsOf st) nd.kids = m1 at *
            go_wp2_with fail
            go_roundw
            case rel => exact ⟨k + 1, by omega, by go_num, hb2.setCell hwz _, by simpa using hsz2, _, HPK, hB2.setL k _ HSET.out⟩
            case measure => simp [intOf]; omega
      · obtain rfl : k = l.length := by omega
        have hp := hst.out
        rw [List.take_length, tree_parse HT.out] at hp
        injection hp with hp
        subst hp
        have htl := tree_len HT.out
        have htp := t.size_pos
        have hN : ((l.length : Int) - 1).toNat = l.length - 1 := by omega
        have hsub : ((l.length : Int) - 1) = ((l.length - 1 : Nat) : Int) := by omega
        have hsubI : (l.length : Int) - 1 < (l.length : Int) := by omega
        have hsub0 : (0 : Int) ≤ (l.length : Int) - 1 := by omega
        have hltI : decide ((l.length : Int) < (l.length : Int)) = false := decide_eq_false (by omega)
        have hoc := hB.cellL (k := l.length - 1) (x := t.depth) (by
          rw [Nat.sub_self, List.replicate_zero, List.append_nil]
          have := get_depthsOf [] t []
          rw [List.nil_append, total_cons] at this
          rw [htl]
          exact this)
        clear htl htp
        go_wp2_with fail
        go_ret
        exact ⟨by rw [HB.out] <;> rfl, hbl⟩
set_option maxRecDepth 100000 in
set_option maxHeartbeats 4000000 in
theorem rdepth_w {F : Fz} {w : World} (hF : Sat F w) (l : List Nd) (hn : l.length ≤ 1000) (A : Option Addr) (n c : Nat) (hl : NodesF F A n l) :
    Calls Try.prog 62 #[.slice A n c] w fun e w' => e = .returned (.int .i64 (depthL l : Int)) ∧ Below w.heap.size w w' := by
  have HL := Lib.hid hl
  obtain ⟨rfl, hl2⟩ := hl
  cases ht : treeS l with
  | none =>
    have HS := Lib.hid (rmay_w hF l hn A _ c HL.out false (by unfold mayS; rw [ht]; rfl))
    have HB : Hid (depthL l = 0) := Lib.hid (by unfold depthL; rw [ht])
    clear ht hl2
    go_enter Try.func62, Try.ntmps62
    go_wp2_with (go_at_call 48; refine HS.out.mono ?_; rintro e w' ⟨rfl, hw⟩)
    go_ret
    exact ⟨by rw [HB.out] <;> rfl, hw⟩
  | some t =>
    have HS := Lib.hid (rmay_w hF l hn A _ c HL.out true (by unfold mayS; rw [ht]; rfl))
    have h0' : 0 < l.length := by have := tree_len ht; have := t.size_pos; omega
    have HT := Lib.hid ht
    have HB : Hid (depthL l = t.depth) := Lib.hid (by unfold depthL; rw [ht])
    clear ht
    obtain ⟨ad, rfl, hL⟩ := hl2 h0'
    have hmk := fun (w : World) => makeI (w := w) l.length (by omega)
    go_enter Try.func62, Try.ntmps62
    go_wp2_with (go_at_call 48; refine HS.out.mono ?_; rintro e w0 ⟨rfl, hw⟩)
    have hwz := hw.size
    go_loopw [4, 5, 7, 16] (fun _ _ _ i wr => ∃ k : Nat, k ≤ l.length ∧ i = .int .i64 k ∧ Below w.heap.size w wr ∧ w0.heap.size < wr.heap.size ∧ ∃ st, Hid (parseS (l.take k) = some st) ∧ Blk wr w0.heap.size 3 ((depthsOf st ++ List.replicate (l.length - k) 0).map encN).toArray) (fun _ _ _ i _ => l.length - (intOf i).toNat)
    case atStart => exact ⟨0, Nat.zero_le _, rfl, bthen hw (balloc _ _), by simp, [], Lib.hid rfl, by rw [show depthsOf [] = [] from rfl, List.nil_append, Nat.sub_zero, List.map_replicate]; exact Blk.new _ _ _⟩
    case round =>
      obtain ⟨k, hk, rfl, hbl, hsz, st, hst, hB⟩ := hrel
      by_cases hlt : k < l.length
      · obtain ⟨Ak, ck, hck, hK, hd⟩ := hL k hlt
        obtain ⟨c0, c1, c2, c3, c4⟩ := hd.sat (hF.below hbl)
        have hltI : (k : Int) < (l.length : Int) := by omega
        obtain ⟨st', hpush, hpk⟩ := push_of_tree HT.out hlt hst.out
        have hk22 : l[k].kids.length ≤ 2 := by have h1 := fields_kids (pushS_some hpush).1; have h2 := arity_le l[k].kind; omega
        obtain ⟨t', st0, rfl, hdep, hkb⟩ := push_depth hpush
        obtain ⟨t1, st1, e1, hszs, hds⟩ := push_sizes hpush
        injection e1 with e1 e2
        subst e1 e2
        have htot := parse_total hst.out
        rw [List.length_take, Nat.min_eq_left hk] at htot
        have hlen := length_depthsOf st
        have hle := depthsOf_le st
        rw [htot] at hlen hle hkb
        rw [hdep] at hds
        generalize hnd : l[k] = nd at *
        have HPK := Lib.hid hpk
        have HDS := Lib.hid hds
        have hB0 : Blk (wr.alloc (.cells #[.int .i64 nd.kind, .string nd.name, .int .i64 nd.lo, .int .i64 nd.hi, .slice Ak nd.kids.length ck] 57)) w0.heap.size 3 ((depthsOf st ++ maxD (depthsOf st) (nd.kids.take 0) :: List.replicate (l.length - (k + 1)) 0).map encN).toArray := by
          have := hB.alloc (.cells #[.int .i64 nd.kind, .string nd.name, .int .i64 nd.lo, .int .i64 nd.hi, .slice Ak nd.kids.length ck] 57)
          rw [show l.length - k = (l.length - (k + 1)) + 1 by omega, List.replicate_succ] at this
          exact this
        have HLE := Lib.hid hle
        have HLN := Lib.hid hlen
        have HKB := Lib.hid hkb
        clear hszs hnd hd hpk hds hdep hpush htot hB hlen hle hkb
        have hbr : Below w.heap.size w (wr.alloc (.cells #[.int .i64 nd.kind, .string nd.name, .int .i64 nd.lo, .int .i64 nd.hi, .slice Ak nd.kids.length ck] 57)) := bthen hbl (balloc _ _)
        go_wp2_with fail
        go_loopw [7, 24] (fun _ j wr2 => ∃ jj : Nat, jj ≤ nd.kids.length ∧ j = .int .i64 jj ∧ Below w.heap.size w wr2 ∧ w0.heap.size < wr2.heap.size ∧ Blk wr2 w0.heap.size 3 ((depthsOf st ++ maxD (depthsOf st) (nd.kids.take jj) :: List.replicate (l.length - (k + 1)) 0).map encN).toArray) (fun _ j _ => nd.kids.length - (intOf j).toNat)
        case atStart => exact ⟨0, Nat.zero_le _, rfl, hbr, by simp; omega, hB0⟩
        case round =>
          obtain ⟨jj, hjj, rfl, hb2, hsz2, hB2⟩ := hrel
          have hgk : ((depthsOf st ++ maxD (depthsOf st) (nd.kids.take jj) :: List.replicate (l.length - (k + 1)) 0))[k]? = some (maxD (depthsOf st) (nd.kids.take jj)) := by
            rw [List.getElem?_append_right (by rw [HLN.out]; exact Nat.le_refl _), HLN.out, Nat.sub_self]; rfl
          have hck' := hB2.cellL hgk
          have hfz := hB2.frozen k
          have hmle : maxD (depthsOf st) (nd.kids.take jj) ≤ 1000 := by have := maxD_le HLE.out (nd.kids.take jj); omega
          by_cases hjl : jj < nd.kids.length
          · obtain ⟨Akd, v, rfl, hv, hcell⟩ := hK.at1 hjl
            obtain rfl : Value.int .i64 nd.kids[jj] = v := by simpa [hjl] using hv
            have hcz := (hF.below hb2).cell hcell
            obtain ⟨hk0, hk1⟩ := HKB.out _ (List.getElem_mem hjl)
            have hsn := maxD_snoc (depthsOf st) (nd.kids.take jj) nd.kids[jj]
            rw [← List.take_succ_eq_append_getElem hjl] at hsn
            generalize nd.kids[jj] = K at *
            obtain ⟨T, rfl⟩ := Int.eq_ofNat_of_zero_le hk0
            have hTl : T < (depthsOf st).length := by rw [HLN.out]; omega
            have hg1 : (depthsOf st)[T]? = some (depthsOf st)[T] := List.getElem?_eq_getElem hTl
            have hTd : (depthsOf st)[T] ≤ 1000 := by have := HLE.out _ _ hg1; omega
            have hcT := hB2.cellL (k := T) (x := (depthsOf st)[T]) (by rw [List.getElem?_append_left hTl]; exact hg1)
            rw [Int.toNat_natCast, getD_of hg1] at hsn
            have hset : (depthsOf st ++ maxD (depthsOf st) (nd.kids.take jj) :: List.replicate (l.length - (k + 1)) 0).set k (maxD (depthsOf st) (nd.kids.take (jj + 1))) = depthsOf st ++ maxD (depthsOf st) (nd.kids.take (jj + 1)) :: List.replicate (l.length - (k + 1)) 0 := by
              rw [List.set_append_right _ _ (by rw [HLN.out]; exact Nat.le_refl _), HLN.out, Nat.sub_self]; rfl
            rw [hsn] at hset
            have HSET := Lib.hid hset
            have HSN := Lib.hid hsn
            have hTI : (T : Int) < (l.length : Int) := by omega
            have hjI : (jj : Int) < (nd.kids.length : Int) := by omega
            generalize (depthsOf st)[T] = dT at *
            clear hset hsn hv hcell hg1 hgk
            generalize hm1 : maxD (depthsOf st) (nd.kids.take jj) = m1 at *
            clear hm1
            go_wp2_with fail
            go_region
            go_wp2_with fail
            go_roundw
            case rel => exact ⟨jj + 1, by omega, by go_num, by first | exact (hb2.setCell (Nat.le_trans (Nat.le_refl _) hwz) _).drew | exact hb2.drew.setCell hwz _, by simpa using hsz2, by
              rw [HSN.out]
              rw [show (if m1 < dT then (dT : Int) else (m1 : Int)) = ((max m1 dT : Nat) : Int) by split <;> omega]
              first | exact (hB2.setL k _ HSET.out) | exact (hB2.drew.setL k _ HSET.out)⟩
            case measure => simp [intOf]; omega
          · obtain rfl : jj = nd.kids.length := by omega
            have hdec : decide ((nd.kids.length : Int) < (nd.kids.length : Int)) = false := decide_eq_false (by omega)
            rw [List.take_length] at hgk hck' hmle
            have hset : (depthsOf st ++ maxD (depthsOf st) nd.kids :: List.replicate (l.length - (k + 1)) 0).set k (maxD (depthsOf st) nd.kids + 1) = depthsOf (t' :: st0) ++ List.replicate (l.length - (k + 1)) 0 := by
              rw [List.set_append_right _ _ (by rw [HLN.out]; exact Nat.le_refl _), HLN.out, Nat.sub_self, HDS.out, List.append_assoc]; rfl
            have HSET := Lib.hid hset
            rw [List.take_length] at hB2
            clear hset hgk
            generalize maxD (depthsOf st) nd.kids = m1 at *
            go_wp2_with fail
            go_roundw
            case rel => exact ⟨k + 1, by omega, by go_num, hb2.setCell hwz _, by simpa using hsz2, _, HPK, hB2.setL k _ HSET.out⟩
            case measure => simp [intOf]; omega
      · obtain rfl : k = l.length := by omega
        have hp := hst.out
        rw [List.take_length, tree_parse HT.out] at hp
        injection hp with hp
        subst hp
        have htl := tree_len HT.out
        have htp := t.size_pos
        have hN : ((l.length : Int) - 1).toNat = l.length - 1 := by omega
        have hsub : ((l.length : Int) - 1) = ((l.length - 1 : Nat) : Int) := by omega
        have hsubI : (l.length : Int) - 1 < (l.length : Int) := by omega
        have hsub0 : (0 : Int) ≤ (l.length : Int) - 1 := by omega
        have hltI : decide ((l.length : Int) < (l.length : Int)) = false := decide_eq_false (by omega)
        have hoc := hB.cellL (k := l.length - 1) (x := t.depth) (by
          rw [Nat.sub_self, List.replicate_zero, List.append_nil]
          have := get_depthsOf [] t []
          rw [List.nil_append, total_cons] at this
          rw [htl]
          exact this)
        clear htl htp
        go_wp2_with fail
        go_ret
        exact ⟨by rw [HB.out] <;> rfl, hbl⟩
end Go.Proofs.Ytkffofolhckjeaa
