/- The walks of sat's logic. -/
import Derived.Test.YtdbbooibkiicnaaGreatSatT
import Derived.Laws.EntriesVeiled
set_option linter.unusedVariables false
set_option linter.unusedSimpArgs false
/-! The walks of sat's logic. -/
namespace Go.Proofs.YtdbbooibkiicnaaGreat
open Go.RowKit
theorem bel_eqv0 {B : Nat} {w w3 : World} (h : Below B w.drew w3) : Below B w w3 := ⟨h.os, h.tape, h.output, h.size, h.block⟩
set_option maxRecDepth 100000 in
theorem kid2_w {F : Fz} {gx gb gn ga N : Nat} {ak : Addr} {nk ck k q g n : Nat} {r : Nat → Bool} (h : KidF F gx gb gn ga N ak nk ck k q g n r) {X : World} (hX : Sat F X) (i : Nat) (hi : i < n) :
    Calls Tryz.prog 92 #[.int .i64 (k : Nat), .int .i64 (i : Nat), .pointer (some ⟨gb, 0, none⟩), .pointer (some ⟨gn, 0, none⟩)] X fun e X' => e = .returned (.bool (r i)) ∧ Below X.heap.size X X' := by
  have c0 := hX.cell h.b0
  have c1 := hX.cell h.x3
  have c2 := hX.cell h.n4
  have c3 := hX.cell h.kd
  have c4 := hX.cell h.at_
  have c5 := hX.cell (h.row.cell hi)
  have hkI : (k : Int) < (nk : Int) := by have := h.kk; omega
  have hqI : (q : Int) < (N : Int) := by have := h.qN; omega
  have hiI : (i : Int) < (n : Int) := by omega
  clear h
  go_enter Tryz.func92, Tryz.ntmps92
  go_wp2_with fail
  go_quiet (fail)
  go_wp2_with fail
  go_ret
  exact ⟨rfl, below_drewN (Below.refl _ _) _⟩
/-- What the node says, by its kids. -/
def logicS (kind : Int) (hol v w : Nat → Bool) (i : Nat) : Bool :=
  if kind = 1 then true else if kind = 3 then hol i else if kind = 4 then !v i else if kind = 5 then v i && w i else if kind = 6 then v i || w i else if kind = 7 then !v i || w i else false
/-- What of memory logic's closure leans on. -/
structure NodL (F : Fz) (gx gb gn gq : Nat) (kind : Int) (name : ByteArray) : Prop where
  b0 : F.cell ⟨gb, 0, none⟩ = some (.pointer (some ⟨gx, 0, none⟩))
  n0 : F.cell ⟨gn, 0, none⟩ = some (.int .i64 kind)
  n1 : F.cell ⟨gn, 1, none⟩ = some (.string name)
  q0 : F.cell ⟨gq, 0, none⟩ = some (.func (.func 92) #[] #[.pointer (some ⟨gb, 0, none⟩), .pointer (some ⟨gn, 0, none⟩)])
set_option maxRecDepth 100000 in
set_option maxHeartbeats 4000000 in
theorem logic_fn {F : Fz} (gx : Nat) (An : Option Addr) (nn cn : Nat) (Ae : Option Addr) (ne ce : Nat) (es : List Evt) (hT : TruF F gx An nn cn Ae ne ce es) (gb gn gq : Nat) (kind : Int) (name : ByteArray) (hN : NodL F gx gb gn gq kind name) (hol r0 r1 : Nat → Bool)
    (hH : kind = 3 → ∀ X, Sat F X → ∀ i : Nat, i < ne → Calls Tryz.prog 94 #[.agg #[.slice An nn cn, .slice Ae ne ce], .int .i64 (i : Nat), .string name] X fun e X' => e = .returned (.bool (hol i)) ∧ Below X.heap.size X X')
    (h0 : 4 ≤ kind → ∀ X, Sat F X → ∀ i : Nat, i < ne → Calls Tryz.prog 92 #[.int .i64 (0 : Int), .int .i64 (i : Nat), .pointer (some ⟨gb, 0, none⟩), .pointer (some ⟨gn, 0, none⟩)] X fun e X' => e = .returned (.bool (r0 i)) ∧ Below X.heap.size X X')
    (h1 : 5 ≤ kind → ∀ X, Sat F X → ∀ i : Nat, i < ne → Calls Tryz.prog 92 #[.int .i64 (1 : Int), .int .i64 (i : Nat), .pointer (some ⟨gb, 0, none⟩), .pointer (some ⟨gn, 0, none⟩)] X fun e X' => e = .returned (.bool (r1 i)) ∧ Below X.heap.size X X')
    (hk : 1 ≤ kind ∧ kind ≤ 7) :
    IsFn F 93 #[.pointer (some ⟨gn, 0, none⟩), .pointer (some ⟨gb, 0, none⟩), .pointer (some ⟨gq, 0, none⟩)] ne (logicS kind hol r0 r1) := by
  refine ⟨enters_of Tryz.func93 (by kernel_rfl) rfl, fun X hX i hi' => ?_⟩
  show Calls Tryz.prog 93 #[.int .i64 (i : Nat), .pointer (some ⟨gn, 0, none⟩), .pointer (some ⟨gb, 0, none⟩), .pointer (some ⟨gq, 0, none⟩)] X _
  have b0 := hX.cell hN.b0
  have n0 := hX.cell hN.n0
  have n1 := hX.cell hN.n1
  have q0 := hX.cell hN.q0
  have x0 := hX.cell hT.t0
  have x1 := hX.cell hT.t1
  obtain ⟨R, hR⟩ : ∃ R, logicS kind hol r0 r1 i = R := ⟨_, rfl⟩
  rw [hR]
  unfold logicS at hR
  have HX := Lib.hid hX
  have HQ := Lib.hid hN.q0
  rcases (show kind = 1 ∨ kind = 2 ∨ kind = 3 ∨ kind = 4 ∨ kind = 5 ∨ kind = 6 ∨ kind = 7 by omega) with rfl | rfl | rfl | rfl | rfl | rfl | rfl
  · obtain rfl : true = R := hR
    clear h0 h1 hH hT hN hX
    go_enter Tryz.func93, Tryz.ntmps93
    go_wp2_with fail
    go_ret
    exact ⟨rfl, Below.refl _ _⟩
  · obtain rfl : false = R := hR
    clear h0 h1 hH hT hN hX
    go_enter Tryz.func93, Tryz.ntmps93
    go_wp2_with fail
    go_ret
    exact ⟨rfl, Below.refl _ _⟩
  · have HH := Lib.hid (fun Y hY => hH rfl Y hY i hi')
    have hR : hol i = R := hR
    rw [hR] at HH
    have HT := Lib.hid hT
    have HN := Lib.hid hN
    clear hR h0 h1 hH hT hN hX
    go_enter Tryz.func93, Tryz.ntmps93
    go_wp2_with fail
    go_region_held3 (fun w' => w'.cell? ⟨gb, 0, none⟩ = some (.pointer (some ⟨gx, 0, none⟩)) ∧ w'.cell? ⟨gx, 0, none⟩ = some (.slice An nn cn) ∧ w'.cell? ⟨gx, 1, none⟩ = some (.slice Ae ne ce) ∧ w'.cell? ⟨gn, 1, none⟩ = some (.string name)) (go_keep)
      (first
        | (go_at_call 94; refine (HH.out _ (by first | exact HX.out | exact HX.out.drew)).mono ?_; rintro e w3 ⟨rfl, hw3⟩; have hc3 : Below X.heap.size X w3 := (by first | exact hw3 | exact bel_eqv0 hw3); have hF3 := HX.out.below hc3; have s0 := hF3.cell HN.out.b0; have s1 := hF3.cell HT.out.t0; have s2 := hF3.cell HT.out.t1; have s3 := hF3.cell HN.out.n1))
    all_goals
      go_wp2_with fail
      go_ret
      exact ⟨rfl, hc3⟩
  · have H0 := Lib.hid (h0 (by omega) X hX i hi')
    have HR : Hid ((!r0 i) = R) := Lib.hid hR
    clear hR h0 h1 hH hT hN hX
    go_enter Tryz.func93, Tryz.ntmps93
    go_wp2_with fail
    refine H0.out.mono ?_
    rintro e w2 ⟨rfl, hw2⟩
    go_wp2_with fail
    go_ret
    exact ⟨by first | rfl | (rw [← HR.out]; rfl), hw2⟩
  · have H0 := Lib.hid (h0 (by omega) X hX i hi')
    have H1 := Lib.hid (fun Y hY => h1 (by omega) Y hY i hi')
    have hR : (r0 i && r1 i) = R := hR
    obtain ⟨a, ha⟩ : ∃ a, r0 i = a := ⟨_, rfl⟩
    rw [ha] at H0 hR
    have HR := Lib.hid hR
    clear hR h0 h1 hH hT hN hX ha
    go_enter Tryz.func93, Tryz.ntmps93
    go_wp2_with fail
    refine H0.out.mono ?_
    rintro e w2 ⟨rfl, hw2⟩
    have hF2 := HX.out.below hw2
    have q2 := hF2.cell HQ.out
    cases a with
    | true =>
      go_wp2_with fail
      refine (H1.out _ hF2).mono ?_
      rintro e w3 ⟨rfl, hw3⟩
      go_wp2_with fail
      go_ret
      exact ⟨by first | rfl | (rw [← HR.out]; rfl), bthen hw2 hw3⟩
    | _ =>
      go_wp2_with fail
      go_ret
      exact ⟨by first | rfl | (rw [← HR.out]; rfl), hw2⟩
  · have H0 := Lib.hid (h0 (by omega) X hX i hi')
    have H1 := Lib.hid (fun Y hY => h1 (by omega) Y hY i hi')
    have hR : (r0 i || r1 i) = R := hR
    obtain ⟨a, ha⟩ : ∃ a, r0 i = a := ⟨_, rfl⟩
    rw [ha] at H0 hR
    have HR := Lib.hid hR
    clear hR h0 h1 hH hT hN hX ha
    go_enter Tryz.func93, Tryz.ntmps93
    go_wp2_with fail
    refine H0.out.mono ?_
    rintro e w2 ⟨rfl, hw2⟩
    have hF2 := HX.out.below hw2
    have q2 := hF2.cell HQ.out
    cases a with
    | false =>
      go_wp2_with fail
      refine (H1.out _ hF2).mono ?_
      rintro e w3 ⟨rfl, hw3⟩
      go_wp2_with fail
      go_ret
      exact ⟨by first | rfl | (rw [← HR.out]; rfl), bthen hw2 hw3⟩
    | _ =>
      go_wp2_with fail
      go_ret
      exact ⟨by first | rfl | (rw [← HR.out]; rfl), hw2⟩
  · have H0 := Lib.hid (h0 (by omega) X hX i hi')
    have H1 := Lib.hid (fun Y hY => h1 (by omega) Y hY i hi')
    have hR : (!r0 i || r1 i) = R := hR
    obtain ⟨a, ha⟩ : ∃ a, r0 i = a := ⟨_, rfl⟩
    rw [ha] at H0 hR
    have HR := Lib.hid hR
    clear hR h0 h1 hH hT hN hX ha
    go_enter Tryz.func93, Tryz.ntmps93
    go_wp2_with fail
    refine H0.out.mono ?_
    rintro e w2 ⟨rfl, hw2⟩
    have hF2 := HX.out.below hw2
    have q2 := hF2.cell HQ.out
    cases a with
    | true =>
      go_wp2_with fail
      refine (H1.out _ hF2).mono ?_
      rintro e w3 ⟨rfl, hw3⟩
      go_wp2_with fail
      go_ret
      exact ⟨by first | rfl | (rw [← HR.out]; rfl), bthen hw2 hw3⟩
    | false =>
      go_wp2_with fail
      go_ret
      exact ⟨by first | rfl | (rw [← HR.out]; rfl), hw2⟩
end Go.Proofs.YtdbbooibkiicnaaGreat
/-! The walks of sat's match: what a point says by the ways. -/
namespace Go.Proofs.YtdbbooibkiicnaaGreat
open Go.RowKit
/-- The ways lie in memory: the variable in gw, the table in gs. -/
structure WayF (F : Fz) (gw gs ne : Nat) (m : Mx) : Prop where
  w0 : F.cell ⟨gw, 0, none⟩ = some (.slice (some ⟨gs, 0, none⟩) ne ne)
  rows : ∀ i, i < ne → F.cell ⟨gs, i, none⟩ = some (.slice (some ⟨gs + 1 + i, 0, none⟩) ne ne)
  vals : ∀ i j, i < ne → j < ne → F.cell ⟨gs + 1 + i, j, none⟩ = some (.bool (m i j))
theorem WayF.cle {F F' : Fz} {gw gs ne : Nat} {m : Mx} (h : WayF F gw gs ne m) (hle : CLe F F') : WayF F' gw gs ne m := ⟨hle _ _ h.w0, fun i hi => hle _ _ (h.rows i hi), fun i j hi hj => hle _ _ (h.vals i j hi hj)⟩
set_option maxRecDepth 100000 in
theorem wayP_fn {F : Fz} {gw gs ne : Nat} {m : Mx} (h : WayF F gw gs ne m) (gi i : Nat) (hi : i < ne) (hg : F.cell ⟨gi, 0, none⟩ = some (.int .i64 (i : Nat))) :
    IsFn F 84 #[.pointer (some ⟨gw, 0, none⟩), .pointer (some ⟨gi, 0, none⟩)] ne (fun j => m j i) := by
  refine ⟨enters_of Tryz.func84 (by kernel_rfl) rfl, fun X hX j hj => ?_⟩
  show Calls Tryz.prog 84 #[.int .i64 (j : Nat), .pointer (some ⟨gw, 0, none⟩), .pointer (some ⟨gi, 0, none⟩)] X _
  have c0 := hX.cell h.w0
  have c1 := hX.cell (h.rows j hj)
  have c2 := hX.cell (h.vals j i hj hi)
  have c3 := hX.cell hg
  have hiI : (i : Int) < (ne : Int) := by omega
  have hjI : (j : Int) < (ne : Int) := by omega
  clear h hg
  go_enter Tryz.func84, Tryz.ntmps84
  go_wp2_with fail
  first | (go_quiet (fail); go_wp2_with fail) | skip
  go_ret
  exact ⟨rfl, by first | exact Below.refl _ _ | exact below_drewN (Below.refl _ _) _⟩
set_option maxRecDepth 100000 in
theorem wayU_fn {F : Fz} {gw gs ne : Nat} {m : Mx} (h : WayF F gw gs ne m) (gi i : Nat) (hi : i < ne) (hg : F.cell ⟨gi, 0, none⟩ = some (.int .i64 (i : Nat))) :
    IsFn F 86 #[.pointer (some ⟨gw, 0, none⟩), .pointer (some ⟨gi, 0, none⟩)] ne (fun j => m i j) := by
  refine ⟨enters_of Tryz.func86 (by kernel_rfl) rfl, fun X hX j hj => ?_⟩
  show Calls Tryz.prog 86 #[.int .i64 (j : Nat), .pointer (some ⟨gw, 0, none⟩), .pointer (some ⟨gi, 0, none⟩)] X _
  have c0 := hX.cell h.w0
  have c1 := hX.cell (h.rows i hi)
  have c2 := hX.cell (h.vals i j hi hj)
  have c3 := hX.cell hg
  have hiI : (i : Int) < (ne : Int) := by omega
  have hjI : (j : Int) < (ne : Int) := by omega
  clear h hg
  go_enter Tryz.func86, Tryz.ntmps86
  go_wp2_with fail
  first | (go_quiet (fail); go_wp2_with fail) | skip
  go_ret
  exact ⟨rfl, by first | exact Below.refl _ _ | exact below_drewN (Below.refl _ _) _⟩
def waysS (es : List Evt) (ne : Nat) (kind lo hi : Int) (m : Mx) (i : Nat) : Bool :=
  if kind = 16 then someP (fun j => hasD lo hi (gapE es i j) && m j i) allw i else someU (fun j => hasD lo hi (gapE es i j) && m i j) allw (ne - i) i
/-- What of memory match's closure leans on. -/
structure NodM (F : Fz) (gx gb gn : Nat) (kind lo hi : Int) : Prop where
  b0 : F.cell ⟨gb, 0, none⟩ = some (.pointer (some ⟨gx, 0, none⟩))
  n0 : F.cell ⟨gn, 0, none⟩ = some (.int .i64 kind)
  n2 : F.cell ⟨gn, 2, none⟩ = some (.int .i64 lo)
  n3 : F.cell ⟨gn, 3, none⟩ = some (.int .i64 hi)
set_option maxRecDepth 100000 in
set_option maxHeartbeats 4000000 in
theorem match_fn {F : Fz} (gx : Nat) (An : Option Addr) (nn cn : Nat) (Ae : Option Addr) (ne ce : Nat) (es : List Evt) (hT : TruF F gx An nn cn Ae ne ce es) (hn : ne ≤ 1000) (gb gn : Nat) (kind lo hi : Int) (hN : NodM F gx gb gn kind lo hi) (hs : spanS lo hi = true) (gw gs : Nat) (m : Mx) (hW : WayF F gw gs ne m) (hk : kind = 16 ∨ kind = 17) :
    IsFn F 82 #[.pointer (some ⟨gn, 0, none⟩), .pointer (some ⟨gb, 0, none⟩), .pointer (some ⟨gw, 0, none⟩)] ne (waysS es ne kind lo hi m) := by
  refine ⟨enters_of Tryz.func82 (by kernel_rfl) rfl, fun X hX i hi' => ?_⟩
  show Calls Tryz.prog 82 #[.int .i64 (i : Nat), .pointer (some ⟨gn, 0, none⟩), .pointer (some ⟨gb, 0, none⟩), .pointer (some ⟨gw, 0, none⟩)] X _
  have hmf : ∀ (fn : Fn) (first cap : Array Value) (w : World), (Instr.makeFunc fn first cap).run Tryz.prog w = .ok (.func fn first cap) w := fun _ _ _ _ => rfl
  have hbA := balloc X (.cells #[.int .i64 (i : Nat)] 3)
  have hgi := Blk.new X 3 #[.int .i64 (i : Nat)]
  have hXA := hX.below hbA
  have b0 := hXA.cell hN.b0
  have n0 := hXA.cell hN.n0
  have n2 := hXA.cell hN.n2
  have n3 := hXA.cell hN.n3
  have i0 : (X.alloc (.cells #[.int .i64 (i : Nat)] 3)).cell? ⟨X.heap.size, 0, none⟩ = some (.int .i64 (i : Nat)) := (hgi.cell 0).trans rfl
  obtain ⟨R, hR⟩ : ∃ R, waysS es ne kind lo hi m i = R := ⟨_, rfl⟩
  rw [hR]
  unfold waysS at hR
  rcases hk with rfl | rfl
  · have HS := Lib.hid (someP_w (sat_heapF (X.alloc (.cells #[.int .i64 (i : Nat)] 3))) gx An nn cn Ae ne ce es (hT.cle hXA.cle) hn lo hi hs i hi' 84 85 #[.pointer (some ⟨gw, 0, none⟩), .pointer (some ⟨X.heap.size, 0, none⟩)] #[] _ allw (wayP_fn (hW.cle hXA.cle) X.heap.size i hi' (blkH hgi)) (always_fn _ _) R hR)
    clear hT hN hs hW hR hX hXA hgi
    go_enter Tryz.func82, Tryz.ntmps82
    go_wp2_with (go_at_call 83; refine HS.out.mono ?_; rintro e w3 ⟨rfl, hw3⟩)
    go_ret
    exact ⟨rfl, bthen hbA hw3⟩
  · have HS := Lib.hid (someU_w (sat_heapF (X.alloc (.cells #[.int .i64 (i : Nat)] 3))) gx An nn cn Ae ne ce es (hT.cle hXA.cle) hn lo hi hs i hi' 86 85 #[.pointer (some ⟨gw, 0, none⟩), .pointer (some ⟨X.heap.size, 0, none⟩)] #[] _ allw (wayU_fn (hW.cle hXA.cle) X.heap.size i hi' (blkH hgi)) (always_fn _ _) R hR)
    clear hT hN hs hW hR hX hXA hgi
    go_enter Tryz.func82, Tryz.ntmps82
    go_wp2_with (go_at_call 83; refine HS.out.mono ?_; rintro e w3 ⟨rfl, hw3⟩)
    go_ret
    exact ⟨rfl, bthen hbA hw3⟩
end Go.Proofs.YtdbbooibkiicnaaGreat
/-! The walks of sat's time and logic: closures are made, and fill goes over the points. -/
namespace Go.Proofs.YtdbbooibkiicnaaGreat
open Go.RowKit
/-- A row of Booleans of the call's own comes back. -/
def RetRow (w : World) (ne : Nat) (r : Nat → Bool) (e : Ending) (w' : World) : Prop := ∃ g, e = .returned (.slice (some ⟨g, 0, none⟩) ne ne) ∧ Below w.heap.size w w' ∧ w.heap.size ≤ g ∧ Blk w' g 4 (rowV ne r)
/-- A kid's row, told without the boxes. -/
structure KidQ (F : Fz) (gx ga N : Nat) (ak : Addr) (nk : Nat) (k q g n : Nat) (r : Nat → Bool) : Prop where
  x3 : F.cell ⟨gx, 3, none⟩ = some (.slice (some ⟨ga, 0, none⟩) N N)
  kk : k < nk
  kd : F.cell (ak.add k) = some (.int .i64 (q : Nat))
  qN : q < N
  at_ : F.cell ⟨ga, q, none⟩ = some (.slice (some ⟨g, 0, none⟩) n n)
  row : RowF F g n r
theorem KidQ.full {F F' : Fz} {gx gb gn ga N : Nat} {ak : Addr} {nk ck k q g n : Nat} {r : Nat → Bool} (h : KidQ F gx ga N ak nk k q g n r) (hle : CLe F F') (hb : ∀ b o, F b = some o → F' b = some o) (h1 : F'.cell ⟨gb, 0, none⟩ = some (.pointer (some ⟨gx, 0, none⟩))) (h2 : F'.cell ⟨gn, 4, none⟩ = some (.slice (some ak) nk ck)) : KidF F' gx gb gn ga N ak nk ck k q g n r :=
  ⟨h1, hle _ _ h.x3, h2, h.kk, hle _ _ h.kd, h.qN, hle _ _ h.at_, hb _ _ h.row⟩
theorem blkC {w : World} {g : Nat} {t : TypeId} {cs : Array Value} (h : Blk w g t cs) {i : Nat} {v : Value} (e : cs[i]? = some v) : (heapF w).cell ⟨g, i, none⟩ = some v := (h.cell i).trans e
theorem blk3n (w : World) (o o' : Obj) (t : TypeId) (cs : Array Value) : Blk (((w.alloc o).alloc o').alloc (.cells cs t)) (w.heap.size + 1 + 1) t cs := by
  have h := Blk.new ((w.alloc o).alloc o') t cs
  have e : ((w.alloc o).alloc o').heap.size = w.heap.size + 1 + 1 := by simp
  rwa [e] at h
theorem blk4n (w : World) (o o' o'' : Obj) (t : TypeId) (cs : Array Value) : Blk ((((w.alloc o).alloc o').alloc o'').alloc (.cells cs t)) (w.heap.size + 1 + 1 + 1) t cs := by
  have h := Blk.new (((w.alloc o).alloc o').alloc o'') t cs
  have e : (((w.alloc o).alloc o').alloc o'').heap.size = w.heap.size + 1 + 1 + 1 := by simp
  rwa [e] at h
set_option maxRecDepth 100000 in
set_option maxHeartbeats 4000000 in
theorem time_w {F : Fz} {w : World} (hF : Sat F w) (gx : Nat) (An : Option Addr) (nn cn : Nat) (Ae : Option Addr) (ne ce : Nat) (es : List Evt) (hT : TruF F gx An nn cn Ae ne ce es) (hn : ne ≤ 1000) (kind : Int) (name : ByteArray) (lo hi : Int) (ak : Addr) (nk ck : Nat) (S : Nat → Bool)
    (hfn : ∀ (Y : World) (gb gn gq gr : Nat), Sat F Y → NodB (heapF Y) gx gb gn gq gr kind name lo hi ak nk ck → IsFn (heapF Y) 90 #[.pointer (some ⟨gn, 0, none⟩), .pointer (some ⟨gb, 0, none⟩), .pointer (some ⟨gq, 0, none⟩), .pointer (some ⟨gr, 0, none⟩)] ne S) :
    Calls Tryz.prog 48 #[.pointer (some ⟨gx, 0, none⟩), .agg #[.int .i64 kind, .string name, .int .i64 lo, .int .i64 hi, .slice (some ak) nk ck]] w (RetRow w ne S) := by
  have hmf : ∀ (fn : Fn) (first cap : Array Value) (w : World), (Instr.makeFunc fn first cap).run Tryz.prog w = .ok (.func fn first cap) w := fun _ _ _ _ => rfl
  obtain ⟨Y, hY⟩ : ∃ Y, Y = (((w.alloc (.cells #[.pointer (some ⟨gx, 0, none⟩)] 81)).alloc (.cells #[.int .i64 kind, .string name, .int .i64 lo, .int .i64 hi, .slice (some ak) nk ck] 62)).alloc (.cells #[.func (.func 87) #[] #[.pointer (some ⟨w.heap.size, 0, none⟩), .pointer (some ⟨w.heap.size + 1, 0, none⟩)]] 108)).alloc (.cells #[.func (.func 89) #[] #[.pointer (some ⟨w.heap.size, 0, none⟩), .pointer (some ⟨w.heap.size + 1, 0, none⟩)]] 70) := ⟨_, rfl⟩
  have hgb := hY ▸ (((Blk.new w 81 #[.pointer (some ⟨gx, 0, none⟩)]).alloc (.cells #[.int .i64 kind, .string name, .int .i64 lo, .int .i64 hi, .slice (some ak) nk ck] 62)).alloc (.cells #[.func (.func 87) #[] #[.pointer (some ⟨w.heap.size, 0, none⟩), .pointer (some ⟨w.heap.size + 1, 0, none⟩)]] 108)).alloc (.cells #[.func (.func 89) #[] #[.pointer (some ⟨w.heap.size, 0, none⟩), .pointer (some ⟨w.heap.size + 1, 0, none⟩)]] 70)
  have hgn := hY ▸ ((Blk.new2 w (.cells #[.pointer (some ⟨gx, 0, none⟩)] 81) 62 #[.int .i64 kind, .string name, .int .i64 lo, .int .i64 hi, .slice (some ak) nk ck]).alloc (.cells #[.func (.func 87) #[] #[.pointer (some ⟨w.heap.size, 0, none⟩), .pointer (some ⟨w.heap.size + 1, 0, none⟩)]] 108)).alloc (.cells #[.func (.func 89) #[] #[.pointer (some ⟨w.heap.size, 0, none⟩), .pointer (some ⟨w.heap.size + 1, 0, none⟩)]] 70)
  have hgq := hY ▸ (blk3n w (.cells #[.pointer (some ⟨gx, 0, none⟩)] 81) (.cells #[.int .i64 kind, .string name, .int .i64 lo, .int .i64 hi, .slice (some ak) nk ck] 62) 108 #[.func (.func 87) #[] #[.pointer (some ⟨w.heap.size, 0, none⟩), .pointer (some ⟨w.heap.size + 1, 0, none⟩)]]).alloc (.cells #[.func (.func 89) #[] #[.pointer (some ⟨w.heap.size, 0, none⟩), .pointer (some ⟨w.heap.size + 1, 0, none⟩)]] 70)
  have hgr := hY ▸ blk4n w (.cells #[.pointer (some ⟨gx, 0, none⟩)] 81) (.cells #[.int .i64 kind, .string name, .int .i64 lo, .int .i64 hi, .slice (some ak) nk ck] 62) (.cells #[.func (.func 87) #[] #[.pointer (some ⟨w.heap.size, 0, none⟩), .pointer (some ⟨w.heap.size + 1, 0, none⟩)]] 108) 70 #[.func (.func 89) #[] #[.pointer (some ⟨w.heap.size, 0, none⟩), .pointer (some ⟨w.heap.size + 1, 0, none⟩)]]
  have hb : Below w.heap.size w Y := hY ▸ ((((balloc _ _).alloc (by simp) _).alloc (by simp; omega) _).alloc (by simp; omega) _)
  have hFY := hF.below hb
  have HFL := Lib.hid (fill_w (sat_heapF Y) gx An nn cn Ae ne ce es (hT.cle hFY.cle) hn 90 #[.pointer (some ⟨w.heap.size + 1, 0, none⟩), .pointer (some ⟨w.heap.size, 0, none⟩), .pointer (some ⟨w.heap.size + 1 + 1, 0, none⟩), .pointer (some ⟨w.heap.size + 1 + 1 + 1, 0, none⟩)] S
    (hfn Y w.heap.size (w.heap.size + 1) (w.heap.size + 1 + 1) (w.heap.size + 1 + 1 + 1) hFY ⟨blkC hgb rfl, blkC hgn rfl, blkC hgn rfl, blkC hgn rfl, blkC hgn rfl, blkC hgn rfl, blkC hgq rfl, blkC hgr rfl⟩))
  have HY := Lib.hid hY
  clear hfn hT hY hgb hgn hgq hgr hFY
  go_enter Tryz.func48, Tryz.ntmps48
  go_wp2_with fail
  rw [← HY.out]
  refine HFL.out.mono ?_
  rintro e w3 ⟨g, rfl, hb3, hg, hk⟩
  go_wp2_with fail
  go_ret
  exact ⟨g, rfl, bthen hb hb3, Nat.le_trans hb.size hg, hk⟩
set_option maxRecDepth 100000 in
set_option maxHeartbeats 4000000 in
theorem logic_w {F : Fz} {w : World} (hF : Sat F w) (gx : Nat) (An : Option Addr) (nn cn : Nat) (Ae : Option Addr) (ne ce : Nat) (es : List Evt) (hT : TruF F gx An nn cn Ae ne ce es) (hn : ne ≤ 1000) (kind : Int) (name : ByteArray) (lo hi : Int) (Ak : Option Addr) (nk ck : Nat) (S : Nat → Bool)
    (hfn : ∀ (Y : World) (gb gn gq : Nat), Sat F Y → NodL (heapF Y) gx gb gn gq kind name → (heapF Y).cell ⟨gn, 4, none⟩ = some (.slice Ak nk ck) → IsFn (heapF Y) 93 #[.pointer (some ⟨gn, 0, none⟩), .pointer (some ⟨gb, 0, none⟩), .pointer (some ⟨gq, 0, none⟩)] ne S) :
    Calls Tryz.prog 49 #[.pointer (some ⟨gx, 0, none⟩), .agg #[.int .i64 kind, .string name, .int .i64 lo, .int .i64 hi, .slice Ak nk ck]] w (RetRow w ne S) := by
  have hmf : ∀ (fn : Fn) (first cap : Array Value) (w : World), (Instr.makeFunc fn first cap).run Tryz.prog w = .ok (.func fn first cap) w := fun _ _ _ _ => rfl
  obtain ⟨Y, hY⟩ : ∃ Y, Y = ((w.alloc (.cells #[.pointer (some ⟨gx, 0, none⟩)] 81)).alloc (.cells #[.int .i64 kind, .string name, .int .i64 lo, .int .i64 hi, .slice Ak nk ck] 62)).alloc (.cells #[.func (.func 92) #[] #[.pointer (some ⟨w.heap.size, 0, none⟩), .pointer (some ⟨w.heap.size + 1, 0, none⟩)]] 110) := ⟨_, rfl⟩
  have hgb := hY ▸ ((Blk.new w 81 #[.pointer (some ⟨gx, 0, none⟩)]).alloc (.cells #[.int .i64 kind, .string name, .int .i64 lo, .int .i64 hi, .slice Ak nk ck] 62)).alloc (.cells #[.func (.func 92) #[] #[.pointer (some ⟨w.heap.size, 0, none⟩), .pointer (some ⟨w.heap.size + 1, 0, none⟩)]] 110)
  have hgn := hY ▸ (Blk.new2 w (.cells #[.pointer (some ⟨gx, 0, none⟩)] 81) 62 #[.int .i64 kind, .string name, .int .i64 lo, .int .i64 hi, .slice Ak nk ck]).alloc (.cells #[.func (.func 92) #[] #[.pointer (some ⟨w.heap.size, 0, none⟩), .pointer (some ⟨w.heap.size + 1, 0, none⟩)]] 110)
  have hgq := hY ▸ blk3n w (.cells #[.pointer (some ⟨gx, 0, none⟩)] 81) (.cells #[.int .i64 kind, .string name, .int .i64 lo, .int .i64 hi, .slice Ak nk ck] 62) 110 #[.func (.func 92) #[] #[.pointer (some ⟨w.heap.size, 0, none⟩), .pointer (some ⟨w.heap.size + 1, 0, none⟩)]]
  have hb : Below w.heap.size w Y := hY ▸ (((balloc _ _).alloc (by simp) _).alloc (by simp; omega) _)
  have hFY := hF.below hb
  have HFL := Lib.hid (fill_w (sat_heapF Y) gx An nn cn Ae ne ce es (hT.cle hFY.cle) hn 93 #[.pointer (some ⟨w.heap.size + 1, 0, none⟩), .pointer (some ⟨w.heap.size, 0, none⟩), .pointer (some ⟨w.heap.size + 1 + 1, 0, none⟩)] S
    (hfn Y w.heap.size (w.heap.size + 1) (w.heap.size + 1 + 1) hFY ⟨blkC hgb rfl, blkC hgn rfl, blkC hgn rfl, blkC hgq rfl⟩ (blkC hgn rfl)))
  have HY := Lib.hid hY
  clear hfn hT hY hgb hgn hgq hFY
  go_enter Tryz.func49, Tryz.ntmps49
  go_wp2_with fail
  rw [← HY.out]
  refine HFL.out.mono ?_
  rintro e w3 ⟨g, rfl, hb3, hg, hk⟩
  go_wp2_with fail
  go_ret
  exact ⟨g, rfl, bthen hb hb3, Nat.le_trans hb.size hg, hk⟩
end Go.Proofs.YtdbbooibkiicnaaGreat
/-! The walk of sat's match, over what ways gives. -/
namespace Go.Proofs.YtdbbooibkiicnaaGreat
open Go.RowKit
theorem cNe {w : World} {p a : Addr} {u v : Value} (h : p.block ≠ a.block) (hc : w.cell? a = some v) : (w.setCell p u).cell? a = some v := by rw [World.cell?_setCell_other (h := fun e => h (by rw [e]))]; exact hc
theorem wayF_of {w : World} {gs n : Nat} {m : Mx} (h : SqF (heapF w) gs n m) : (∀ i, i < n → w.cell? ⟨gs, i, none⟩ = some (.slice (some ⟨gs + 1 + i, 0, none⟩) n n)) ∧ ∀ i j, i < n → j < n → w.cell? ⟨gs + 1 + i, j, none⟩ = some (.bool (m i j)) := by
  refine ⟨fun i hi => ?_, fun i j hi hj => h.val hi hj⟩
  have hB : Blk w gs 47 (colV gs n) := h.1
  rw [hB.cell, get_colV hi]
set_option maxRecDepth 100000 in
set_option maxHeartbeats 4000000 in
theorem smatch_w {F : Fz} {w : World} (hF : Sat F w) (gx : Nat) (An : Option Addr) (nn cn : Nat) (Ae : Option Addr) (ne ce : Nat) (es : List Evt) (hT : TruF F gx An nn cn Ae ne ce es) (hn : ne ≤ 1000) (kind : Int) (name : ByteArray) (lo hi : Int) (hs : spanS lo hi = true) (hkk : kind = 16 ∨ kind = 17) (ak : Addr) (nk ck root : Nat) (hk0 : 0 < nk) (hkd : F.cell ak = some (.int .i64 (root : Nat))) (m : Mx)
    (hways : ∀ X : World, Sat F X → Calls Tryz.prog 80 #[.pointer (some ⟨gx, 0, none⟩), .int .i64 (root : Nat)] X fun e X' => ∃ gs, e = .returned (.slice (some ⟨gs, 0, none⟩) ne ne) ∧ Below X.heap.size X X' ∧ X.heap.size ≤ gs ∧ SqF (heapF X') gs ne m) :
    Calls Tryz.prog 47 #[.pointer (some ⟨gx, 0, none⟩), .agg #[.int .i64 kind, .string name, .int .i64 lo, .int .i64 hi, .slice (some ak) nk ck]] w (RetRow w ne (waysS es ne kind lo hi m)) := by
  have hmf : ∀ (fn : Fn) (first cap : Array Value) (w : World), (Instr.makeFunc fn first cap).run Tryz.prog w = .ok (.func fn first cap) w := fun _ _ _ _ => rfl
  obtain ⟨wA, hwA⟩ : ∃ wA, wA = (w.alloc (.cells #[.pointer (some ⟨gx, 0, none⟩)] 81)).alloc (.cells #[.int .i64 kind, .string name, .int .i64 lo, .int .i64 hi, .slice (some ak) nk ck] 62) := ⟨_, rfl⟩
  have hgb := hwA ▸ (Blk.new w 81 #[.pointer (some ⟨gx, 0, none⟩)]).alloc (.cells #[.int .i64 kind, .string name, .int .i64 lo, .int .i64 hi, .slice (some ak) nk ck] 62)
  have hgn := hwA ▸ Blk.new2 w (.cells #[.pointer (some ⟨gx, 0, none⟩)] 81) 62 #[.int .i64 kind, .string name, .int .i64 lo, .int .i64 hi, .slice (some ak) nk ck]
  have hbA : Below w.heap.size w wA := hwA ▸ ((balloc _ _).alloc (by simp) _)
  have hFA := hF.below hbA
  have x0 : wA.cell? ⟨w.heap.size, 0, none⟩ = some (.pointer (some ⟨gx, 0, none⟩)) := (hgb.cell 0).trans rfl
  obtain ⟨m0, m1, m2, m3, m4⟩ := blk5 hgn
  have y0 := hFA.cell hkd
  have hl0 : w.heap.size < wA.heap.size := hgb.lt
  have hl1 : w.heap.size + 1 < wA.heap.size := hgn.lt
  have hl2 : ak.block < wA.heap.size := hFA.clt hkd
  have hFg : F wA.heap.size = none := hFA.none_ (Nat.le_refl _)
  have hbB := balloc wA (.cells #[.slice none 0 0] 79)
  have HNB := Lib.hid (Blk.new wA 79 #[.slice none 0 0])
  have hFB := hFA.below hbB
  have hkI : (0 : Int) < (nk : Int) := by omega
  -- what fill gives in a world that has all of it
  have hfl : ∀ (Y : World) (gw gs : Nat), Sat F Y → Below w.heap.size w Y → Y.cell? ⟨w.heap.size, 0, none⟩ = some (.pointer (some ⟨gx, 0, none⟩)) → (Y.cell? ⟨w.heap.size + 1, 0, none⟩ = some (.int .i64 kind) ∧ Y.cell? ⟨w.heap.size + 1, 2, none⟩ = some (.int .i64 lo) ∧ Y.cell? ⟨w.heap.size + 1, 3, none⟩ = some (.int .i64 hi)) → WayF (heapF Y) gw gs ne m →
      Calls Tryz.prog 81 #[.pointer (some ⟨gx, 0, none⟩), .func (.func 82) #[] #[.pointer (some ⟨w.heap.size + 1, 0, none⟩), .pointer (some ⟨w.heap.size, 0, none⟩), .pointer (some ⟨gw, 0, none⟩)]] Y (RetRow w ne (waysS es ne kind lo hi m)) := fun Y gw gs hFY hbY b0 hn3 hW =>
    (fill_w (sat_heapF Y) gx An nn cn Ae ne ce es (hT.cle hFY.cle) hn _ _ _ (match_fn gx An nn cn Ae ne ce es (hT.cle hFY.cle) hn w.heap.size (w.heap.size + 1) kind lo hi ⟨b0, hn3.1, hn3.2.1, hn3.2.2⟩ hs gw gs m hW hkk)).mono fun e w' ⟨g, h1, h2, h3, h4⟩ => ⟨g, h1, bthen hbY h2, Nat.le_trans hbY.size h3, h4⟩
  have HFA := Lib.hid (fun (w3 : World) (gs : Nat) (hc : Below wA.heap.size wA w3) (hSq : SqF (heapF w3) gs ne m) => (by
    have hbY := balloc w3 (.cells #[.slice (some ⟨gs, 0, none⟩) ne ne] 79)
    have hbT := bthen hc hbY
    obtain ⟨r1, r2⟩ := wayF_of hSq
    refine hfl _ w3.heap.size gs (hFA.below hbT) (bthen hbA hbT) ((hbT.cell (p := ⟨w.heap.size, 0, none⟩) hl0).trans x0) ⟨(hbT.cell (p := ⟨w.heap.size + 1, 0, none⟩) hl1).trans m0, (hbT.cell (p := ⟨w.heap.size + 1, 2, none⟩) hl1).trans m2, (hbT.cell (p := ⟨w.heap.size + 1, 3, none⟩) hl1).trans m3⟩ ⟨blkH (Blk.new w3 _ _), fun i hi => (hbY.cell (p := ⟨gs, i, none⟩) ?_).trans (r1 i hi), fun i j hi hj => (hbY.cell (p := ⟨gs + 1 + i, j, none⟩) ?_).trans (r2 i j hi hj)⟩
    · exact (sat_heapF w3).lt hSq.1
    · exact (sat_heapF w3).lt (hSq.2 i hi) : Calls Tryz.prog 81 #[.pointer (some ⟨gx, 0, none⟩), .func (.func 82) #[] #[.pointer (some ⟨w.heap.size + 1, 0, none⟩), .pointer (some ⟨w.heap.size, 0, none⟩), .pointer (some ⟨w3.heap.size, 0, none⟩)]] (w3.alloc (.cells #[.slice (some ⟨gs, 0, none⟩) ne ne] 79)) (RetRow w ne (waysS es ne kind lo hi m))))
  have HFB := Lib.hid (fun (w3 : World) (gs : Nat) (hc : Below wA.heap.size wA w3) (hSq : SqF (heapF w3) gs ne m) (hg0 : Blk w3 wA.heap.size 79 #[.slice none 0 0]) (hgs : wA.heap.size < gs) => (by
    have hbT : Below wA.heap.size wA (w3.setCell ⟨wA.heap.size, 0, none⟩ (.slice (some ⟨gs, 0, none⟩) ne ne)) := hc.setCell (p := ⟨wA.heap.size, 0, none⟩) (Nat.le_refl _) _
    obtain ⟨r1, r2⟩ := wayF_of hSq
    refine hfl _ wA.heap.size gs (hFA.below hbT) (bthen hbA hbT) ((hbT.cell (p := ⟨w.heap.size, 0, none⟩) hl0).trans x0) ⟨(hbT.cell (p := ⟨w.heap.size + 1, 0, none⟩) hl1).trans m0, (hbT.cell (p := ⟨w.heap.size + 1, 2, none⟩) hl1).trans m2, (hbT.cell (p := ⟨w.heap.size + 1, 3, none⟩) hl1).trans m3⟩ ⟨?_, fun i hi => (by rw [World.cell?_setCell_other (h := fun e => by injection e with e; omega)]; exact r1 i hi : (w3.setCell ⟨wA.heap.size, 0, none⟩ (.slice (some ⟨gs, 0, none⟩) ne ne)).cell? ⟨gs, i, none⟩ = _), fun i j hi hj => (by rw [World.cell?_setCell_other (h := fun e => by injection e with e; omega)]; exact r2 i j hi hj : (w3.setCell ⟨wA.heap.size, 0, none⟩ (.slice (some ⟨gs, 0, none⟩) ne ne)).cell? ⟨gs + 1 + i, j, none⟩ = _)⟩
    · have hk := hg0.set_ 0 (.slice (some ⟨gs, 0, none⟩) ne ne)
      exact (hk.cell 0).trans rfl : Calls Tryz.prog 81 #[.pointer (some ⟨gx, 0, none⟩), .func (.func 82) #[] #[.pointer (some ⟨w.heap.size + 1, 0, none⟩), .pointer (some ⟨w.heap.size, 0, none⟩), .pointer (some ⟨wA.heap.size, 0, none⟩)]] (w3.setCell ⟨wA.heap.size, 0, none⟩ (.slice (some ⟨gs, 0, none⟩) ne ne)) (RetRow w ne (waysS es ne kind lo hi m))))
  have HW := Lib.hid hways
  have HWA := Lib.hid hwA
  clear hfl hways hT hkd hgb hgn hwA hs
  go_enter Tryz.func47, Tryz.ntmps47
  go_wp2_with fail
  rw [← HWA.out]
  -- REGION
  refine wp_region_noPanic ?_
  refine wp_region_held_drew (S := (fun w' => w'.cell? ⟨w.heap.size, 0, none⟩ = some (.pointer (some ⟨gx, 0, none⟩)) ∧ w'.cell? ⟨w.heap.size + 1, 4, none⟩ = some (.slice (some ak) nk ck) ∧ w'.cell? ak = some (.int .i64 (root : Nat)))) (by kernel_rfl) ?hS0 (fun hHeld => ?hR0)
  case hS0 => (try dsimp only); go_keep
  case hR0 =>
    refine tk 0 (h := ?_)
    try simp only [pn]
    refine tk 1 (h := ?_)
    try simp only [pn]
    refine tk 2 (h := ?_)
    try simp only [pn]
    refine tk 3 (h := ?_)
    try simp only [pn]
    refine tk 4 (h := ?_)
    try simp only [pn]
    refine wpAnyH_ready (rs := [5, 6]) (by kernel_rfl) (by simp) ?_
    refine AllReadyH.cons (o := ?sO1) ?sA1 (fun K hK => ?sB1) ?sC1
    case sA1 => simp only [List.getElem?_toArray, List.getElem?_cons_succ, List.getElem?_cons_zero]; rfl
    case sB1 =>
      go_simp
      refine (HW.out _ (by first | exact hFA | exact hFA.drew)).mono ?_; rintro e w3 ⟨gs, rfl, hw3, hgs, hSq⟩; have hc3 : Below wA.heap.size wA w3 := (by refine bel_trans ?_ hw3; first | exact bel_eqv (Below.refl _ wA) rfl rfl rfl rfl); have s0 := (hc3.cell (p := ⟨w.heap.size, 0, none⟩) hl0).trans x0; have s1 := (hc3.cell (p := ⟨w.heap.size + 1, 4, none⟩) hl1).trans m4; have s2 := (hc3.cell (p := ak) hl2).trans y0
      try go_wp2_with fail
      refine hK.out _ _ ?kS1 (fun hHeld => ?kR1)
      case kS1 => (try dsimp only); go_keep
      case kR1 =>
        clear hK K
        try simp only [Act.put, List.setIfInBounds_toArray, List.set_cons_zero, List.set_cons_succ]
        refine wpAnyH_ready (rs := [6]) (by kernel_rfl) (by simp) ?_
        refine AllReadyH.cons (o := ?sO2) ?sA2 (fun K hK => ?sB2) ?sC2
        case sA2 => simp only [List.getElem?_toArray, List.getElem?_cons_succ, List.getElem?_cons_zero]; rfl
        case sB2 =>
          go_simp
          skip
          try go_wp2_with fail
          refine hK.out _ _ ?kS2 (fun hHeld => ?kR2)
          case kS2 => (try dsimp only); go_keep
          case kR2 =>
            clear hK K
            try simp only [Act.put, List.setIfInBounds_toArray, List.set_cons_zero, List.set_cons_succ]
            refine wpAnyH_ready (rs := [7]) (by kernel_rfl) (by simp) ?_
            refine AllReadyH.cons (o := ?sO3) ?sA3 (fun K hK => ?sB3) ?sC3
            case sA3 => simp only [List.getElem?_toArray, List.getElem?_cons_succ, List.getElem?_cons_zero]; rfl
            case sB3 =>
              go_simp
              skip
              try go_wp2_with fail
              refine hK.out _ _ ?kS3 (fun hHeld => ?kR3)
              case kS3 => (try dsimp only); (first | go_keep | exact ⟨cNe (by show wA.heap.size ≠ w.heap.size; omega) s0, cNe (by show wA.heap.size ≠ w.heap.size + 1; omega) s1, cNe (by show wA.heap.size ≠ ak.block; omega) s2⟩)
              case kR3 =>
                clear hK K
                try simp only [Act.put, List.setIfInBounds_toArray, List.set_cons_zero, List.set_cons_succ]
                refine wpAnyH_done (by kernel_rfl) ?_ _
                refine NoPanic.normal ?_
                go_wp2_with fail
                first
                  | (have hx0 := hg0; refine (HFB.out w3 gs hc3 hSq hg0 hgs2).mono ?_; rintro e w5 ⟨g, rfl, hb5, hg5, hk5⟩; go_wp2_with fail; go_ret; exact ⟨g, rfl, hb5, hg5, hk5⟩)
                  | (refine (HFA.out w3 gs hc3 hSq).mono ?_; rintro e w5 ⟨g, rfl, hb5, hg5, hk5⟩; go_wp2_with fail; go_ret; exact ⟨g, rfl, hb5, hg5, hk5⟩)
            case sC3 =>
              exact AllReadyH.nil
        case sC2 =>
          exact AllReadyH.nil
    case sC1 =>
      refine AllReadyH.cons (o := ?sO4) ?sA4 (fun K hK => ?sB4) ?sC4
      case sA4 => simp only [List.getElem?_toArray, List.getElem?_cons_succ, List.getElem?_cons_zero]; rfl
      case sB4 =>
        go_simp
        skip
        try go_wp2_with fail
        refine hK.out _ _ ?kS4 (fun hHeld => ?kR4)
        case kS4 => (try dsimp only); go_keep
        case kR4 =>
          clear hK K
          try simp only [Act.put, List.setIfInBounds_toArray, List.set_cons_zero, List.set_cons_succ]
          refine wpAnyH_ready (rs := [5]) (by kernel_rfl) (by simp) ?_
          refine AllReadyH.cons (o := ?sO5) ?sA5 (fun K hK => ?sB5) ?sC5
          case sA5 => simp only [List.getElem?_toArray, List.getElem?_cons_succ, List.getElem?_cons_zero]; rfl
          case sB5 =>
            go_simp
            refine (HW.out _ (by first | exact hFB | exact hFB.drew)).mono ?_; rintro e w3 ⟨gs, rfl, hw3, hgs, hSq⟩; have hc3 : Below wA.heap.size wA w3 := (by refine bel_trans ?_ hw3; first | exact bel_eqv hbB rfl rfl rfl rfl); have hg0 : Blk w3 wA.heap.size 79 #[.slice none 0 0] := (by first | exact HNB.out.call (bel_eqv0 hw3) | exact HNB.out.call hw3); have z0 : w3.cell? ⟨wA.heap.size, 0, none⟩ = some (.slice none 0 0) := (hg0.cell 0).trans rfl; have z1 := hg0.frozen 0; have hgs2 : wA.heap.size < gs := (by have h1 : (wA.alloc (.cells #[.slice none 0 0] 79)).heap.size = wA.heap.size + 1 := (by simp); have h2 : (wA.alloc (.cells #[.slice none 0 0] 79)).heap.size ≤ gs := hgs; omega); have s0 := (hc3.cell (p := ⟨w.heap.size, 0, none⟩) hl0).trans x0; have s1 := (hc3.cell (p := ⟨w.heap.size + 1, 4, none⟩) hl1).trans m4; have s2 := (hc3.cell (p := ak) hl2).trans y0
            try go_wp2_with fail
            refine hK.out _ _ ?kS5 (fun hHeld => ?kR5)
            case kS5 => (try dsimp only); go_keep
            case kR5 =>
              clear hK K
              try simp only [Act.put, List.setIfInBounds_toArray, List.set_cons_zero, List.set_cons_succ]
              refine wpAnyH_ready (rs := [7]) (by kernel_rfl) (by simp) ?_
              refine AllReadyH.cons (o := ?sO6) ?sA6 (fun K hK => ?sB6) ?sC6
              case sA6 => simp only [List.getElem?_toArray, List.getElem?_cons_succ, List.getElem?_cons_zero]; rfl
              case sB6 =>
                go_simp
                skip
                try go_wp2_with fail
                refine hK.out _ _ ?kS6 (fun hHeld => ?kR6)
                case kS6 => (try dsimp only); (first | go_keep | exact ⟨cNe (by show wA.heap.size ≠ w.heap.size; omega) s0, cNe (by show wA.heap.size ≠ w.heap.size + 1; omega) s1, cNe (by show wA.heap.size ≠ ak.block; omega) s2⟩)
                case kR6 =>
                  clear hK K
                  try simp only [Act.put, List.setIfInBounds_toArray, List.set_cons_zero, List.set_cons_succ]
                  refine wpAnyH_done (by kernel_rfl) ?_ _
                  refine NoPanic.normal ?_
                  go_wp2_with fail
                  first
                    | (have hx0 := hg0; refine (HFB.out w3 gs hc3 hSq hg0 hgs2).mono ?_; rintro e w5 ⟨g, rfl, hb5, hg5, hk5⟩; go_wp2_with fail; go_ret; exact ⟨g, rfl, hb5, hg5, hk5⟩)
                    | (refine (HFA.out w3 gs hc3 hSq).mono ?_; rintro e w5 ⟨g, rfl, hb5, hg5, hk5⟩; go_wp2_with fail; go_ret; exact ⟨g, rfl, hb5, hg5, hk5⟩)
              case sC6 =>
                exact AllReadyH.nil
          case sC5 =>
            exact AllReadyH.nil
      case sC4 =>
        exact AllReadyH.nil
  -- END
end Go.Proofs.YtdbbooibkiicnaaGreat
