/- What sat says of one node, by its kind. -/
import Derived.Test.YtdbbooibkiicnaaGreatSatC
set_option linter.unusedVariables false
set_option linter.unusedSimpArgs false
/-! What sat says of one node, by its kind. -/
namespace Go.Proofs.YtdbbooibkiicnaaGreat
open Go.RowKit
theorem RetRow.congr {w w' : World} {ne : Nat} {r r' : Nat → Bool} {e : Ending} (h : RetRow w ne r e w') (hr : ∀ i, i < ne → r i = r' i) : RetRow w ne r' e w' :=
  let ⟨g, h1, h2, h3, h4⟩ := h; ⟨g, h1, h2, h3, by rw [← rowV_congr hr]; exact h4⟩
/-- What sat's walk over the nodes leans on. -/
structure SatC (F : Fz) (gx ga : Nat) (ss : List ByteArray) (es : List Evt) (An : Option Addr) (nn cn : Nat) (Ae : Option Addr) (ne ce : Nat) (l : List Nd) (t : Tr) (Al : Option Addr) (N cl : Nat) : Prop where
  tr : TruF F gx An nn cn Ae ne ce es
  nm : Rd F 1 An nn (ss.map Value.string)
  hcn : nn ≤ cn
  hnn : nn ≤ 1000000
  may : mayT ss es = true
  ids : ∀ e ∈ es, e.ids.length ≤ 1000000000
  ne1 : ne ≤ 1000
  ne0 : 0 < ne
  nodes : NodesF F Al N l
  hcl : N ≤ cl
  lN : l.length ≤ 1000
  tree : treeS l = some t
  x2 : F.cell ⟨gx, 2, none⟩ = some (.slice Al N cl)
  x3 : F.cell ⟨gx, 3, none⟩ = some (.slice (some ⟨ga, 0, none⟩) N N)
theorem arity0 {k : Int} (h : arityS k = 0) : k = 1 ∨ k = 2 ∨ k = 3 ∨ k = 18 := by
  unfold arityS at h
  split at h
  · assumption
  · split at h
    · omega
    · split at h <;> omega
theorem arity1 {k : Int} (h : arityS k = 1) : k = 4 ∨ (8 ≤ k ∧ k ≤ 13) ∨ k = 16 ∨ k = 17 ∨ k = 19 ∨ k = 22 := by
  unfold arityS at h
  split at h
  · omega
  · split at h
    · omega
    · split at h <;> omega
theorem arity2 {k : Int} (h : arityS k = 2) : k = 5 ∨ k = 6 ∨ k = 7 ∨ k = 14 ∨ k = 15 ∨ k = 20 ∨ k = 21 := by
  unfold arityS at h
  split at h
  · omega
  · split at h
    · assumption
    · split at h <;> omega
theorem fields_arity {h : Nd} {ks : List Int} (hf : fieldsS { h with kids := ks } = true) : (ks.length : Int) = arityS h.kind ∧ (timedS h.kind = true → spanS h.lo h.hi = true) := by
  unfold fieldsS at hf
  simp only [Bool.and_eq_true, decide_eq_true_eq] at hf
  refine ⟨hf.2, fun ht => ?_⟩
  have h2 := hf.1.2
  rw [if_pos ht] at h2
  exact h2
/-- The call that says a node's row. -/
def SayC (F : Fz) (k : Nat) (gx : Nat) (kind : Int) (name : ByteArray) (lo hi : Int) (Ak : Option Addr) (nk ck ne : Nat) (S : Nat → Bool) : Prop :=
  ∀ Y : World, Sat F Y → Calls Tryz.prog k #[.pointer (some ⟨gx, 0, none⟩), .agg #[.int .i64 kind, .string name, .int .i64 lo, .int .i64 hi, .slice Ak nk ck]] Y (RetRow Y ne S)
section
variable {F : Fz} {gx ga : Nat} {ss : List ByteArray} {es : List Evt} {An : Option Addr} {nn cn : Nat} {Ae : Option Addr} {ne ce : Nat} {l : List Nd} {t : Tr} {Al : Option Addr} {N cl : Nat}
theorem say_logic (h : SatC F gx ga ss es An nn cn Ae ne ce l t Al N cl) (kind : Int) (name : ByteArray) (lo hi : Int) (Ak : Option Addr) (nk ck : Nat) (r0 r1 : Nat → Bool) (hk : 1 ≤ kind ∧ kind ≤ 7)
    (h0 : 4 ≤ kind → ∃ ak q g, Ak = some ak ∧ KidQ F gx ga N ak nk 0 q g ne r0) (h1 : 5 ≤ kind → ∃ ak q g, Ak = some ak ∧ KidQ F gx ga N ak nk 1 q g ne r1) :
    SayC F 49 gx kind name lo hi Ak nk ck ne (logicS kind (fun j => holdsT ss es j name) r0 r1) := fun Y hY =>
  logic_w hY gx An nn cn Ae ne ce es h.tr h.ne1 kind name lo hi Ak nk ck _ fun Z gb gn gq hZ hL h4 =>
    logic_fn gx An nn cn Ae ne ce es (h.tr.cle hZ.cle) gb gn gq kind name hL _ r0 r1
      (fun _ X hX i hi => holdsT_w hX ss es An nn cn h.hcn h.hnn (h.nm.cle hZ.cle) Ae ne ce (by have := h.ne1; omega) (h.tr.evs.cle hZ.cle) h.ids h.may i hi name _ rfl)
      (fun hk4 X hX i hi => by
        obtain ⟨ak, q, g, rfl, hq⟩ := h0 hk4
        exact kid2_w (hq.full hZ.cle (fun b o e => hZ b o e) hL.b0 h4) hX i hi)
      (fun hk5 X hX i hi => by
        obtain ⟨ak, q, g, rfl, hq⟩ := h1 hk5
        exact kid2_w (hq.full hZ.cle (fun b o e => hZ b o e) hL.b0 h4) hX i hi) hk
theorem say_timeU (h : SatC F gx ga ss es An nn cn Ae ne ce l t Al N cl) (kind : Int) (name : ByteArray) (lo hi : Int) (ak : Addr) (nk ck : Nat) (r : Nat → Bool) (hk : 8 ≤ kind ∧ kind ≤ 13) (hs : spanS lo hi = true) {q g : Nat} (hq : KidQ F gx ga N ak nk 0 q g ne r) :
    SayC F 48 gx kind name lo hi (some ak) nk ck ne (timeU es ne kind lo hi r) := fun Y hY =>
  time_w hY gx An nn cn Ae ne ce es h.tr h.ne1 kind name lo hi ak nk ck _ fun Z gb gn gq gr hZ hB =>
    timeU_fn gx An nn cn Ae ne ce es (h.tr.cle hZ.cle) h.ne1 gb gn gq gr kind name lo hi ak nk ck hB hs ga N q g r (hq.full hZ.cle (fun b o e => hZ b o e) hB.b0 hB.n4) hk
theorem say_timeB (h : SatC F gx ga ss es An nn cn Ae ne ce l t Al N cl) (kind : Int) (name : ByteArray) (lo hi : Int) (ak : Addr) (nk ck : Nat) (r0 r1 : Nat → Bool) (hk : kind = 14 ∨ kind = 15) (hs : spanS lo hi = true) {q0 g0 q1 g1 : Nat} (hq0 : KidQ F gx ga N ak nk 0 q0 g0 ne r0) (hq1 : KidQ F gx ga N ak nk 1 q1 g1 ne r1) :
    SayC F 48 gx kind name lo hi (some ak) nk ck ne (timeB es ne kind lo hi r0 r1) := fun Y hY =>
  time_w hY gx An nn cn Ae ne ce es h.tr h.ne1 kind name lo hi ak nk ck _ fun Z gb gn gq gr hZ hB =>
    timeB_fn gx An nn cn Ae ne ce es (h.tr.cle hZ.cle) h.ne1 gb gn gq gr kind name lo hi ak nk ck hB hs ga N q0 g0 q1 g1 r0 r1 (hq0.full hZ.cle (fun b o e => hZ b o e) hB.b0 hB.n4) (hq1.full hZ.cle (fun b o e => hZ b o e) hB.b0 hB.n4) hk
theorem say_match (h : SatC F gx ga ss es An nn cn Ae ne ce l t Al N cl) (kind : Int) (name : ByteArray) (lo hi : Int) (ak : Addr) (nk ck : Nat) (hk : kind = 16 ∨ kind = 17) (hs : spanS lo hi = true) (hnk : 0 < nk) (root : Nat) (hkd : F.cell ak = some (.int .i64 (root : Nat)))
    (hroot : root < t.size) (hreg : regS (t.sub root).root.kind = true) (hrows : ∀ q, q < root → regS (t.sub q).root.kind = false → AtF F ga ne (fun q => satT (trcE ss es) (t.sub q)) q) :
    SayC F 47 gx kind name lo hi (some ak) nk ck ne (waysS es ne kind lo hi (reachT ne (valL (valsT (trcE ss es) (t.sub root))) (t.sub root) 0)) := fun Y hY =>
  smatch_w hY gx An nn cn Ae ne ce es h.tr h.ne1 kind name lo hi hs hk ak nk ck root hnk hkd _ fun Z hZ =>
    ways_w hZ gx An nn cn Ae ne ce es h.tr h.ne1 h.ne0 (trcE ss es) h.tr.evs.1 l h.lN Al N cl h.hcl h.nodes h.tree h.x2 ga h.x3 root hroot hreg hrows
/-- Each node by its kind. -/
theorem node_says (h : SatC F gx ga ss es An nn cn Ae ne ce l t Al N cl) {i : Nat} (hi : i < t.size) (hrows : ∀ q, q < i → regS (t.sub q).root.kind = false → AtF F ga ne (fun q => satT (trcE ss es) (t.sub q)) q)
    (kind : Int) (name : ByteArray) (lo hi' : Int) (kk : List Int) (hnd : l[i]? = some ⟨kind, name, lo, hi', kk⟩) (Ak : Option Addr) (ck : Nat) (hK : Rd F 1 Ak kk.length (kk.map (Value.int .i64))) :
    (18 ≤ kind ∧ regS (t.sub i).root.kind = true) ∨ (regS (t.sub i).root.kind = false ∧
      (((kind = 16 ∨ kind = 17) ∧ SayC F 47 gx kind name lo hi' Ak kk.length ck ne (satT (trcE ss es) (t.sub i))) ∨
       ((8 ≤ kind ∧ kind ≤ 15) ∧ SayC F 48 gx kind name lo hi' Ak kk.length ck ne (satT (trcE ss es) (t.sub i))) ∨
       ((1 ≤ kind ∧ kind ≤ 7) ∧ SayC F 49 gx kind name lo hi' Ak kk.length ck ne (satT (trcE ss es) (t.sub i))))) := by
  have hlen := tree_len h.tree
  have hil : i < l.length := by omega
  have hne : es.length = ne := h.tr.evs.1
  have hroot := get_flat_root h.tree i hil
  rw [List.getElem?_eq_getElem hil] at hnd
  injection hnd with hnd
  have hkk : kk = zs (kidsN t i) := by rw [← kidsN_eq h.tree i hil, hnd]
  rw [hnd] at hroot
  have hvx := sub_valid t i (tree_valid h.tree)
  have hNN : N = t.size := by have := h.nodes.1; omega
  unfold kidsN at hkk
  -- a kid, by its place
  have hkid : ∀ (j q : Nat), kk[j]? = some ((q : Nat) : Int) → ∃ ak, Ak = some ak ∧ F.cell (ak.add j) = some (.int .i64 (q : Nat)) := fun j q hj => by
    have hjl : j < kk.length := (List.getElem?_eq_some_iff.1 hj).1
    obtain ⟨ak, u, e, hu, hc⟩ := hK.at1 hjl
    rw [List.getElem?_map, hj] at hu
    simp only [Option.map_some, Option.some.injEq] at hu
    subst hu
    exact ⟨ak, e, hc⟩
  have hkq : ∀ (j q : Nat) (r : Nat → Bool), kk[j]? = some ((q : Nat) : Int) → q < i → regS (t.sub q).root.kind = false → satT (trcE ss es) (t.sub q) = r → ∃ ak g, Ak = some ak ∧ KidQ F gx ga N ak kk.length j q g ne r := fun j q r hj hq hr hS => by
    obtain ⟨ak, e, hc⟩ := hkid j q hj
    obtain ⟨g, h1, h2⟩ := hrows q hq hr
    dsimp only at h2
    rw [hS] at h2
    exact ⟨ak, g, e, ⟨h.x3, (List.getElem?_eq_some_iff.1 hj).1, hc, by omega, h1, h2⟩⟩
  cases hx : t.sub i with
  | leaf hd =>
    rw [hx] at hroot hvx hkk
    simp only [Tr.root, Tr.rootKids, Nd.mk.injEq] at hroot
    obtain ⟨rfl, rfl, rfl, rfl, _⟩ := hroot
    obtain ⟨ha, _⟩ := fields_arity (show fieldsS { hd with kids := [] } = true from hvx)
    rcases arity0 ha.symm with e | e | e | e
    · exact .inr ⟨by simp [Tr.root, e, regS], .inr (.inr ⟨by omega, fun Y hY => (say_logic h hd.kind hd.name hd.lo hd.hi Ak _ ck allw allw (by omega) (fun _ => by omega) (fun _ => by omega) Y hY).mono fun _ _ hr => hr.congr fun j hj => by rw [sat_leaf]; exact leafS_logic ss es hd (by omega) _ _ _⟩)⟩
    · exact .inr ⟨by simp [Tr.root, e, regS], .inr (.inr ⟨by omega, fun Y hY => (say_logic h hd.kind hd.name hd.lo hd.hi Ak _ ck allw allw (by omega) (fun _ => by omega) (fun _ => by omega) Y hY).mono fun _ _ hr => hr.congr fun j hj => by rw [sat_leaf]; exact leafS_logic ss es hd (by omega) _ _ _⟩)⟩
    · exact .inr ⟨by simp [Tr.root, e, regS], .inr (.inr ⟨by omega, fun Y hY => (say_logic h hd.kind hd.name hd.lo hd.hi Ak _ ck allw allw (by omega) (fun _ => by omega) (fun _ => by omega) Y hY).mono fun _ _ hr => hr.congr fun j hj => by rw [sat_leaf]; exact leafS_logic ss es hd (by omega) _ _ _⟩)⟩
    · exact .inl ⟨by omega, by simp [Tr.root, e, regS]⟩
  | un hd a =>
    rw [hx] at hroot hvx hkk
    obtain ⟨k1, k2, _⟩ := kid_un hi hx
    have kp := a.size_pos
    simp only [Tr.root, Tr.rootKids, Nd.mk.injEq] at hroot
    obtain ⟨rfl, rfl, rfl, rfl, _⟩ := hroot
    simp only [validT, Bool.and_eq_true, beq_iff_eq] at hvx
    obtain ⟨⟨hf, hw⟩, _⟩ := hvx
    obtain ⟨ha, hsp⟩ := fields_arity hf
    have hk0 : kk[0]? = some ((i - 1 : Nat) : Int) := by rw [hkk]; rfl
    rcases arity1 ha.symm with e | e | e | e | e | e
    · obtain ⟨ak, g, rfl, hq⟩ := hkq 0 (i - 1) (satT (trcE ss es) a) hk0 (by omega) (by rw [k2, hw, e]; rfl) (by rw [k2])
      exact .inr ⟨by simp [Tr.root, e, regS], .inr (.inr ⟨by omega, fun Y hY => (say_logic h hd.kind hd.name hd.lo hd.hi (some ak) _ ck (satT (trcE ss es) a) allw (by omega) (fun _ => ⟨ak, _, g, rfl, hq⟩) (fun _ => by omega) Y hY).mono fun _ _ hr => hr.congr fun j hj => by rw [sat_un]; exact unS_logic ss es hd e _ _ _ _ _⟩)⟩
    · obtain ⟨ak, g, rfl, hq⟩ := hkq 0 (i - 1) (satT (trcE ss es) a) hk0 (by omega) (by rw [k2, hw]; simp [wantsS]; omega) (by rw [k2])
      exact .inr ⟨by show regS hd.kind = false; simp [regS]; omega, .inr (.inl ⟨by omega, fun Y hY => (say_timeU h hd.kind hd.name hd.lo hd.hi ak _ ck (satT (trcE ss es) a) e (hsp (by simp [timedS]; omega)) hq Y hY).mono fun _ _ hr => hr.congr fun j hj => by rw [sat_un, ← hne]; exact unS_time ss es hd e _ _ _ (by omega)⟩)⟩
    · obtain ⟨ak, rfl, hc⟩ := hkid 0 (i - 1) hk0
      rw [show ak.add 0 = ak by unfold Addr.add; simp] at hc
      exact .inr ⟨by simp [Tr.root, e, regS], .inl ⟨by omega, fun Y hY => (say_match h hd.kind hd.name hd.lo hd.hi ak _ ck (.inl e) (hsp (by simp [timedS]; omega)) (by rw [hkk]; simp [zs]) (i - 1) hc (by omega) (by rw [k2, hw, e]; rfl) (fun q hq hr => hrows q (by omega) hr) Y hY).mono fun _ _ hr => hr.congr fun j hj => by rw [sat_un, k2, ← hne]; exact unS_ways ss es hd (.inl e) _ _ _⟩⟩
    · obtain ⟨ak, rfl, hc⟩ := hkid 0 (i - 1) hk0
      rw [show ak.add 0 = ak by unfold Addr.add; simp] at hc
      exact .inr ⟨by simp [Tr.root, e, regS], .inl ⟨by omega, fun Y hY => (say_match h hd.kind hd.name hd.lo hd.hi ak _ ck (.inr e) (hsp (by simp [timedS]; omega)) (by rw [hkk]; simp [zs]) (i - 1) hc (by omega) (by rw [k2, hw, e]; rfl) (fun q hq hr => hrows q (by omega) hr) Y hY).mono fun _ _ hr => hr.congr fun j hj => by rw [sat_un, k2, ← hne]; exact unS_ways ss es hd (.inr e) _ _ _⟩⟩
    · exact .inl ⟨by omega, by simp [Tr.root, e, regS]⟩
    · exact .inl ⟨by omega, by simp [Tr.root, e, regS]⟩
  | bin hd a b =>
    rw [hx] at hroot hvx hkk
    obtain ⟨k1, k2, k3⟩ := sub_bin_kids hi hx
    have kp := a.size_pos
    have kq := b.size_pos
    simp only [Tr.root, Tr.rootKids, Nd.mk.injEq] at hroot
    obtain ⟨rfl, rfl, rfl, rfl, _⟩ := hroot
    simp only [validT, Bool.and_eq_true, beq_iff_eq] at hvx
    obtain ⟨⟨⟨⟨hf, hwa⟩, hwb⟩, _⟩, _⟩ := hvx
    obtain ⟨ha, hsp⟩ := fields_arity hf
    have hk0 : kk[0]? = some ((i - 1 - b.size : Nat) : Int) := by rw [hkk]; rfl
    have hk1 : kk[1]? = some ((i - 1 : Nat) : Int) := by rw [hkk]; rfl
    have hno : hd.kind < 16 → ∃ ak g0 g1, Ak = some ak ∧ KidQ F gx ga N ak kk.length 0 (i - 1 - b.size) g0 ne (satT (trcE ss es) a) ∧ KidQ F gx ga N ak kk.length 1 (i - 1) g1 ne (satT (trcE ss es) b) := fun hlt => by
      obtain ⟨ak, g0, e0, hq0⟩ := hkq 0 _ (satT (trcE ss es) a) hk0 (by omega) (by rw [k3, hwa]; simp [wantsS]; omega) (by rw [k3])
      obtain ⟨ak', g1, e1, hq1⟩ := hkq 1 _ (satT (trcE ss es) b) hk1 (by omega) (by rw [k2, hwb]; simp [wantsS]; omega) (by rw [k2])
      rw [e0] at e1
      injection e1 with e1
      subst e1
      exact ⟨ak, g0, g1, e0, hq0, hq1⟩
    have hlog : (hd.kind = 5 ∨ hd.kind = 6 ∨ hd.kind = 7) → regS (Tr.bin hd a b).root.kind = false ∧ (1 ≤ hd.kind ∧ hd.kind ≤ 7) ∧ SayC F 49 gx hd.kind hd.name hd.lo hd.hi Ak kk.length ck ne (satT (trcE ss es) (.bin hd a b)) := fun e => by
      obtain ⟨ak, g0, g1, rfl, hq0, hq1⟩ := hno (by omega)
      exact ⟨by show regS hd.kind = false; simp [regS]; omega, by omega, fun Y hY => (say_logic h hd.kind hd.name hd.lo hd.hi (some ak) _ ck (satT (trcE ss es) a) (satT (trcE ss es) b) (by omega) (fun _ => ⟨ak, _, g0, rfl, hq0⟩) (fun _ => ⟨ak, _, g1, rfl, hq1⟩) Y hY).mono fun _ _ hr => hr.congr fun j hj => by rw [sat_bin]; exact binS_logic ss es hd e _ _ _ _⟩
    have htim : (hd.kind = 14 ∨ hd.kind = 15) → regS (Tr.bin hd a b).root.kind = false ∧ (8 ≤ hd.kind ∧ hd.kind ≤ 15) ∧ SayC F 48 gx hd.kind hd.name hd.lo hd.hi Ak kk.length ck ne (satT (trcE ss es) (.bin hd a b)) := fun e => by
      obtain ⟨ak, g0, g1, rfl, hq0, hq1⟩ := hno (by omega)
      exact ⟨by show regS hd.kind = false; simp [regS]; omega, by omega, fun Y hY => (say_timeB h hd.kind hd.name hd.lo hd.hi ak _ ck (satT (trcE ss es) a) (satT (trcE ss es) b) e (hsp (by simp [timedS]; omega)) hq0 hq1 Y hY).mono fun _ _ hr => hr.congr fun j hj => by rw [sat_bin, ← hne]; exact binS_time ss es hd e _ _ _⟩
    rcases arity2 ha.symm with e | e | e | e | e | e | e
    · exact .inr ⟨(hlog (.inl e)).1, .inr (.inr (hlog (.inl e)).2)⟩
    · exact .inr ⟨(hlog (.inr (.inl e))).1, .inr (.inr (hlog (.inr (.inl e))).2)⟩
    · exact .inr ⟨(hlog (.inr (.inr e))).1, .inr (.inr (hlog (.inr (.inr e))).2)⟩
    · exact .inr ⟨(htim (.inl e)).1, .inr (.inl (htim (.inl e)).2)⟩
    · exact .inr ⟨(htim (.inr e)).1, .inr (.inl (htim (.inr e)).2)⟩
    · exact .inl ⟨by omega, by simp [Tr.root, e, regS]⟩
    · exact .inl ⟨by omega, by simp [Tr.root, e, regS]⟩
end
end Go.Proofs.YtdbbooibkiicnaaGreat
/-! The walk of sat.All and sat.At. -/
namespace Go.Proofs.YtdbbooibkiicnaaGreat
open Go.RowKit
attribute [local go_sem ↓] Go.wp_at_zero Go.wp_at_succ
/-- The table of rows, i nodes of N done: the formulas among them have theirs. -/
def AtR (w : World) (ga N ne i : Nat) (isF : Nat → Bool) (S : Nat → Nat → Bool) : Prop :=
  ∃ cs : List Value, Blk w ga 47 cs.toArray ∧ cs.length = N ∧ ∀ q, q < i → isF q = true → ∃ g, cs[q]? = some (.slice (some ⟨g, 0, none⟩) ne ne) ∧ ga < g ∧ Blk w g 4 (rowV ne (S q))
namespace AtR
variable {w w' : World} {ga N ne i : Nat} {isF : Nat → Bool} {S : Nat → Nat → Bool}
theorem lt (h : AtR w ga N ne i isF S) : ga < w.heap.size := let ⟨_, h1, _⟩ := h; h1.lt
theorem soft (h : AtR w ga N ne i isF S) (k : Nat) : w.frozen? ⟨ga, k, none⟩ = false := let ⟨_, h1, _⟩ := h; h1.frozen k
theorem some_ (h : AtR w ga N ne i isF S) {k : Nat} (hk : k < N) : ∃ v, w.cell? ⟨ga, k, none⟩ = some v := by
  obtain ⟨cs, h1, h2, _⟩ := h
  exact ⟨cs[k]'(by omega), by rw [h1.cell]; simp [h2, hk]⟩
theorem call (h : AtR w ga N ne i isF S) (hb : Below w.heap.size w w') : AtR w' ga N ne i isF S :=
  let ⟨cs, h1, h2, h3⟩ := h
  ⟨cs, h1.call hb, h2, fun q hq hf => let ⟨g, h4, h5, h6⟩ := h3 q hq hf; ⟨g, h4, h5, h6.call hb⟩⟩
theorem row (h : AtR w ga N ne i isF S) {q : Nat} (hq : q < i) (hf : isF q = true) : AtF (heapF w) ga ne S q := by
  obtain ⟨cs, h1, h2, h3⟩ := h
  obtain ⟨g, h4, h5, h6⟩ := h3 q hq hf
  refine ⟨g, ?_, h6⟩
  have : w.cell? ⟨ga, q, none⟩ = some (.slice (some ⟨g, 0, none⟩) ne ne) := by rw [h1.cell]; simpa using h4
  exact this
theorem fin (h : AtR w ga N ne i isF S) {q : Nat} (hq : q < i) (hf : isF q = true) : ∃ g, w.cell? ⟨ga, q, none⟩ = some (.slice (some ⟨g, 0, none⟩) ne ne) ∧ ga < g ∧ Blk w g 4 (rowV ne (S q)) := by
  obtain ⟨cs, h1, h2, h3⟩ := h
  obtain ⟨g, h4, h5, h6⟩ := h3 q hq hf
  exact ⟨g, by rw [h1.cell]; simpa using h4, h5, h6⟩
theorem skip (h : AtR w ga N ne i isF S) (hf : isF i = false) : AtR w ga N ne (i + 1) isF S :=
  let ⟨cs, h1, h2, h3⟩ := h
  ⟨cs, h1, h2, fun q hq hq2 => h3 q (by rcases Nat.lt_or_ge q i with h | h; exact h; rw [show q = i by omega, hf] at hq2; cases hq2) hq2⟩
theorem put (h : AtR w ga N ne i isF S) (hi : i < N) {g : Nat} (hg : ga < g) (hk : Blk w g 4 (rowV ne (S i))) : AtR (w.setCell ⟨ga, i, none⟩ (.slice (some ⟨g, 0, none⟩) ne ne)) ga N ne (i + 1) isF S := by
  obtain ⟨cs, h1, h2, h3⟩ := h
  refine ⟨cs.set i (.slice (some ⟨g, 0, none⟩) ne ne), by have := h1.set_ i (.slice (some ⟨g, 0, none⟩) ne ne); simpa using this, by simp [h2], fun q hq hf => ?_⟩
  by_cases e : q = i
  · subst e
    exact ⟨g, by simp [h2, hi], hg, hk.far (p := ⟨ga, q, none⟩) (by show g ≠ ga; omega) _⟩
  · obtain ⟨g', h4, h5, h6⟩ := h3 q (by omega) hf
    exact ⟨g', by rw [List.getElem?_set_ne (fun x => e x.symm)]; exact h4, h5, h6.far (p := ⟨ga, i, none⟩) (by show g' ≠ ga; omega) _⟩
theorem new (w : World) (N ne : Nat) (isF : Nat → Bool) (S : Nat → Nat → Bool) : AtR (w.alloc (.cells (zeros (.slice none 0 0) N) 47)) w.heap.size N ne 0 isF S :=
  ⟨List.replicate N (.slice none 0 0), Blk.new w _ _, by simp, fun q hq _ => by omega⟩
end AtR
theorem SatC.cle {F F' : Fz} {gx ga : Nat} {ss : List ByteArray} {es : List Evt} {An : Option Addr} {nn cn : Nat} {Ae : Option Addr} {ne ce : Nat} {l : List Nd} {t : Tr} {Al : Option Addr} {N cl : Nat} (h : SatC F gx ga ss es An nn cn Ae ne ce l t Al N cl) (hle : CLe F F') : SatC F' gx ga ss es An nn cn Ae ne ce l t Al N cl :=
  ⟨h.tr.cle hle, h.nm.cle hle, h.hcn, h.hnn, h.may, h.ids, h.ne1, h.ne0, h.nodes.cle hle, h.hcl, h.lN, h.tree, hle _ _ h.x2, hle _ _ h.x3⟩
theorem makeBB0 (n : Nat) (hn : n ≤ 1000000) (w : World) : (Instr.makeSlice 79 (.int .i64 (n : Int)) (.int .i64 (n : Int))).run Tryz.prog w = .ok (.slice (some ⟨w.heap.size, 0, none⟩) n n) (w.alloc (.cells (zeros (.slice none 0 0) n) 47)) :=
  run_make1 79 47 (.slice none 0 0) 24 Tryz.underlying79 (by kernel_rfl) rfl n (by omega) (by omega) w
set_option maxRecDepth 100000 in
set_option maxHeartbeats 8000000 in
theorem sall_w {F : Fz} {w : World} (hF : Sat F w) (ss : List ByteArray) (es : List Evt) (An : Option Addr) (nn cn : Nat) (hcn : nn ≤ cn) (hN : Rd F 1 An nn (ss.map Value.string)) (Ae : Option Addr) (ne ce : Nat) (hE : EvsF F Ae ne es) (hid : ∀ e ∈ es, e.ids.length ≤ 1000000000) (hM : mayT ss es = true) (hn : ne ≤ 1000) (h0 : 0 < ne)
    (l : List Nd) (hlN : l.length ≤ 1000) (Al : Option Addr) (N cl : Nat) (hcl : N ≤ cl) (hl : NodesF F Al N l) {t : Tr} (ht : treeS l = some t) (hreg : regS t.root.kind = false) :
    Calls Tryz.prog 24 #[.agg #[.slice An nn cn, .slice Ae ne ce], .slice Al N cl] w (RetRow w ne (satT (trcE ss es) t)) := by
  have hnn : nn ≤ 1000000 := by
    have h1 : ss.length = nn := by have := hN.1; simpa using this
    unfold mayT namesOk at hM
    simp only [Bool.and_eq_true, decide_eq_true_eq] at hM
    omega
  have hts := tree_len ht
  have hNl := hl.1
  have hNt : N = t.size := by omega
  have hsp := t.size_pos
  have hNb : N ≤ 1000 := by omega
  obtain ⟨R, hR⟩ : ∃ R, N = R + 1 := ⟨N - 1, by omega⟩
  have hR1 : (N : Int) - 1 = (R : Int) := by omega
  have hR2 : (R : Int) < (N : Int) := by omega
  obtain ⟨isF, hisF⟩ : ∃ isF : Nat → Bool, isF = fun q => !regS (t.sub q).root.kind := ⟨_, rfl⟩
  obtain ⟨S, hS⟩ : ∃ S : Nat → Nat → Bool, S = fun q => satT (trcE ss es) (t.sub q) := ⟨_, rfl⟩
  have hsr : t.sub R = t := by have := Tr.sub_root t; rwa [show t.size - 1 = R by omega] at this
  have HRF : Hid (isF R = true) := Lib.hid (by rw [hisF]; show (!regS (t.sub R).root.kind) = true; rw [hsr, hreg]; rfl)
  have HSR : Hid (S R = satT (trcE ss es) t) := Lib.hid (by rw [hS]; show satT _ (t.sub R) = _; rw [hsr])
  have HMy := Lib.hid (fun (X : World) (h : Sat F X) => mayT_w h ss es An nn cn hcn hN Ae ne ce (by omega) hE hid true hM)
  have hfrm : formL l = true := by unfold formL; rw [ht]; simp [hreg]
  have HFm := Lib.hid (fun (X : World) (h : Sat F X) => form_w h l hlN Al N cl hl true hfrm)
  have hb0 := balloc w (.cells #[.slice An nn cn, .slice Ae ne ce] 43)
  have HB0 := Lib.hid (Blk.new w 43 #[.slice An nn cn, .slice Ae ne ce])
  have hF0 := hF.below hb0
  obtain ⟨t0, t1, _, _⟩ := blkA HB0.out
  have hmkA := fun (Y : World) => makeBB0 N (by omega) Y
  have hne0 : ((ne : Int) == 0) = false := by rw [beq_eq_false_iff_ne]; omega
  have HISF := Lib.hid hisF
  have HSS := Lib.hid hS
  have HNT := Lib.hid hNt
  have HRN := Lib.hid hR
  have HT := Lib.hid ht
  have HL := Lib.hid hl
  have HE := Lib.hid hE
  have HNM := Lib.hid hN
  have HID := Lib.hid hid
  have HMT := Lib.hid hM
  clear hts hNl hNt hsp hisF hS hsr hreg hfrm ht hl hE hN hid hM hR
  go_enter Tryz.func24, Tryz.ntmps24
  go_wp2_with (first
    | (go_at_call 45; refine (HMy.out _ hF0).mono ?_; rintro e w1 ⟨rfl, hw1⟩; have hb1 := bthen hb0 hw1; have hF1 := hF.below hb1; obtain ⟨t0', t1', _, _⟩ := blkA (HB0.out.call hw1))
    | (go_at_call 46; refine (HFm.out _ hF1).mono ?_; rintro e w2 ⟨rfl, hw2⟩; have hb2 := bthen hb1 hw2; have hF2 := hF.below hb2; obtain ⟨t0'', t1'', _, _⟩ := blkA ((HB0.out.call hw1).call hw2)))
  have hz2 : w.heap.size < w2.heap.size := Blk.lt ((HB0.out.call hw1).call hw2)
  obtain ⟨gA, hgA⟩ : ∃ gA, gA = w2.heap.size := ⟨_, rfl⟩
  have HB2 := Lib.hid hb2
  have HF2 := Lib.hid hF2
  clear hw1 hw2 hb1 hF1 hb2 hF2 HMy HFm t0 t1 t0' t1' hb0 hF0
  go_cut [5] from 22 to 29 (fun v5 wx => ∃ gx ga : Nat, v5 = .pointer (some ⟨gx, 0, none⟩) ∧ gx ≠ ga ∧ w2.heap.size ≤ gx ∧ w2.heap.size ≤ ga ∧ Blk wx gx 83 #[.slice An nn cn, .slice Ae ne ce, .slice Al N cl, .slice (some ⟨ga, 0, none⟩) N N] ∧ AtR wx ga N ne 0 isF S ∧ Below w2.heap.size w2 wx)
  case first =>
    go_region
    all_goals
      go_wp2_with fail
      go_meet
      refine ⟨w2.heap.size + 1, w2.heap.size, rfl, by omega, by omega, Nat.le_refl _, Blk.new2 _ _ _ _, ?_, ?_⟩
      · have h := (AtR.new w2 N ne isF S).call (balloc _ (.cells #[.slice An nn cn, .slice Ae ne ce, .slice Al N cl, .slice (some ⟨w2.heap.size, 0, none⟩) N N] 83))
        exact h
      · have h : Below w2.heap.size w2 ((w2.alloc (.cells (zeros (.slice none 0 0) N) 47)).alloc (.cells #[.slice An nn cn, .slice Ae ne ce, .slice Al N cl, .slice (some ⟨w2.heap.size, 0, none⟩) N N] 83)) := (balloc _ _).alloc (by simp) _
        exact ⟨h.os, h.tape, h.output, h.size, h.block⟩
  case rest =>
    obtain ⟨gx, ga, rfl, hne, hgx, hga, hBX, hAt, hbc⟩ := hcut
    have hxl := hBX.lt
    have hal := hAt.lt
    have hFc : Sat F wc := HF2.out.below hbc
    have hFga : F ga = none := HF2.out.none_ hga
    have hcx := cle_hx (Gs := [ga]) hFc (fun g hg => by simp at hg; rw [hg]; exact hFga)
    have hxc : ∀ (k : Nat) (v : Value), wc.cell? ⟨gx, k, none⟩ = some v → (hx wc [ga]).cell ⟨gx, k, none⟩ = some v := fun k v hv => by
      unfold Fz.cell
      rw [hx_out (by simp; omega)]
      exact hv
    obtain ⟨x0, x1, x2, x3⟩ : wc.cell? ⟨gx, 0, none⟩ = some (.slice An nn cn) ∧ wc.cell? ⟨gx, 1, none⟩ = some (.slice Ae ne ce) ∧ wc.cell? ⟨gx, 2, none⟩ = some (.slice Al N cl) ∧ wc.cell? ⟨gx, 3, none⟩ = some (.slice (some ⟨ga, 0, none⟩) N N) := ⟨(hBX.cell 0).trans rfl, (hBX.cell 1).trans rfl, (hBX.cell 2).trans rfl, (hBX.cell 3).trans rfl⟩
    have HSC := Lib.hid (SatC.mk (ga := ga) ⟨hxc _ _ x0, hxc _ _ x1, HE.out.cle hcx⟩ (HNM.out.cle hcx) hcn hnn HMT.out HID.out hn h0 (HL.out.cle hcx) hcl hlN HT.out (hxc _ _ x2) (hxc _ _ x3))
    have HX3 := Lib.hid x3
    have HBC := Lib.hid hbc
    have HFC := Lib.hid hFc
    have HAT := Lib.hid hAt
    clear x0 x1 x2 x3 hxc hcx hFga hbc hFc hAt hBX t0'' t1'' HE HNM HID HMT
    go_wp2_with fail
    go_loopw [6, 7, 31] (fun _ _ v31 wr => ∃ i : Nat, i ≤ N ∧ v31 = .int .i64 i ∧ AtR wr ga N ne i isF S ∧ Wr [ga] wc wr) (fun _ _ v31 _ => N - (intOf v31).toNat)
    case atStart => exact ⟨0, Nat.zero_le _, rfl, HAT.out, .refl _ _⟩
    case round =>
      obtain ⟨i, hi, rfl, hAt, hwr⟩ := hrel
      have hzr := hwr.size
      have hbr : Below w2.heap.size w2 wr := HBC.out.trans (hwr.below (fun g hg => by simp at hg; omega) HBC.out.size)
      have hFr : Sat F wr := HF2.out.below hbr
      have x3 : wr.cell? ⟨gx, 3, none⟩ = some (.slice (some ⟨ga, 0, none⟩) N N) := by
        have h1 : (hx wc [ga]).cell ⟨gx, 3, none⟩ = some (.slice (some ⟨ga, 0, none⟩) N N) := by
          unfold Fz.cell
          rw [hx_out (by simp; omega)]
          exact HX3.out
        exact (sat_hx wr [ga]).cell (hwr.cle _ _ h1)
      by_cases hlt : i < N
      · have hiI : (i : Int) < (N : Int) := by omega
        have hnl : i < l.length := by have := HL.out.1; omega
        obtain ⟨ad, eA, hL⟩ := HL.out.2 (by omega)
        obtain ⟨Ak, ck, hck, hK, hd⟩ := hL i hnl
        obtain ⟨nd, hnd⟩ : ∃ nd, l[i] = nd := ⟨_, rfl⟩
        have hnd' : l[i]? = some nd := by rw [List.getElem?_eq_getElem hnl, hnd]
        simp only [hnd] at hK hd hck
        have HND := Lib.hid hnd'
        clear hnd hnd' hL
        obtain ⟨kind, name, lo, hi', kk⟩ := nd
        dsimp only at hK hd hck
        obtain ⟨K, hKk⟩ : ∃ K, kk.length = K := ⟨_, rfl⟩
        obtain ⟨c0, c1, c2, c3, c4⟩ := hd.sat hFr
        dsimp only at c0 c1 c2 c3 c4
        rw [hKk] at c4
        have HKK := Lib.hid hKk
        have HK := Lib.hid hK
        have HFR := Lib.hid hFr
        subst eA
        clear hKk hK hd hFr hck
        obtain ⟨gn, hgn⟩ : ∃ gn, gn = wr.heap.size := ⟨_, rfl⟩
        obtain ⟨W, hW⟩ : ∃ W, W = wr.alloc (.cells #[.int .i64 kind, .string name, .int .i64 lo, .int .i64 hi', .slice Ak K ck] 62) := ⟨_, rfl⟩
        have hBN : Blk W gn 62 #[.int .i64 kind, .string name, .int .i64 lo, .int .i64 hi', .slice Ak K ck] := by rw [hW, hgn]; exact Blk.new wr _ _
        have hbW : Below wr.heap.size wr W := by rw [hW]; exact balloc _ _
        have hAW := hAt.call hbW
        have hwW := hwr.call hbW
        have hFW := HFR.out.below hbW
        -- what the node says
        have HSAY := Lib.hid (node_says (HSC.out.cle (fun a v h => (sat_hx W [ga]).cle _ _ (hwW.cle a v h))) (i := i) (by have := HNT.out; omega) (fun q hq hr => by
          have h1 := hAW.row hq (show isF q = true by rw [HISF.out]; simp [hr])
          rw [HSS.out] at h1
          exact h1) kind name lo hi' kk HND.out Ak ck (HK.out.cle hFW.cle))
        rw [HKK.out] at HSAY
        have HAW := Lib.hid hAW
        have HWW := Lib.hid hwW
        have HW := Lib.hid hW
        have HBN := Lib.hid hBN
        have hgl : ga < gn := by rw [hgn]; exact Nat.lt_of_lt_of_le hal hzr
        have hxl2 : gx < gn := by rw [hgn]; exact Nat.lt_of_lt_of_le hxl hzr
        clear hAt hwr hbr hAW hwW hFW hBN hW
        have hSi : S i = satT (trcE ss es) (t.sub i) := by rw [HSS.out]
        have HSI := Lib.hid hSi
        have hxW : W.cell? ⟨gx, 3, none⟩ = some (.slice (some ⟨ga, 0, none⟩) N N) := (hbW.cell (p := ⟨gx, 3, none⟩) (by show gx < wr.heap.size; omega)).trans x3
        have hWs : gn < W.heap.size := HBN.out.lt
        clear hSi hbW
        rcases HSAY.out with ⟨hk, hr⟩ | ⟨hr, ⟨rfl | rfl, hC⟩ | ⟨hk, hC⟩ | ⟨hk, hC⟩⟩
        · have g16 : (kind == 16) = false := by rw [beq_eq_false_iff_ne]; omega
          have g17 : (kind == 17) = false := by rw [beq_eq_false_iff_ne]; omega
          have d8 : (8 : Int) ≤ kind := by omega
          have d15 : decide (kind ≤ 15) = false := decide_eq_false (by omega)
          have dl : decide (kind < 8) = false := decide_eq_false (by omega)
          have HSK := Lib.hid (HAW.out.skip (by rw [HISF.out]; simp [hr]))
          clear hk hr HSAY
          go_wp2_with fail
          rw [← HW.out]
          go_roundw
          case rel => exact ⟨i + 1, by omega, by go_num, HSK.out, HWW.out⟩
          case measure => simp [intOf]; omega
        · try have g16 : (kind == 16) = false := (by rw [beq_eq_false_iff_ne]; omega)
          try have g17 : (kind == 17) = false := (by rw [beq_eq_false_iff_ne]; omega)
          try have d8 : (8 : Int) ≤ kind := (by omega)
          try have d15 : kind ≤ 15 := (by omega)
          try have d8' : decide ((8 : Int) ≤ kind) = false := decide_eq_false (by omega)
          try have dl : kind < 8 := (by omega)
          have HC := Lib.hid hC
          try clear hk
          clear hr hC HSAY
          go_wp2_with fail
          rw [← hgn, ← HW.out]
          clear hgn
          obtain ⟨m0, m1, m2, m3, m4⟩ := blk5 HBN.out
          go_region_held3 (fun w' => w'.cell? ⟨gx, 3, none⟩ = some (.slice (some ⟨ga, 0, none⟩) N N) ∧ w'.cell? ⟨gn, 0, none⟩ = some (.int .i64 16) ∧ w'.cell? ⟨gn, 1, none⟩ = some (.string name) ∧ w'.cell? ⟨gn, 2, none⟩ = some (.int .i64 lo) ∧ w'.cell? ⟨gn, 3, none⟩ = some (.int .i64 hi') ∧ w'.cell? ⟨gn, 4, none⟩ = some (.slice Ak K ck)) (first | go_keep | exact ⟨hxW, m0, m1, m2, m3, m4⟩ | exact ⟨s0, s1, s2, s3, s4, s5⟩ | exact ⟨cell_set_ne q0 s0, cell_set_ne q1 s1, cell_set_ne q2 s2, cell_set_ne q3 s3, cell_set_ne q4 s4, cell_set_ne q5 s5⟩)
            (first | (go_at_call 47; refine (HC.out _ (by first | exact sat_heapF W | exact (sat_heapF W).drew)).mono ?_; rintro e5 w5 ⟨g5, rfl, hb5', hg5, hk5⟩; have hb5 : Below W.heap.size W w5 := (by refine bel_trans ?_ hb5'; exact bel_eqv (Below.refl _ W) rfl rfl rfl rfl); have s0 := (hb5.cell (p := ⟨gx, 3, none⟩) (by show gx < W.heap.size; omega)).trans hxW; have s1 := (hb5.cell (p := ⟨gn, 0, none⟩) hWs).trans m0; have s2 := (hb5.cell (p := ⟨gn, 1, none⟩) hWs).trans m1; have s3 := (hb5.cell (p := ⟨gn, 2, none⟩) hWs).trans m2; have s4 := (hb5.cell (p := ⟨gn, 3, none⟩) hWs).trans m3; have s5 := (hb5.cell (p := ⟨gn, 4, none⟩) hWs).trans m4; have hAt5 := HAW.out.call hb5; have f5 := hAt5.soft i; obtain ⟨vz, z5⟩ := hAt5.some_ hlt; have q0 : (⟨ga, i, none⟩ : Addr) ≠ ⟨gx, 3, none⟩ := (fun e => hne (congrArg Addr.block e).symm); have q1 : (⟨ga, i, none⟩ : Addr) ≠ ⟨gn, 0, none⟩ := (fun e => absurd (congrArg Addr.block e) (Nat.ne_of_lt hgl)); have q2 : (⟨ga, i, none⟩ : Addr) ≠ ⟨gn, 1, none⟩ := (fun e => absurd (congrArg Addr.block e) (Nat.ne_of_lt hgl)); have q3 : (⟨ga, i, none⟩ : Addr) ≠ ⟨gn, 2, none⟩ := (fun e => absurd (congrArg Addr.block e) (Nat.ne_of_lt hgl)); have q4 : (⟨ga, i, none⟩ : Addr) ≠ ⟨gn, 3, none⟩ := (fun e => absurd (congrArg Addr.block e) (Nat.ne_of_lt hgl)); have q5 : (⟨ga, i, none⟩ : Addr) ≠ ⟨gn, 4, none⟩ := (fun e => absurd (congrArg Addr.block e) (Nat.ne_of_lt hgl))))
          all_goals
            have hput := hAt5.put hlt (g := g5) (by have : W.heap.size ≤ g5 := hg5; omega) (by rw [HSI.out]; exact hk5)
            have hwp := (HWW.out.call hb5).set (g := ga) (by simp) i (.slice (some ⟨g5, 0, none⟩) ne ne)
            go_wp2_with fail
            go_roundw
            case rel => exact ⟨i + 1, by omega, by go_num, by first | exact hput, by first | exact hwp | exact hwp.drew⟩
            case measure => simp [intOf]; omega
        · try have g16 : (kind == 16) = false := (by rw [beq_eq_false_iff_ne]; omega)
          try have g17 : (kind == 17) = false := (by rw [beq_eq_false_iff_ne]; omega)
          try have d8 : (8 : Int) ≤ kind := (by omega)
          try have d15 : kind ≤ 15 := (by omega)
          try have d8' : decide ((8 : Int) ≤ kind) = false := decide_eq_false (by omega)
          try have dl : kind < 8 := (by omega)
          have HC := Lib.hid hC
          try clear hk
          clear hr hC HSAY
          go_wp2_with fail
          rw [← hgn, ← HW.out]
          clear hgn
          obtain ⟨m0, m1, m2, m3, m4⟩ := blk5 HBN.out
          go_region_held3 (fun w' => w'.cell? ⟨gx, 3, none⟩ = some (.slice (some ⟨ga, 0, none⟩) N N) ∧ w'.cell? ⟨gn, 0, none⟩ = some (.int .i64 17) ∧ w'.cell? ⟨gn, 1, none⟩ = some (.string name) ∧ w'.cell? ⟨gn, 2, none⟩ = some (.int .i64 lo) ∧ w'.cell? ⟨gn, 3, none⟩ = some (.int .i64 hi') ∧ w'.cell? ⟨gn, 4, none⟩ = some (.slice Ak K ck)) (first | go_keep | exact ⟨hxW, m0, m1, m2, m3, m4⟩ | exact ⟨s0, s1, s2, s3, s4, s5⟩ | exact ⟨cell_set_ne q0 s0, cell_set_ne q1 s1, cell_set_ne q2 s2, cell_set_ne q3 s3, cell_set_ne q4 s4, cell_set_ne q5 s5⟩)
            (first | (go_at_call 47; refine (HC.out _ (by first | exact sat_heapF W | exact (sat_heapF W).drew)).mono ?_; rintro e5 w5 ⟨g5, rfl, hb5', hg5, hk5⟩; have hb5 : Below W.heap.size W w5 := (by refine bel_trans ?_ hb5'; exact bel_eqv (Below.refl _ W) rfl rfl rfl rfl); have s0 := (hb5.cell (p := ⟨gx, 3, none⟩) (by show gx < W.heap.size; omega)).trans hxW; have s1 := (hb5.cell (p := ⟨gn, 0, none⟩) hWs).trans m0; have s2 := (hb5.cell (p := ⟨gn, 1, none⟩) hWs).trans m1; have s3 := (hb5.cell (p := ⟨gn, 2, none⟩) hWs).trans m2; have s4 := (hb5.cell (p := ⟨gn, 3, none⟩) hWs).trans m3; have s5 := (hb5.cell (p := ⟨gn, 4, none⟩) hWs).trans m4; have hAt5 := HAW.out.call hb5; have f5 := hAt5.soft i; obtain ⟨vz, z5⟩ := hAt5.some_ hlt; have q0 : (⟨ga, i, none⟩ : Addr) ≠ ⟨gx, 3, none⟩ := (fun e => hne (congrArg Addr.block e).symm); have q1 : (⟨ga, i, none⟩ : Addr) ≠ ⟨gn, 0, none⟩ := (fun e => absurd (congrArg Addr.block e) (Nat.ne_of_lt hgl)); have q2 : (⟨ga, i, none⟩ : Addr) ≠ ⟨gn, 1, none⟩ := (fun e => absurd (congrArg Addr.block e) (Nat.ne_of_lt hgl)); have q3 : (⟨ga, i, none⟩ : Addr) ≠ ⟨gn, 2, none⟩ := (fun e => absurd (congrArg Addr.block e) (Nat.ne_of_lt hgl)); have q4 : (⟨ga, i, none⟩ : Addr) ≠ ⟨gn, 3, none⟩ := (fun e => absurd (congrArg Addr.block e) (Nat.ne_of_lt hgl)); have q5 : (⟨ga, i, none⟩ : Addr) ≠ ⟨gn, 4, none⟩ := (fun e => absurd (congrArg Addr.block e) (Nat.ne_of_lt hgl))))
          all_goals
            have hput := hAt5.put hlt (g := g5) (by have : W.heap.size ≤ g5 := hg5; omega) (by rw [HSI.out]; exact hk5)
            have hwp := (HWW.out.call hb5).set (g := ga) (by simp) i (.slice (some ⟨g5, 0, none⟩) ne ne)
            go_wp2_with fail
            go_roundw
            case rel => exact ⟨i + 1, by omega, by go_num, by first | exact hput, by first | exact hwp | exact hwp.drew⟩
            case measure => simp [intOf]; omega
        · try have g16 : (kind == 16) = false := (by rw [beq_eq_false_iff_ne]; omega)
          try have g17 : (kind == 17) = false := (by rw [beq_eq_false_iff_ne]; omega)
          try have d8 : (8 : Int) ≤ kind := (by omega)
          try have d15 : kind ≤ 15 := (by omega)
          try have d8' : decide ((8 : Int) ≤ kind) = false := decide_eq_false (by omega)
          try have dl : kind < 8 := (by omega)
          have HC := Lib.hid hC
          try clear hk
          clear hr hC HSAY
          go_wp2_with fail
          rw [← hgn, ← HW.out]
          clear hgn
          obtain ⟨m0, m1, m2, m3, m4⟩ := blk5 HBN.out
          go_region_held3 (fun w' => w'.cell? ⟨gx, 3, none⟩ = some (.slice (some ⟨ga, 0, none⟩) N N) ∧ w'.cell? ⟨gn, 0, none⟩ = some (.int .i64 kind) ∧ w'.cell? ⟨gn, 1, none⟩ = some (.string name) ∧ w'.cell? ⟨gn, 2, none⟩ = some (.int .i64 lo) ∧ w'.cell? ⟨gn, 3, none⟩ = some (.int .i64 hi') ∧ w'.cell? ⟨gn, 4, none⟩ = some (.slice Ak K ck)) (first | go_keep | exact ⟨hxW, m0, m1, m2, m3, m4⟩ | exact ⟨s0, s1, s2, s3, s4, s5⟩ | exact ⟨cell_set_ne q0 s0, cell_set_ne q1 s1, cell_set_ne q2 s2, cell_set_ne q3 s3, cell_set_ne q4 s4, cell_set_ne q5 s5⟩)
            (first | (go_at_call 48; refine (HC.out _ (by first | exact sat_heapF W | exact (sat_heapF W).drew)).mono ?_; rintro e5 w5 ⟨g5, rfl, hb5', hg5, hk5⟩; have hb5 : Below W.heap.size W w5 := (by refine bel_trans ?_ hb5'; exact bel_eqv (Below.refl _ W) rfl rfl rfl rfl); have s0 := (hb5.cell (p := ⟨gx, 3, none⟩) (by show gx < W.heap.size; omega)).trans hxW; have s1 := (hb5.cell (p := ⟨gn, 0, none⟩) hWs).trans m0; have s2 := (hb5.cell (p := ⟨gn, 1, none⟩) hWs).trans m1; have s3 := (hb5.cell (p := ⟨gn, 2, none⟩) hWs).trans m2; have s4 := (hb5.cell (p := ⟨gn, 3, none⟩) hWs).trans m3; have s5 := (hb5.cell (p := ⟨gn, 4, none⟩) hWs).trans m4; have hAt5 := HAW.out.call hb5; have f5 := hAt5.soft i; obtain ⟨vz, z5⟩ := hAt5.some_ hlt; have q0 : (⟨ga, i, none⟩ : Addr) ≠ ⟨gx, 3, none⟩ := (fun e => hne (congrArg Addr.block e).symm); have q1 : (⟨ga, i, none⟩ : Addr) ≠ ⟨gn, 0, none⟩ := (fun e => absurd (congrArg Addr.block e) (Nat.ne_of_lt hgl)); have q2 : (⟨ga, i, none⟩ : Addr) ≠ ⟨gn, 1, none⟩ := (fun e => absurd (congrArg Addr.block e) (Nat.ne_of_lt hgl)); have q3 : (⟨ga, i, none⟩ : Addr) ≠ ⟨gn, 2, none⟩ := (fun e => absurd (congrArg Addr.block e) (Nat.ne_of_lt hgl)); have q4 : (⟨ga, i, none⟩ : Addr) ≠ ⟨gn, 3, none⟩ := (fun e => absurd (congrArg Addr.block e) (Nat.ne_of_lt hgl)); have q5 : (⟨ga, i, none⟩ : Addr) ≠ ⟨gn, 4, none⟩ := (fun e => absurd (congrArg Addr.block e) (Nat.ne_of_lt hgl))))
          all_goals
            have hput := hAt5.put hlt (g := g5) (by have : W.heap.size ≤ g5 := hg5; omega) (by rw [HSI.out]; exact hk5)
            have hwp := (HWW.out.call hb5).set (g := ga) (by simp) i (.slice (some ⟨g5, 0, none⟩) ne ne)
            go_wp2_with fail
            go_roundw
            case rel => exact ⟨i + 1, by omega, by go_num, by first | exact hput, by first | exact hwp | exact hwp.drew⟩
            case measure => simp [intOf]; omega
        · try have g16 : (kind == 16) = false := (by rw [beq_eq_false_iff_ne]; omega)
          try have g17 : (kind == 17) = false := (by rw [beq_eq_false_iff_ne]; omega)
          try have d8 : (8 : Int) ≤ kind := (by omega)
          try have d15 : kind ≤ 15 := (by omega)
          try have d8' : decide ((8 : Int) ≤ kind) = false := decide_eq_false (by omega)
          try have dl : kind < 8 := (by omega)
          have HC := Lib.hid hC
          try clear hk
          clear hr hC HSAY
          go_wp2_with fail
          rw [← hgn, ← HW.out]
          clear hgn
          obtain ⟨m0, m1, m2, m3, m4⟩ := blk5 HBN.out
          go_region_held3 (fun w' => w'.cell? ⟨gx, 3, none⟩ = some (.slice (some ⟨ga, 0, none⟩) N N) ∧ w'.cell? ⟨gn, 0, none⟩ = some (.int .i64 kind) ∧ w'.cell? ⟨gn, 1, none⟩ = some (.string name) ∧ w'.cell? ⟨gn, 2, none⟩ = some (.int .i64 lo) ∧ w'.cell? ⟨gn, 3, none⟩ = some (.int .i64 hi') ∧ w'.cell? ⟨gn, 4, none⟩ = some (.slice Ak K ck)) (first | go_keep | exact ⟨hxW, m0, m1, m2, m3, m4⟩ | exact ⟨s0, s1, s2, s3, s4, s5⟩ | exact ⟨cell_set_ne q0 s0, cell_set_ne q1 s1, cell_set_ne q2 s2, cell_set_ne q3 s3, cell_set_ne q4 s4, cell_set_ne q5 s5⟩)
            (first | (go_at_call 49; refine (HC.out _ (by first | exact sat_heapF W | exact (sat_heapF W).drew)).mono ?_; rintro e5 w5 ⟨g5, rfl, hb5', hg5, hk5⟩; have hb5 : Below W.heap.size W w5 := (by refine bel_trans ?_ hb5'; exact bel_eqv (Below.refl _ W) rfl rfl rfl rfl); have s0 := (hb5.cell (p := ⟨gx, 3, none⟩) (by show gx < W.heap.size; omega)).trans hxW; have s1 := (hb5.cell (p := ⟨gn, 0, none⟩) hWs).trans m0; have s2 := (hb5.cell (p := ⟨gn, 1, none⟩) hWs).trans m1; have s3 := (hb5.cell (p := ⟨gn, 2, none⟩) hWs).trans m2; have s4 := (hb5.cell (p := ⟨gn, 3, none⟩) hWs).trans m3; have s5 := (hb5.cell (p := ⟨gn, 4, none⟩) hWs).trans m4; have hAt5 := HAW.out.call hb5; have f5 := hAt5.soft i; obtain ⟨vz, z5⟩ := hAt5.some_ hlt; have q0 : (⟨ga, i, none⟩ : Addr) ≠ ⟨gx, 3, none⟩ := (fun e => hne (congrArg Addr.block e).symm); have q1 : (⟨ga, i, none⟩ : Addr) ≠ ⟨gn, 0, none⟩ := (fun e => absurd (congrArg Addr.block e) (Nat.ne_of_lt hgl)); have q2 : (⟨ga, i, none⟩ : Addr) ≠ ⟨gn, 1, none⟩ := (fun e => absurd (congrArg Addr.block e) (Nat.ne_of_lt hgl)); have q3 : (⟨ga, i, none⟩ : Addr) ≠ ⟨gn, 2, none⟩ := (fun e => absurd (congrArg Addr.block e) (Nat.ne_of_lt hgl)); have q4 : (⟨ga, i, none⟩ : Addr) ≠ ⟨gn, 3, none⟩ := (fun e => absurd (congrArg Addr.block e) (Nat.ne_of_lt hgl)); have q5 : (⟨ga, i, none⟩ : Addr) ≠ ⟨gn, 4, none⟩ := (fun e => absurd (congrArg Addr.block e) (Nat.ne_of_lt hgl))))
          all_goals
            have hput := hAt5.put hlt (g := g5) (by have : W.heap.size ≤ g5 := hg5; omega) (by rw [HSI.out]; exact hk5)
            have hwp := (HWW.out.call hb5).set (g := ga) (by simp) i (.slice (some ⟨g5, 0, none⟩) ne ne)
            go_wp2_with fail
            go_roundw
            case rel => exact ⟨i + 1, by omega, by go_num, by first | exact hput, by first | exact hwp | exact hwp.drew⟩
            case measure => simp [intOf]; omega
      · obtain rfl : i = N := by omega
        have hdec : decide ((i : Int) < (i : Int)) = false := decide_eq_false (by omega)
        obtain ⟨g, hc, hgg, hk⟩ := hAt.fin (q := R) (by have := HRN.out; omega) HRF.out
        rw [HSR.out] at hk
        have HKR := Lib.hid hk
        have HBR := Lib.hid hbr
        clear hAt hwr hbr hFr hk
        go_wp2_with fail
        go_ret
        have hb3 := bthen HB2.out HBR.out
        exact ⟨g, rfl, hb3, by have := HB2.out.size; omega, HKR.out⟩
end Go.Proofs.YtdbbooibkiicnaaGreat
/-! What sat.All and sat.At give of any trace, any list. -/
namespace Go.Proofs.YtdbbooibkiicnaaGreat
open Go.RowKit
def okA (ss : List ByteArray) (es : List Evt) (l : List Nd) : Bool := mayT ss es && (formL l && decide (0 < es.length))
def allA (ss : List ByteArray) (es : List Evt) (l : List Nd) : Nat → Bool := match treeS l with | some t => satT (trcE ss es) t | none => fun _ => false
/-- What All leaves. -/
def RetAll (w : World) (ne : Nat) (ok : Bool) (S : Nat → Bool) (e : Ending) (w' : World) : Prop :=
  (ok = false ∧ e = .returned (.slice none 0 0) ∧ Below w.heap.size w w') ∨ (ok = true ∧ RetRow w ne S e w')
set_option maxRecDepth 100000 in
set_option maxHeartbeats 2000000 in
theorem sallNo_w {F : Fz} {w : World} (hF : Sat F w) (ss : List ByteArray) (es : List Evt) (An : Option Addr) (nn cn : Nat) (hcn : nn ≤ cn) (hN : Rd F 1 An nn (ss.map Value.string)) (Ae : Option Addr) (ne ce : Nat) (hE : EvsF F Ae ne es) (hid : ∀ e ∈ es, e.ids.length ≤ 1000000000) (hn : ne ≤ 1000)
    (l : List Nd) (hlN : l.length ≤ 1000) (Al : Option Addr) (N cl : Nat) (hl : NodesF F Al N l) (hok : okA ss es l = false) :
    Calls Tryz.prog 24 #[.agg #[.slice An nn cn, .slice Ae ne ce], .slice Al N cl] w fun e w' => e = .returned (.slice none 0 0) ∧ Below w.heap.size w w' := by
  obtain ⟨a, ha⟩ : ∃ a, mayT ss es = a := ⟨_, rfl⟩
  obtain ⟨b, hb⟩ : ∃ b, formL l = b := ⟨_, rfl⟩
  have HMy := Lib.hid (fun (X : World) (h : Sat F X) => mayT_w h ss es An nn cn hcn hN Ae ne ce (by omega) hE hid a ha)
  have HFm := Lib.hid (fun (X : World) (h : Sat F X) => form_w h l hlN Al N cl hl b hb)
  have hne := hE.1
  unfold okA at hok
  rw [ha, hb, hne] at hok
  have hb0 := balloc w (.cells #[.slice An nn cn, .slice Ae ne ce] 43)
  have HB0 := Lib.hid (Blk.new w 43 #[.slice An nn cn, .slice Ae ne ce])
  have hF0 := hF.below hb0
  obtain ⟨t0, t1, _, _⟩ := blkA HB0.out
  clear ha hb hN hE hid hl hne
  cases a with
  | false =>
    clear hok
    go_enter Tryz.func24, Tryz.ntmps24
    go_wp2_with (go_at_call 45; refine (HMy.out _ hF0).mono ?_; rintro e w1 ⟨rfl, hw1⟩; have hb1 := bthen hb0 hw1)
    go_ret
    exact ⟨rfl, hb1⟩
  | true =>
    cases b with
    | false =>
      clear hok
      go_enter Tryz.func24, Tryz.ntmps24
      go_wp2_with (first
        | (go_at_call 45; refine (HMy.out _ hF0).mono ?_; rintro e w1 ⟨rfl, hw1⟩; have hb1 := bthen hb0 hw1; have hF1 := hF.below hb1; obtain ⟨t0', t1', _, _⟩ := blkA (HB0.out.call hw1))
        | (go_at_call 46; refine (HFm.out _ hF1).mono ?_; rintro e w2 ⟨rfl, hw2⟩; have hb2 := bthen hb1 hw2))
      go_ret
      exact ⟨rfl, hb2⟩
    | true =>
      obtain rfl : ne = 0 := by simp at hok; omega
      clear hok
      go_enter Tryz.func24, Tryz.ntmps24
      go_wp2_with (first
        | (go_at_call 45; refine (HMy.out _ hF0).mono ?_; rintro e w1 ⟨rfl, hw1⟩; have hb1 := bthen hb0 hw1; have hF1 := hF.below hb1; obtain ⟨t0', t1', _, _⟩ := blkA (HB0.out.call hw1))
        | (go_at_call 46; refine (HFm.out _ hF1).mono ?_; rintro e w2 ⟨rfl, hw2⟩; have hb2 := bthen hb1 hw2; obtain ⟨t0'', t1'', _, _⟩ := blkA ((HB0.out.call hw1).call hw2)))
      go_ret
      exact ⟨rfl, hb2⟩
theorem sAll_w {F : Fz} {w : World} (hF : Sat F w) (ss : List ByteArray) (es : List Evt) (An : Option Addr) (nn cn : Nat) (hcn : nn ≤ cn) (hN : Rd F 1 An nn (ss.map Value.string)) (Ae : Option Addr) (ne ce : Nat) (hE : EvsF F Ae ne es) (hid : ∀ e ∈ es, e.ids.length ≤ 1000000000) (hn : ne ≤ 1000)
    (l : List Nd) (hlN : l.length ≤ 1000) (Al : Option Addr) (N cl : Nat) (hcl : N ≤ cl) (hl : NodesF F Al N l) (ok : Bool) (hok : okA ss es l = ok) (S : Nat → Bool) (hS : allA ss es l = S) :
    Calls Tryz.prog 24 #[.agg #[.slice An nn cn, .slice Ae ne ce], .slice Al N cl] w (RetAll w ne ok S) := by
  cases ok with
  | false => exact (sallNo_w hF ss es An nn cn hcn hN Ae ne ce hE hid hn l hlN Al N cl hl hok).mono fun e w' ⟨h1, h2⟩ => .inl ⟨rfl, h1, h2⟩
  | true =>
    unfold okA at hok
    simp only [Bool.and_eq_true, decide_eq_true_eq] at hok
    obtain ⟨h1, h2, h3⟩ := hok
    cases ht : treeS l with
    | none => unfold formL at h2; rw [ht] at h2; cases h2
    | some t =>
      have hr : regS t.root.kind = false := by unfold formL at h2; rw [ht] at h2; simpa using h2
      rw [← hS]
      unfold allA
      rw [ht]
      exact (sall_w hF ss es An nn cn hcn hN Ae ne ce hE hid h1 hn (by have := hE.1; omega) l hlN Al N cl hcl hl ht hr).mono fun e w' h => .inr ⟨rfl, h⟩
/-- Is it so at a point, if that is one? -/
def atA (ok : Bool) (ne : Nat) (S : Nat → Bool) (i : Int) : Bool := ok && (decide (0 ≤ i ∧ i < ne) && S i.toNat)
set_option maxRecDepth 100000 in
set_option maxHeartbeats 2000000 in
theorem sAt_w {F : Fz} {w : World} (hF : Sat F w) (ss : List ByteArray) (es : List Evt) (An : Option Addr) (nn cn : Nat) (hcn : nn ≤ cn) (hN : Rd F 1 An nn (ss.map Value.string)) (Ae : Option Addr) (ne ce : Nat) (hE : EvsF F Ae ne es) (hid : ∀ e ∈ es, e.ids.length ≤ 1000000000) (hn : ne ≤ 1000)
    (l : List Nd) (hlN : l.length ≤ 1000) (Al : Option Addr) (N cl : Nat) (hcl : N ≤ cl) (hl : NodesF F Al N l) (ok : Bool) (hok : okA ss es l = ok) (S : Nat → Bool) (hS : allA ss es l = S) (i : Int) (B : Bool) (hB : atA ok ne S i = B) :
    Calls Tryz.prog 25 #[.agg #[.slice An nn cn, .slice Ae ne ce], .int .i64 i, .slice Al N cl] w fun e w' => e = .returned (.bool B) ∧ Below w.heap.size w w' := by
  have hb0 := balloc w (.cells #[.slice An nn cn, .slice Ae ne ce] 43)
  have HB0 := Lib.hid (Blk.new w 43 #[.slice An nn cn, .slice Ae ne ce])
  have hF0 := hF.below hb0
  obtain ⟨t0, t1, _, _⟩ := blkA HB0.out
  have HA := Lib.hid (sAll_w hF0 ss es An nn cn hcn hN Ae ne ce hE hid hn l hlN Al N cl hcl hl ok hok S hS)
  clear hN hE hid hl hok hS
  go_enter Tryz.func25, Tryz.ntmps25
  go_wp2_with fail
  go_at_call 24
  refine HA.out.mono ?_
  rintro e w1 (⟨rfl, rfl, hb1⟩ | ⟨rfl, g, rfl, hb1, hg, hk⟩)
  · obtain rfl : false = B := hB
    have hb2 := bthen hb0 hb1
    by_cases h0 : 0 ≤ i
    · have d0 : decide (i < 0) = false := decide_eq_false (by omega)
      go_wp2_with fail
      go_ret
      exact ⟨rfl, hb2⟩
    · have d0 : decide (0 ≤ i) = false := decide_eq_false h0
      go_wp2_with fail
      go_ret
      exact ⟨rfl, hb2⟩
  · have hb2 := bthen hb0 hb1
    unfold atA at hB
    rw [Bool.true_and] at hB
    by_cases h0 : 0 ≤ i
    · obtain ⟨k, rfl⟩ : ∃ k : Nat, i = (k : Int) := ⟨i.toNat, by omega⟩
      by_cases h1 : k < ne
      · rw [decide_eq_true (show (0 : Int) ≤ (k : Int) ∧ (k : Int) < (ne : Int) by omega), Bool.true_and, show ((k : Nat) : Int).toNat = k by omega] at hB
        have hc : w1.cell? ⟨g, k, none⟩ = some (.bool B) := by rw [hk.cell, get_rowV h1, hB]
        have hkI : (k : Int) < (ne : Int) := by omega
        clear hk hB
        go_wp2_with fail
        go_ret
        exact ⟨by first | rfl | (cases B <;> rfl), hb2⟩
      · rw [decide_eq_false (show ¬ ((0 : Int) ≤ (k : Int) ∧ (k : Int) < (ne : Int)) by omega), Bool.false_and] at hB
        subst hB
        have d1 : decide ((k : Int) < (ne : Int)) = false := decide_eq_false (by omega)
        have d1' : decide (k < ne) = false := decide_eq_false h1
        clear hk
        go_wp2_with fail
        go_ret
        exact ⟨rfl, hb2⟩
    · rw [decide_eq_false (show ¬ (0 ≤ i ∧ i < (ne : Int)) by omega), Bool.false_and] at hB
      subst hB
      have d0 : decide (0 ≤ i) = false := decide_eq_false h0
      clear hk
      go_wp2_with fail
      go_ret
      exact ⟨rfl, hb2⟩
end Go.Proofs.YtdbbooibkiicnaaGreat
