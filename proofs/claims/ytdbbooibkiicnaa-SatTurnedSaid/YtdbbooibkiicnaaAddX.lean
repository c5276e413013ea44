/- The walk of the pile's add. -/
import Derived.Test.YtdbbooibkiicnaaPileP
set_option linter.unusedVariables false
set_option linter.unusedSimpArgs false
namespace Go.Proofs.Ytdbbooibkiicnaa
open Go.RowKit
attribute [local go_sem ↓] Go.wp_at_zero Go.wp_at_succ
/-- What add leaves. -/
def RetA (F : Fz) (w0 w : World) (p : List Tr × List Tr) (e : Ending) (w' : World) : Prop :=
  ∃ A c A' c' F', e = .returned (.agg #[.slice A p.1.length c, .slice A' p.2.length c']) ∧ OwnR F' w' w0.heap.size (.slice A p.1.length c) (memL p.1) ∧ OwnR F' w' w0.heap.size (.slice A' p.2.length c') (memL p.2) ∧ Apart (.slice A p.1.length c) (.slice A' p.2.length c') ∧ Below w0.heap.size w w' ∧ Sat F' w' ∧ Fle w0 F F'
theorem far3 {F : Fz} {w : World} {B : Nat} {v : Value} {ls : List (List Nd)} (h : OwnR F w B v ls) {a b c : Addr} (ha : ∀ g, v.ownBlock = some g → g ≠ a.block ∧ g ≠ b.block ∧ g ≠ c.block) (x y z : Value) : OwnR F (((w.setCell a x).setCell b y).setCell c z) B v ls :=
  ((h.setFar (fun e => (ha _ e).1 rfl) x).setFar (fun e => (ha _ e).2.1 rfl) y).setFar (fun e => (ha _ e).2.2 rfl) z
theorem OwnR.rd2 {F : Fz} {w : World} {B : Nat} {A : Option Addr} {n c : Nat} {ls : List (List Nd)} (h : OwnR F w B (.slice A n c) ls) : n = ls.length ∧ n ≤ c ∧ ∃ xs, Rd (heapF w) 1 A n xs ∧ RowsV F ls xs := by
  obtain ⟨A', c', xs, e, h1, h2, h3⟩ := h.rd
  injection e with e1 e2 e3
  subst e1 e2 e3
  exact ⟨rfl, h1, xs, h2, h3⟩
/-- What leaves a pile's row. -/
def RetT (F : Fz) (w : World) (ts : List Tr) (e : Ending) (w' : World) : Prop := ∃ A c F', e = .returned (.slice A ts.length c) ∧ OwnR F' w' w.heap.size (.slice A ts.length c) (memL ts) ∧ Below w.heap.size w w' ∧ Sat F' w' ∧ Fle w F F'
theorem RetR.toT {F : Fz} {w : World} {ts : List Tr} {e : Ending} {w' : World} {ls : List (List Nd)} (h : RetR F w ls e w') (hl : ls = memL ts) : RetT F w ts e w' := by
  subst hl
  unfold RetR at h
  rw [length_memL] at h
  exact h
theorem row_one {F : Fz} {w : World} (hF : Sat F w) {B : Nat} {A : Option Addr} {c : Nat} {t : Tr} {f : List Tr} (hs : totT (t :: f) ≤ 900) (hf : OwnR F w B (.slice A (f.length + 1) c) (memL (t :: f))) (nd : Nd) (Ak : Option Addr) (nk ck : Nat) :
    Calls Try.prog 107 #[.slice A (f.length + 1) c, .agg #[.int .i64 nd.kind, .string nd.name, .int .i64 nd.lo, .int .i64 nd.hi, .slice Ak nk ck]] w (RetT F w (.un nd t :: f)) := by
  rw [memL_cons] at hf
  obtain ⟨_, hc, xs, h1, h2⟩ := hf.rd2
  rw [totT_cons] at hs
  have := totT_len f
  exact (one_w hF (sat_heapF w) (memL f) (t.flat 0) f.length (length_memL f) (by omega) (by rw [Tr.length_flat]; omega) A c xs h1 h2 hc nd Ak nk ck).mono fun e w' h => h.toT (by rw [memL_cons, over_un])
theorem row_two {F : Fz} {w : World} (hF : Sat F w) {B : Nat} {A : Option Addr} {c : Nat} {a b : Tr} {f : List Tr} (hs : totT (b :: a :: f) ≤ 900) (hf : OwnR F w B (.slice A (f.length + 2) c) (memL (b :: a :: f))) (nd : Nd) (Ak : Option Addr) (nk ck : Nat) :
    Calls Try.prog 108 #[.slice A (f.length + 2) c, .agg #[.int .i64 nd.kind, .string nd.name, .int .i64 nd.lo, .int .i64 nd.hi, .slice Ak nk ck]] w (RetT F w (.bin nd a b :: f)) := by
  rw [memL_cons, memL_cons, List.append_assoc] at hf
  obtain ⟨_, hc, xs, h1, h2⟩ := hf.rd2
  rw [totT_cons, totT_cons] at hs
  have := totT_len f
  exact (two_w hF (sat_heapF w) (memL f) (a.flat 0) (b.flat 0) f.length (length_memL f) (by omega) (by rw [Tr.length_flat]; omega) (by rw [Tr.length_flat]; omega) (flat_kids b 0 (by omega)) A c xs h1 h2 hc nd Ak nk ck).mono fun e w' h => h.toT (by rw [memL_cons, over_bin])
theorem blk2 {w : World} {g : Nat} {t : TypeId} {a b : Value} (h : Blk w g t #[a, b]) : w.cell? ⟨g, 0, none⟩ = some a ∧ w.cell? ⟨g, 1, none⟩ = some b ∧ w.frozen? ⟨g, 0, none⟩ = false ∧ w.frozen? ⟨g, 1, none⟩ = false := ⟨h.cell 0, h.cell 1, h.frozen 0, h.frozen 1⟩
theorem oldF {w0 w : World} {F F' : Fz} (h : Fle w F F') (hs : w0.heap.size ≤ w.heap.size) : Fle w0 F F' := h.old hs
theorem own_len (A : Option Addr) (n n' c c' : Nat) : (Value.slice A n c).ownBlock = (Value.slice A n' c').ownBlock := by cases A <;> rfl
theorem Apart.len {v : Value} {A : Option Addr} {n n' c c' : Nat} (h : Apart v (.slice A n c)) : Apart v (.slice A n' c') := fun g h1 h2 => h g h1 (by rw [own_len A n n' c c']; exact h2)
theorem fin3 {F F2 : Fz} {w0 w w2 : World} {vf vr : Value} {lf lr : List (List Nd)} (hO : OwnR F2 w2 w0.heap.size vf lf) (hO' : OwnR F2 w2 w0.heap.size vr lr) (hap : Apart vf vr) (hb : Below w0.heap.size w w2) (hF2 : Sat F2 w2) (hle : Fle w0 F F2) (g : Nat) (hg : w0.heap.size ≤ g) (h1 : F2 g = none) (h2 : F2 (g + 1) = none)
    (hf : ∀ b, vf.ownBlock = some b → b ≠ g ∧ b ≠ g + 1) (hr : ∀ b, vr.ownBlock = some b → b ≠ g ∧ b ≠ g + 1) (i : Nat) (x y z : Value) :
    OwnR F2 (((w2.setCell ⟨g, i, none⟩ x).setCell ⟨g + 1, 0, none⟩ y).setCell ⟨g + 1, 1, none⟩ z) w0.heap.size vf lf ∧ OwnR F2 (((w2.setCell ⟨g, i, none⟩ x).setCell ⟨g + 1, 0, none⟩ y).setCell ⟨g + 1, 1, none⟩ z) w0.heap.size vr lr ∧ Apart vf vr ∧ Below w0.heap.size w (((w2.setCell ⟨g, i, none⟩ x).setCell ⟨g + 1, 0, none⟩ y).setCell ⟨g + 1, 1, none⟩ z) ∧ Sat F2 (((w2.setCell ⟨g, i, none⟩ x).setCell ⟨g + 1, 0, none⟩ y).setCell ⟨g + 1, 1, none⟩ z) ∧ Fle w0 F F2 := by
  have hg' : w0.heap.size ≤ g + 1 := by omega
  exact ⟨far3 hO (fun b h => ⟨(hf b h).1, (hf b h).2, (hf b h).2⟩) x y z, far3 hO' (fun b h => ⟨(hr b h).1, (hr b h).2, (hr b h).2⟩) x y z, hap, ((hb.setCell (p := ⟨g, i, none⟩) hg x).setCell (p := ⟨g + 1, 0, none⟩) hg' y).setCell (p := ⟨g + 1, 1, none⟩) hg' z, ((hF2.setCell (p := ⟨g, i, none⟩) h1 x).setCell (p := ⟨g + 1, 0, none⟩) h2 y).setCell (p := ⟨g + 1, 1, none⟩) h2 z, hle⟩
end Go.Proofs.Ytdbbooibkiicnaa
