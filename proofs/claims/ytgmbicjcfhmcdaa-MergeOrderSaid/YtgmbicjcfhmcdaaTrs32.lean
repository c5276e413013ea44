/- Rows of traces and of parts in memory; what law 32's Make makes: plain. -/
import Derived.Test.YtgmbicjcfhmcdaaMergeV
set_option linter.unusedVariables false
set_option linter.unusedSimpArgs false
/-! Rows of traces and of parts in memory; what law 32's Make makes: plain. -/
namespace Go.Proofs.Ytgmbicjcfhmcdaa
open Go.RowKit
/-- Traces told by their headers, the rest frozen in F. -/
inductive TrsV (F : Fz) : List TrS → List Value → Prop
  | nil : TrsV F [] []
  | cons (t : TrS) (ts : List TrS) (An : Option Addr) (cn : Nat) (Ae : Option Addr) (ce : Nat) (xs : List Value) (h1 : t.1.length ≤ cn) (h2 : t.2.length ≤ ce) (h3 : Rd F 1 An t.1.length (t.1.map Value.string)) (h4 : EvsF F Ae t.2.length t.2) (h : TrsV F ts xs) : TrsV F (t :: ts) (.slice An t.1.length cn :: .slice Ae t.2.length ce :: xs)
namespace TrsV
variable {F F' : Fz}
theorem len {ls : List TrS} {xs : List Value} (h : TrsV F ls xs) : xs.length = ls.length * 2 := by
  induction h with
  | nil => rfl
  | cons t ts An cn Ae ce xs h1 h2 h3 h4 h ih => simp [ih]; omega
theorem cle {ls : List TrS} {xs : List Value} (h : TrsV F ls xs) (hle : CLe F F') : TrsV F' ls xs := by
  induction h with
  | nil => exact .nil
  | cons t ts An cn Ae ce xs h1 h2 h3 h4 h ih => exact .cons _ _ _ _ _ _ _ h1 h2 (h3.cle hle) (h4.cle hle) ih
theorem append {a b : List TrS} {xs ys : List Value} (h : TrsV F a xs) (k : TrsV F b ys) : TrsV F (a ++ b) (xs ++ ys) := by
  induction h with
  | nil => exact k
  | cons t ts An cn Ae ce xs h1 h2 h3 h4 h ih => exact .cons _ _ _ _ _ _ _ h1 h2 h3 h4 ih
theorem at_ {ls : List TrS} {xs : List Value} (h : TrsV F ls xs) : ∀ (q : Nat) (hq : q < ls.length), ∃ An cn Ae ce, ls[q].1.length ≤ cn ∧ ls[q].2.length ≤ ce ∧ xs[q * 2]? = some (.slice An ls[q].1.length cn) ∧ xs[q * 2 + 1]? = some (.slice Ae ls[q].2.length ce) ∧ Rd F 1 An ls[q].1.length (ls[q].1.map Value.string) ∧ EvsF F Ae ls[q].2.length ls[q].2 := by
  induction h with
  | nil => intro q hq; simp at hq
  | cons t ts An cn Ae ce xs h1 h2 h3 h4 h ih =>
    intro q hq
    cases q with
    | zero => exact ⟨An, cn, Ae, ce, h1, h2, rfl, rfl, h3, h4⟩
    | succ q =>
      obtain ⟨An', cn', Ae', ce', k1, k2, k3, k4, k5, k6⟩ := ih q (by simpa using hq)
      refine ⟨An', cn', Ae', ce', k1, k2, ?_, ?_, k5, k6⟩
      · rw [show (q + 1) * 2 = q * 2 + 1 + 1 by omega]; exact k3
      · rw [show (q + 1) * 2 + 1 = q * 2 + 1 + 1 + 1 by omega]; exact k4
theorem toF {ls : List TrS} {xs : List Value} {A : Option Addr} {n : Nat} (h : TrsV F ls xs) (hr : Rd F 2 A n xs) : TrsF F A n ls := by
  have hl := h.len
  have h1 := hr.1
  refine ⟨by omega, fun h0 => ?_⟩
  obtain ⟨ad, rfl, hc⟩ := hr.2 h0
  refine ⟨ad, rfl, fun q hq => ?_⟩
  obtain ⟨An, cn, Ae, ce, k1, k2, k3, k4, k5, k6⟩ := h.at_ q hq
  exact ⟨An, cn, Ae, ce, k1, k2, hc _ _ k3, by rw [add_of_add]; exact hc _ _ k4, k5, k6⟩
end TrsV
/-- A row of headers in a block is what the traces read as. -/
theorem trs_blk {w : World} {g : Nat} {ls : List TrS} {xs : List Value} {n : Nat} (h : Blk w g 27 xs.toArray) (hv : TrsV (heapF w) ls xs) (hn : ls.length = n) : TrsF (heapF w) (some ⟨g, 0, none⟩) n ls := by
  refine hv.toF ⟨by rw [hv.len, hn], fun _ => ⟨_, rfl, fun j u hu => ?_⟩⟩
  rw [add_lit0]
  unfold Fz.cell heapF
  rw [h]
  simpa using hu
/-- A part that a trace is made of: its time, its numbers, its names' number. -/
abbrev PtS := Nat × List Nat × Nat
def PartsF (F : Fz) (A : Option Addr) (n : Nat) (ps : List PtS) : Prop := ps.length = n ∧ (0 < n → ∃ ad, A = some ad ∧ ∀ q (h : q < ps.length), ps[q].1 < 18446744073709551616 ∧ ps[q].2.2 < 256 ∧ (∀ k ∈ ps[q].2.1, k < 65536) ∧ ∃ An cn, F.cell (ad.add (q * 3)) = some (.int .u64 (ps[q].1 : Nat)) ∧ F.cell ((ad.add (q * 3)).add 1) = some (.slice An ps[q].2.1.length cn) ∧ F.cell ((ad.add (q * 3)).add 2) = some (.int .u8 (ps[q].2.2 : Nat)) ∧ Rd F 1 An ps[q].2.1.length (ps[q].2.1.map enc16))
def all6 : List ByteArray := [⟨#[112]⟩, ⟨#[113]⟩, ⟨#[114]⟩, ⟨#[115]⟩, ⟨#[116]⟩, ⟨#[117]⟩]
def idx6 (p i : Nat) : Nat := (p + i * (1 + p / 6 % 2)) % 6
def nmsP (p : Nat) : List ByteArray := (List.range 3).map fun i => all6.getD (idx6 p i) default
theorem nmsP_ok : ∀ p < 256, namesOk (nmsP p) = true := by decide +kernel
def makeT (s : PtS) : TrS := (nmsP s.2.2, evM (min s.1 9223372036854775808) (s.2.1.take 60))
theorem makeT_may {s : PtS} (h : s.2.2 < 256) : mayT (makeT s).1 (makeT s).2 = true := by
  have h1 := mayT_evM (min s.1 9223372036854775808) (s.2.1.take 60)
  unfold mayT at h1 ⊢
  rw [Bool.and_eq_true] at h1 ⊢
  exact ⟨nmsP_ok _ h, h1.2⟩
theorem makeT_len (s : PtS) : (makeT s).1.length = 3 ∧ (makeT s).2.length ≤ 60 ∧ ∀ e ∈ (makeT s).2, e.ids.length ≤ 3 := by
  refine ⟨by simp [makeT, nmsP], ?_, fun e he => evM_ids _ _ e he⟩
  show (evM _ _).length ≤ 60
  rw [length_evM, List.length_take]
  omega
/-- The traces that law 32 makes. -/
def tracesT (ps : List PtS) : List TrS := (ps.take 5).map makeT
theorem tracesT_may {ps : List PtS} (h : ∀ s ∈ ps, s.2.2 < 256) : mayAll (tracesT ps) = true := by
  unfold mayAll tracesT
  rw [List.all_eq_true]
  intro t ht
  obtain ⟨s, hs, rfl⟩ := List.mem_map.1 ht
  exact makeT_may (h s (List.mem_of_mem_take hs))
theorem tracesT_len (ps : List PtS) : (tracesT ps).length ≤ 5 ∧ ∀ t ∈ tracesT ps, t.1.length ≤ 100 ∧ t.2.length ≤ 1000 ∧ ∀ e ∈ t.2, e.ids.length ≤ 1000 := by
  refine ⟨by simp [tracesT]; omega, fun t ht => ?_⟩
  obtain ⟨s, _, rfl⟩ := List.mem_map.1 ht
  obtain ⟨h1, h2, h3⟩ := makeT_len s
  exact ⟨by omega, by omega, fun e he => by have := h3 e he; omega⟩
end Go.Proofs.Ytgmbicjcfhmcdaa
