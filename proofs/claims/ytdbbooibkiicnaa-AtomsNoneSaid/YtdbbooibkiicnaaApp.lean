/- append of a whole slice onto a row of the call's own: the source nil, empty or not. Plain lemmas. -/
import Derived.Test.YtdbbooibkiicnaaMem
set_option linter.unusedVariables false
set_option linter.unusedSimpArgs false
/-! append of a whole slice onto a row of the call's own: the source nil, empty or not. Plain lemmas. -/
namespace Go.Proofs.Ytdbbooibkiicnaa
open Go.RowKit
section
variable {P : Program}
theorem run_append_of_nil (w : World) (base : Nat) (t ty e : TypeId) (i : TypeInfo) (size : Nat) (ht : P.underlying t = some (.slice e)) (hi : P.info? e = some i)
    (v : Value) (n : Nat) (xs : List Value) (hown : w.ownsRow base e size v n xs) (c : Nat) : (Builtin.append_ #[t, t] ty #[v, .slice none 0 c]).run P w = .ok v w := by
  rcases hown.2 with ⟨rfl, rfl⟩ | ⟨g, cap, cur, rfl, _, _, hnc, _⟩
  · simp [Builtin.append_, run_underlying ht, sizeOf, typeInfo, hi, Builtin.lenOf, Builtin.firstCells]
  · simp [Builtin.append_, run_underlying ht, sizeOf, typeInfo, hi, Builtin.lenOf, Builtin.firstCells, hnc, storeCells]
/-- append of what a slice reads as, onto a row of the call's own. -/
theorem wpList_pushAll {w : World} {ops : Array Oper} {rest : List Oper} {o : Oper} {a : Act} {Q : Exit → Act → World → Prop} (hgd : o.guard = none) (s x : Operand) (t : TypeId)
    (ho : o.op = .call { callee := .builtin .append, args := #[s, x], argTypes := #[t, t] })
    (e : TypeId) (z : Value) (size bytes : Nat) (ht : P.underlying t = some (.slice e)) (hi : (P.info? e).map (fun i => (i.zero, i.size, i.bytes)) = some (some z, size, bytes)) (hzs : z.cells.size = size) (hsz : 0 < size)
    {F F' : Fz} {B n : Nat} {v : Value} {xs : List Value} (hown : Own F w B e size v n xs) (hF : Sat F w) (hs : a.eval s = v)
    (A : Option Addr) (m c : Nat) (news : List Value) (hx : a.eval x = .slice A m c) (hF' : Sat F' w) (hr : Rd F' size A m news) (h1 : ∀ u ∈ news, u.oneCell' = true)
    (h63 : n + m ≤ maxLen) (hbytes : (n + m) * bytes ≤ 140737488355328) (hB : B ≤ w.heap.size)
    (h : ∀ v' w', Own F w' B e size v' (n + m) (xs ++ news) → Sat F w' → Below B w w' → w.grownBy w' v.ownBlock → (v'.ownBlock = v.ownBlock ∨ v'.ownBlock = some w.heap.size) → wpList P ops Q rest (a.put o.dst v') w') :
    wpList P ops Q (o :: rest) a w := by
  obtain ⟨i, hi, hz0, hz1, hz2⟩ := info_parts hi
  have fin : ∀ v' w', w'.ownsRow B e size v' (n + m) (xs ++ news) → w.grownBy w' v.ownBlock → (v'.ownBlock = v.ownBlock ∨ v'.ownBlock = some w.heap.size) → wpList P ops Q rest (a.put o.dst v') w' := by
    intro v' w' h2 h3 h5
    refine h v' w' ⟨h2, fun g' hg' => ?_⟩ (hF.grown h3 hown.2) ((Below.refl B w).grown h3 hB fun k hk => (hown.1.lt k hk).1) h3 h5
    rcases h5 with h5 | h5
    · exact hown.2 g' (by rw [← h5]; exact hg')
    · rw [hg'] at h5
      injection h5 with h5
      subst h5
      exact hF.none_ (Nat.le_refl _)
  rcases A with _ | ad
  · have hm : m = 0 := by
      rcases Nat.eq_zero_or_pos m with h0 | h0
      · exact h0
      · obtain ⟨ad, h, _⟩ := hr.2 h0
        cases h
    subst hm
    have hn : news = [] := List.eq_nil_of_length_eq_zero (by simpa using hr.1)
    subst hn
    refine wpList_plain hgd fun K hK => ?_
    have hrun := run_append_of_nil (P := P) w B t o.type e i size ht hi v n xs hown.1 c
    unfold Oper.wp execOp
    simp only [ho, resolve, invoke, builtin, Sem.run_bind, Sem.run_pure, Result.andThen_ok, List.map_toArray, List.map_cons, List.map_nil, hs, hx, hrun]
    exact hK _ _ (fin v w (by simpa using hown.1) (World.grownBy.refl w _) (.inl rfl))
  · refine wpList_append_own_at w hgd s x t ho B e i z size bytes ht hi hz0 hz1 hz2 hzs hsz v n xs hs hown.1 ad m c news hx hr.1 (fun j u hu => ?_) h1 h63 hbytes hB fun v' w' h2 h3 _ h5 => fin v' w' h2 h3 h5
    rcases Nat.eq_zero_or_pos m with h0 | h0
    · subst h0
      have hn : news = [] := List.eq_nil_of_length_eq_zero (by simpa using hr.1)
      subst hn
      simp at hu
    · obtain ⟨ad', h', hc⟩ := hr.2 h0
      injection h' with h'
      subst h'
      exact hF'.cell (hc j u hu)
/-- A row that was made empty. -/
theorem Own.empty (F : Fz) (w : World) (B : Nat) (e : TypeId) (size : Nat) {w' : World} (hF : Sat F w) (hw : w' = w.alloc (.cells #[] e)) (hB : B ≤ w.heap.size) : Own F w' B e size (.slice (some ⟨w.heap.size, 0, none⟩) 0 0) 0 [] := by
  subst hw
  refine ⟨⟨by simp, .inr ⟨w.heap.size, 0, #[], rfl, hB, heap_alloc_new w _, Nat.le_refl _, by simp [maxLen], by simp, by simp⟩⟩, fun g hg => ?_⟩
  simp [Value.ownBlock] at hg
  subst hg
  exact hF.none_ (Nat.le_refl _)
/-- A row of the call's own reads as its list. -/
theorem Own.rdH {F : Fz} {w : World} {B : Nat} {e : TypeId} {size n : Nat} {v : Value} {xs : List Value} (h : Own F w B e size v n xs) : ∃ A c, v = .slice A n c ∧ n ≤ c ∧ Rd (heapF w) size A n xs := by
  obtain ⟨⟨hl, h1⟩, _⟩ := h
  rcases h1 with ⟨rfl, rfl⟩ | ⟨g, cap, cur, rfl, hg, hh, hc1, hc2, hc3, hc4⟩
  · obtain rfl : xs = [] := List.eq_nil_of_length_eq_zero (by simpa using hl)
    exact ⟨none, 0, rfl, Nat.le_refl _, Rd.nil⟩
  · refine ⟨_, _, rfl, hc1, hl, fun _ => ⟨_, rfl, fun j u hu => ?_⟩⟩
    rw [add_lit0]
    rw [← hc4, List.getElem?_take] at hu
    unfold Fz.cell heapF
    rw [hh]
    split at hu
    · simpa using hu
    · cases hu
end
end Go.Proofs.Ytdbbooibkiicnaa
/-! append onto rows of ints. -/
namespace Go.Proofs.Ytdbbooibkiicnaa
open Go.RowKit
abbrev encI (z : Int) : Value := .int .i64 z
theorem ones_i (xs : List Int) : ∀ v ∈ xs.map encI, v.oneCell' = true := by
  intro v hv
  obtain ⟨x, _, rfl⟩ := List.mem_map.1 hv
  rfl
theorem wpList_allI {w : World} {ops : Array Oper} {rest : List Oper} {o : Oper} {a : Act} {Q : Exit → Act → World → Prop} (hgd : o.guard = none) (s x : Operand)
    (ho : o.op = .call { callee := .builtin .append, args := #[s, x], argTypes := #[27, 27] })
    {F F' : Fz} {B n : Nat} {v : Value} {xs : List Int} (hown : Own F w B 3 1 v n (xs.map encI)) (hF : Sat F w) (hs : a.eval s = v)
    (A : Option Addr) (m c : Nat) (ys : List Int) (hx : a.eval x = .slice A m c) (hF' : Sat F' w) (hr : Rd F' 1 A m (ys.map encI)) (hn : n + m ≤ 1000000) (hB : B ≤ w.heap.size)
    (h : ∀ v' w', Own F w' B 3 1 v' (n + m) ((xs ++ ys).map encI) → Sat F w' → Below B w w' → w.grownBy w' v.ownBlock → (v'.ownBlock = v.ownBlock ∨ v'.ownBlock = some w.heap.size) → wpList Try.prog ops Q rest (a.put o.dst v') w') :
    wpList Try.prog ops Q (o :: rest) a w := by
  refine wpList_pushAll hgd s x _ ho 3 (.int .i64 0) 1 8 Try.underlying27 (by kernel_rfl) rfl (by omega) hown hF hs A m c _ hx hF' hr (ones_i ys) (by simp [maxLen]; omega) (by omega) hB ?_
  intro v' w' h1 h2 h3 h4 h5
  exact h v' w' (by rw [List.map_append]; exact h1) h2 h3 h4 h5
theorem wpList_pushI {w : World} {ops : Array Oper} {rest : List Oper} {o : Oper} {a : Act} {Q : Exit → Act → World → Prop} (hgd : o.guard = none) (s x : Operand)
    (ho : o.op = .call { callee := .builtin .append, args := #[s, x], argTypes := #[27, 27] })
    {F : Fz} {B n : Nat} {v : Value} {xs : List Int} (hown : Own F w B 3 1 v n (xs.map encI)) (hF : Sat F w) (hs : a.eval s = v)
    (g c : Nat) (y : Int) (hx : a.eval x = .slice (some ⟨g, 0, none⟩) 1 c) (hg : Blk w g 3 #[.int .i64 y]) (hn : n + 1 ≤ 1000000) (hB : B ≤ w.heap.size)
    (h : ∀ v' w', Own F w' B 3 1 v' (n + 1) ((xs ++ [y]).map encI) → Sat F w' → Below B w w' → w.grownBy w' v.ownBlock → (v'.ownBlock = v.ownBlock ∨ v'.ownBlock = some w.heap.size) → wpList Try.prog ops Q rest (a.put o.dst v') w') :
    wpList Try.prog ops Q (o :: rest) a w := by
  refine wpList_push hgd s x _ ho 3 (.int .i64 0) 1 8 Try.underlying27 (by kernel_rfl) rfl (by omega) hown hF hs g c #[.int .i64 y] hx hg rfl (by intro u hu; simp at hu; subst hu; rfl) (by simp [maxLen]; omega) (by omega) hB ?_
  intro v' w' h1 h2 h3 h4 h5
  exact h v' w' (by rw [List.map_append]; exact h1) h2 h3 h4 h5
end Go.Proofs.Ytdbbooibkiicnaa
