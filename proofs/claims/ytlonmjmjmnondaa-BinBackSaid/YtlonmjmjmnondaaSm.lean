/- Slices at any offset: what is appended is a slice too, nil or not. -/
import Derived.Test.YtlonmjmjmnondaaSl
namespace Go.Proofs.Ytlonmjmjmnondaa
set_option linter.unusedVariables false
set_option linter.unusedSimpArgs false
open Go.RowKit
section
variable {P : Program}
theorem run_append_SL_none (w : World) (t ty e : TypeId) (i : TypeInfo) (size : Nat) (ht : P.underlying t = some (.slice e)) (hi : P.info? e = some i)
    (v : Value) (n : Nat) (xs : List Value) (h : SL w e size v n xs) :
    (Builtin.append_ #[t, t] ty #[v, .slice none 0 0]).run P w = .ok v w := by
  rcases h.2 with ⟨rfl, rfl⟩ | ⟨g, off, cap, cur, rfl, hg, hn, hm, hs, hx⟩
  · simp [Builtin.append_, run_underlying ht, sizeOf, typeInfo, hi, Builtin.lenOf, Builtin.firstCells]
  · simp [Builtin.append_, run_underlying ht, sizeOf, typeInfo, hi, Builtin.lenOf, Builtin.firstCells, hn, storeCells]
theorem run_append_SLs (w : World) (t ty e : TypeId) (i : TypeInfo) (z : Value) (size bytes : Nat) (ht : P.underlying t = some (.slice e)) (hi : P.info? e = some i) (hz : i.zero = some z)
    (hsize : i.size = size) (hby : i.bytes = bytes) (hzs : z.cells.size = size) (hsz : 0 < size) (v : Value) (n : Nat) (xs : List Value) (h : SL w e size v n xs)
    (u : Value) (m : Nat) (news : List Value) (hu : SL w e size u m news) (h1 : ∀ u ∈ news, u.oneCell' = true)
    (h63 : n + m ≤ maxLen) (hbytes : (n + m) * bytes ≤ 140737488355328) :
    ∃ A cap w', (Builtin.append_ #[t, t] ty #[v, u]).run P w = .ok (.slice A (n + m) cap) w' ∧ SL w' e size (.slice A (n + m) cap) (n + m) (xs ++ news) ∧ w.grownBy w' v.ownBlock ∧ (∀ k, (Value.slice A (n + m) cap).ownBlock = some k → v.ownBlock = some k ∨ w.heap.size ≤ k) := by
  rcases hu.2 with ⟨rfl, rfl⟩ | ⟨g, off, cap, cur, rfl, hg, hn, hm, hs, hx⟩
  · have hr := run_append_SL_none (P := P) w t ty e i size ht hi v n xs h
    obtain rfl : news = [] := List.eq_nil_of_length_eq_zero (by simpa using hu.1)
    obtain ⟨A, c, rfl, hc⟩ := h.form
    exact ⟨A, c, w, hr, by simpa using h, ⟨rfl, rfl, rfl, Nat.le_refl _, fun _ _ _ => rfl⟩, fun k hk => .inl hk⟩
  · obtain ⟨v', w', hrun, h2, h3, h4⟩ := run_append_SL (P := P) w t ty e i z size bytes ht hi hz hsize hby hzs hsz v n xs h ⟨g, off, none⟩ m cap news hu.1 (fun j u hj => by
      rw [Addr.add_lit, cell_of_row w g _ _ _ _ hg, ← Array.getElem?_toList, ← List.getElem?_drop]
      rw [← hx, List.getElem?_take] at hj
      split at hj
      · exact hj
      · cases hj) h1 h63 hbytes
    obtain ⟨A, c, rfl, hc⟩ := h2.form
    exact ⟨A, c, w', hrun, h2, h3, h4⟩
theorem wp_append_SLs {w : World} {o : Oper} {a : Act} {K : Act → World → Prop} {Q : Exit → Act → World → Prop} (s x : Operand) (t : TypeId)
    (ho : o.op = .call { callee := .builtin .append, args := #[s, x], argTypes := #[t, t] })
    (e : TypeId) (i : TypeInfo) (z : Value) (size bytes : Nat) (ht : P.underlying t = some (.slice e)) (hi : P.info? e = some i) (hz : i.zero = some z)
    (hsize : i.size = size) (hby : i.bytes = bytes) (hzs : z.cells.size = size) (hsz : 0 < size)
    (v : Value) (n : Nat) (xs : List Value) (hs : a.eval s = v) (hown : SL w e size v n xs)
    (u : Value) (m : Nat) (news : List Value) (hx : a.eval x = u) (hu : SL w e size u m news) (h1 : ∀ u ∈ news, u.oneCell' = true)
    (N : Nat) (ys : List Value) (hN : n + m = N) (hys : xs ++ news = ys) (h63 : N ≤ maxLen) (hbytes : N * bytes ≤ 140737488355328)
    (h : ∀ A cap w', SL w' e size (.slice A N cap) N ys → w.grownBy w' v.ownBlock → (∀ k, (Value.slice A N cap).ownBlock = some k → v.ownBlock = some k ∨ w.heap.size ≤ k) → K (a.put o.dst (.slice A N cap)) w') : o.wp P a w K Q := by
  subst hN hys
  obtain ⟨A, cap, w', hr, h2, h3, h4⟩ := run_append_SLs (P := P) w t o.type e i z size bytes ht hi hz hsize hby hzs hsz v n xs hown u m news hu h1 h63 hbytes
  unfold Oper.wp execOp
  simp only [ho, resolve, invoke, builtin, Sem.run_bind, Sem.run_pure, Result.andThen_ok, List.map_toArray, List.map_cons, List.map_nil, hs, hx, hr]
  exact h A cap w' h2 h3 h4
theorem wpList_append_SLs {w : World} {ops : Array Oper} {rest : List Oper} {o : Oper} {a : Act} {Q : Exit → Act → World → Prop} (hgd : o.guard = none) (s x : Operand) (t : TypeId)
    (ho : o.op = .call { callee := .builtin .append, args := #[s, x], argTypes := #[t, t] })
    (e : TypeId) (i : TypeInfo) (z : Value) (size bytes : Nat) (ht : P.underlying t = some (.slice e)) (hi : P.info? e = some i) (hz : i.zero = some z)
    (hsize : i.size = size) (hby : i.bytes = bytes) (hzs : z.cells.size = size) (hsz : 0 < size)
    (v : Value) (n : Nat) (xs : List Value) (hs : a.eval s = v) (hown : SL w e size v n xs)
    (u : Value) (m : Nat) (news : List Value) (hx : a.eval x = u) (hu : SL w e size u m news) (h1 : ∀ u ∈ news, u.oneCell' = true)
    (N : Nat) (ys : List Value) (hN : n + m = N) (hys : xs ++ news = ys) (h63 : N ≤ maxLen) (hbytes : N * bytes ≤ 140737488355328)
    (h : ∀ A cap w', SL w' e size (.slice A N cap) N ys → w.grownBy w' v.ownBlock → (∀ k, (Value.slice A N cap).ownBlock = some k → v.ownBlock = some k ∨ w.heap.size ≤ k) → wpList P ops Q rest (a.put o.dst (.slice A N cap)) w') : wpList P ops Q (o :: rest) a w :=
  wpList_plain hgd fun _ hK => wp_append_SLs s x t ho e i z size bytes ht hi hz hsize hby hzs hsz v n xs hs hown u m news hx hu h1 N ys hN hys h63 hbytes fun A cap w' h2 h3 h4 => hK _ _ (h A cap w' h2 h3 h4)
theorem step_append_SLs {w : World} {ops : Array Oper} {o : Oper} {a : Act} {K : Act → World → Prop} {Q : Exit → Act → World → Prop} {E : Prop} (hgd : o.guard = none) (s x : Operand) (t : TypeId)
    (ho : o.op = .call { callee := .builtin .append, args := #[s, x], argTypes := #[t, t] })
    (e : TypeId) (i : TypeInfo) (z : Value) (size bytes : Nat) (ht : P.underlying t = some (.slice e)) (hi : P.info? e = some i) (hz : i.zero = some z)
    (hsize : i.size = size) (hby : i.bytes = bytes) (hzs : z.cells.size = size) (hsz : 0 < size)
    (v : Value) (n : Nat) (xs : List Value) (hs : a.eval s = v) (hown : SL w e size v n xs)
    (u : Value) (m : Nat) (news : List Value) (hx : a.eval x = u) (hu : SL w e size u m news) (h1 : ∀ u ∈ news, u.oneCell' = true)
    (N : Nat) (ys : List Value) (hN : n + m = N) (hys : xs ++ news = ys) (h63 : N ≤ maxLen) (hbytes : N * bytes ≤ 140737488355328)
    (h : ∀ A cap w', SL w' e size (.slice A N cap) N ys → w.grownBy w' v.ownBlock → (∀ k, (Value.slice A N cap).ownBlock = some k → v.ownBlock = some k ∨ w.heap.size ≤ k) → K (a.put o.dst (.slice A N cap)) w') :
    if Region.wanted o (yielded ops a.tmps) = true then Oper.wp P o a w K Q else E := by
  have hw : Region.wanted o (yielded ops a.tmps) = true := by simp [Region.wanted, hgd]
  rw [if_pos hw]
  exact wp_append_SLs s x t ho e i z size bytes ht hi hz hsize hby hzs hsz v n xs hs hown u m news hx hu h1 N ys hN hys h63 hbytes h
end
section
variable {w : World} {e : TypeId} {sz : Nat}
/-- a slice literal of n elements: a block of its own -/
theorem SL.lit (w : World) (e : TypeId) (sz n : Nat) (cs : Array Value) (hs : cs.size = n * sz) (hm : n ≤ maxLen) : SL (w.alloc (.cells cs e)) e sz (.slice (some ⟨w.heap.size, 0, none⟩) n n) n cs.toList :=
  SL.of_own (World.ownsRow_lit (base := 0) w cs n (Nat.zero_le _) hm hs)
/-- xs[:k] -/
theorem SL.take_ {A : Option Addr} {n c k : Nat} {xs : List Value} (h : SL w e sz (.slice A n c) n xs) (hk : k ≤ n) : SL w e sz (.slice A k c) k (xs.take (k * sz)) := by
  obtain ⟨h1, h2⟩ := h
  have hks : k * sz ≤ n * sz := Nat.mul_le_mul_right _ hk
  refine ⟨by rw [List.length_take, h1]; omega, ?_⟩
  rcases h2 with ⟨h2, rfl⟩ | ⟨g, off, cap, cur, hv, hg, hn, hm, hs, hx⟩
  · simp only [Value.slice.injEq, true_and] at h2
    obtain ⟨rfl, rfl⟩ := h2
    obtain rfl : k = 0 := by omega
    exact .inl ⟨rfl, rfl⟩
  · simp only [Value.slice.injEq, true_and] at hv
    obtain ⟨rfl, rfl⟩ := hv
    refine .inr ⟨g, off, c, cur, rfl, hg, by omega, hm, hs, ?_⟩
    rw [← hx, List.take_take, Nat.min_eq_left hks]
end
end Go.Proofs.Ytlonmjmjmnondaa
