/- What can be read of a slice, wherever it came from: its cells; and such a slice appended. -/
import Derived.Test.YtlonmjmjmnondaaSm
import Derived.Laws.BytesArg
namespace Go.Proofs.Ytlonmjmjmnondaa
set_option linter.unusedVariables false
set_option linter.unusedSimpArgs false
open Go.RowKit
theorem aadd (a : Addr) (i j : Nat) : (a.add i).add j = a.add (i + j) := by
  unfold Addr.add
  by_cases hi : i = 0 <;> by_cases hj : j = 0 <;> simp [hi, hj, Nat.add_assoc]
/-- the slice u reads as these m cells -/
def SR (w : World) (u : Value) (m : Nat) (news : List Value) : Prop :=
  ∃ A c, u = .slice A m c ∧ m ≤ c ∧ c ≤ maxLen ∧ (A = none → c = 0) ∧ news.length = m ∧ ∀ a, A = some a → ∀ j x, news[j]? = some x → w.cell? (a.add j) = some x
section
variable {P : Program} {w w' : World} {u : Value} {m : Nat} {news : List Value}
theorem SR.of_SL {e : TypeId} (h : SL w e 1 u m news) : SR w u m news := by
  obtain ⟨h1, h2⟩ := h
  rw [Nat.mul_one] at h1
  rcases h2 with ⟨rfl, rfl⟩ | ⟨g, off, cap, cur, rfl, hg, hn, hm, hs, hx⟩
  · exact ⟨none, 0, rfl, Nat.le_refl _, by simp [maxLen], fun _ => rfl, h1, fun a ha => by simp at ha⟩
  · refine ⟨_, cap, rfl, hn, hm, fun h => by simp at h, h1, fun a ha j x hj => ?_⟩
    simp only [Option.some.injEq] at ha
    subst ha
    rw [Addr.add_lit, cell_of_row w g _ _ _ _ hg, ← Array.getElem?_toList, ← List.getElem?_drop]
    rw [← hx, List.getElem?_take] at hj
    split at hj
    · exact hj
    · cases hj
theorem SR.below (h : SR w u m news) (hb : Below w.heap.size w w') : SR w' u m news := by
  obtain ⟨A, c, hu, hm, hc, hA, hl, h⟩ := h
  refine ⟨A, c, hu, hm, hc, hA, hl, fun a ha j x hj => ?_⟩
  have h1 := h a ha j x hj
  exact (hb.cell (p := a.add j) (World.block_lt_of_cell? w _ h1)).trans h1
theorem SR.drewN (h : SR w u m news) (n : Nat) : SR (w.drewN n) u m news := h.below (bdrew (Below.refl _ w) n)
theorem SR.take {A : Option Addr} {n c k : Nat} (h : SR w (.slice A n c) n news) (hk : k ≤ n) : SR w (.slice A k c) k (news.take k) := by
  obtain ⟨A', c', hu, hm, hc, hA, hl, h⟩ := h
  simp only [Value.slice.injEq, true_and] at hu
  obtain ⟨rfl, rfl⟩ := hu
  refine ⟨A, c, rfl, by omega, hc, hA, by rw [List.length_take]; omega, fun a ha j x hj => h a ha j x ?_⟩
  rw [List.getElem?_take] at hj
  split at hj
  · exact hj
  · cases hj
theorem SR.drop {A : Option Addr} {n c k : Nat} (h : SR w (.slice A n c) n news) (hk : k ≤ n) : SR w (.slice (if c = k then A else A.map (·.add k)) (n - k) (c - k)) (n - k) (news.drop k) := by
  obtain ⟨A', c', hu, hm, hc, hA, hl, h⟩ := h
  simp only [Value.slice.injEq, true_and] at hu
  obtain ⟨rfl, rfl⟩ := hu
  refine ⟨_, c - k, rfl, by omega, by omega, fun h0 => ?_, by rw [List.length_drop]; omega, fun a ha j x hj => ?_⟩
  · split at h0
    · omega
    · cases A with
      | none => have := hA rfl; omega
      | some a => simp at h0
  · rw [List.getElem?_drop] at hj
    split at ha
    · have hlt : k + j < news.length := by
        rcases Nat.lt_or_ge (k + j) news.length with h2 | h2
        · exact h2
        · rw [List.getElem?_eq_none h2] at hj; cases hj
      omega
    · cases A with
      | none => simp at ha
      | some b =>
        simp only [Option.map_some, Option.some.injEq] at ha
        subst ha
        rw [aadd]
        exact h b rfl _ _ hj
theorem run_append_SRs (w : World) (t ty e : TypeId) (i : TypeInfo) (z : Value) (bytes : Nat) (ht : P.underlying t = some (.slice e)) (hi : P.info? e = some i) (hz : i.zero = some z)
    (hsize : i.size = 1) (hby : i.bytes = bytes) (hzs : z.cells.size = 1) (v : Value) (n : Nat) (xs : List Value) (h : SL w e 1 v n xs)
    (u : Value) (m : Nat) (news : List Value) (hu : SR w u m news) (h1 : ∀ u ∈ news, u.oneCell' = true)
    (h63 : n + m ≤ maxLen) (hbytes : (n + m) * bytes ≤ 140737488355328) :
    ∃ A cap w', (Builtin.append_ #[t, t] ty #[v, u]).run P w = .ok (.slice A (n + m) cap) w' ∧ SL w' e 1 (.slice A (n + m) cap) (n + m) (xs ++ news) ∧ w.grownBy w' v.ownBlock ∧ (∀ k, (Value.slice A (n + m) cap).ownBlock = some k → v.ownBlock = some k ∨ w.heap.size ≤ k) := by
  obtain ⟨A, c, rfl, hm, hc, hA, hl, hcell⟩ := hu
  cases A with
  | none =>
    have h0 := hA rfl
    obtain rfl : m = 0 := by omega
    subst h0
    have hr := run_append_SL_none (P := P) w t ty e i 1 ht hi v n xs h
    obtain rfl : news = [] := List.eq_nil_of_length_eq_zero hl
    obtain ⟨A, c, rfl, hc⟩ := h.form
    exact ⟨A, c, w, hr, by simpa using h, ⟨rfl, rfl, rfl, Nat.le_refl _, fun _ _ _ => rfl⟩, fun k hk => .inl hk⟩
  | some a =>
    obtain ⟨v', w', hrun, h2, h3, h4⟩ := run_append_SL (P := P) w t ty e i z 1 bytes ht hi hz hsize hby hzs Nat.one_pos v n xs h a m c news (by omega) (hcell a rfl) h1 h63 hbytes
    obtain ⟨A, c, rfl, hc⟩ := h2.form
    exact ⟨A, c, w', hrun, h2, h3, h4⟩
theorem wp_append_SRs {w : World} {o : Oper} {a : Act} {K : Act → World → Prop} {Q : Exit → Act → World → Prop} (s x : Operand) (t : TypeId)
    (ho : o.op = .call { callee := .builtin .append, args := #[s, x], argTypes := #[t, t] })
    (e : TypeId) (i : TypeInfo) (z : Value) (bytes : Nat) (ht : P.underlying t = some (.slice e)) (hi : P.info? e = some i) (hz : i.zero = some z)
    (hsize : i.size = 1) (hby : i.bytes = bytes) (hzs : z.cells.size = 1)
    (v : Value) (n : Nat) (xs : List Value) (hs : a.eval s = v) (hown : SL w e 1 v n xs)
    (u : Value) (m : Nat) (news : List Value) (hx : a.eval x = u) (hu : SR w u m news) (h1 : ∀ u ∈ news, u.oneCell' = true)
    (N : Nat) (ys : List Value) (hN : n + m = N) (hys : xs ++ news = ys) (h63 : N ≤ maxLen) (hbytes : N * bytes ≤ 140737488355328)
    (h : ∀ A cap w', SL w' e 1 (.slice A N cap) N ys → w.grownBy w' v.ownBlock → (∀ k, (Value.slice A N cap).ownBlock = some k → v.ownBlock = some k ∨ w.heap.size ≤ k) → K (a.put o.dst (.slice A N cap)) w') : o.wp P a w K Q := by
  subst hN hys
  obtain ⟨A, cap, w', hr, h2, h3, h4⟩ := run_append_SRs (P := P) w t o.type e i z bytes ht hi hz hsize hby hzs v n xs hown u m news hu h1 h63 hbytes
  unfold Oper.wp execOp
  simp only [ho, resolve, invoke, builtin, Sem.run_bind, Sem.run_pure, Result.andThen_ok, List.map_toArray, List.map_cons, List.map_nil, hs, hx, hr]
  exact h A cap w' h2 h3 h4
theorem wpList_append_SRs {w : World} {ops : Array Oper} {rest : List Oper} {o : Oper} {a : Act} {Q : Exit → Act → World → Prop} (hgd : o.guard = none) (s x : Operand) (t : TypeId)
    (ho : o.op = .call { callee := .builtin .append, args := #[s, x], argTypes := #[t, t] })
    (e : TypeId) (i : TypeInfo) (z : Value) (bytes : Nat) (ht : P.underlying t = some (.slice e)) (hi : P.info? e = some i) (hz : i.zero = some z)
    (hsize : i.size = 1) (hby : i.bytes = bytes) (hzs : z.cells.size = 1)
    (v : Value) (n : Nat) (xs : List Value) (hs : a.eval s = v) (hown : SL w e 1 v n xs)
    (u : Value) (m : Nat) (news : List Value) (hx : a.eval x = u) (hu : SR w u m news) (h1 : ∀ u ∈ news, u.oneCell' = true)
    (N : Nat) (ys : List Value) (hN : n + m = N) (hys : xs ++ news = ys) (h63 : N ≤ maxLen) (hbytes : N * bytes ≤ 140737488355328)
    (h : ∀ A cap w', SL w' e 1 (.slice A N cap) N ys → w.grownBy w' v.ownBlock → (∀ k, (Value.slice A N cap).ownBlock = some k → v.ownBlock = some k ∨ w.heap.size ≤ k) → wpList P ops Q rest (a.put o.dst (.slice A N cap)) w') : wpList P ops Q (o :: rest) a w :=
  wpList_plain hgd fun _ hK => wp_append_SRs s x t ho e i z bytes ht hi hz hsize hby hzs v n xs hs hown u m news hx hu h1 N ys hN hys h63 hbytes fun A cap w' h2 h3 h4 => hK _ _ (h A cap w' h2 h3 h4)
/-- string(bytes) -/
theorem run_convert_SR (src e dst : TypeId) (hs : P.underlying src = some (.slice e)) (he : P.underlying e = some (.int .u8)) (hd : P.underlying dst = some .string) {A : Option Addr} {n c : Nat} {xs : List Int}
    (hu : SR w (.slice A n c) n (xs.map (Value.int .u8))) : (convert src dst (.slice A n c)).run P w = .ok (.string (strOfNums xs)) w := by
  obtain ⟨A', c', hu, hm, hc, hA, hl, hcell⟩ := hu
  simp only [Value.slice.injEq, true_and] at hu
  obtain ⟨rfl, rfl⟩ := hu
  rw [List.length_map] at hl
  cases A with
  | none =>
    have h0 := hA rfl
    obtain rfl : xs = [] := List.eq_nil_of_length_eq_zero (by omega)
    exact run_convert_bytes_nil w src e hs he _ _ dst hd
  | some a =>
    have hld : (loadCells a n).run P w = .ok (xs.map (Value.int .u8)).toArray w := by
      have := run_loadCells_list (P := P) w a (xs.map (Value.int .u8)) (hcell a rfl)
      simpa [hl] using this
    rw [run_convert_bytes_string w src dst e _ n c hs he hd, run_bytesToString w _ n c xs hld, foldl_push_bytes]
    simp [strOfNums, ByteArray.empty, ByteArray.emptyWithCapacity]
    rfl
end
end Go.Proofs.Ytlonmjmjmnondaa
