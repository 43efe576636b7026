/- Slices of the program's own, at whatever place of their block: what they read as, stored into, cut, appended to. -/
import Derived.Test.YteigplfldhdakaaGreatDoorRows
import Derived.WalkKit
import Derived.WalkSpells
import Derived.ArgAppend
import Derived.Laws.IdiomCopy
import Derived.Deep.RegionWith
import Derived.Deep.Draws
import Derived.Deep.MidRow
import Derived.Deep.AppendLies
import Derived.Laws.BytesArg
set_option linter.unusedVariables false
set_option linter.unusedSimpArgs false
namespace Go.Proofs.YteigplfldhdakaaGreatDoor
open Go.RowKit
theorem hid {p : Prop} (h : p) : Hid p := h
theorem ret_val {v u : Value} (h : v = u) : Ending.returned v = Ending.returned u := by rw [h]
theorem bdrew {B : Nat} {w W : World} (h : Below B w W) (n : Nat) : Below B w (W.drewN n) := ⟨h.os, h.tape, h.output, h.size, h.block⟩
theorem balloc {w W : World} (h : Below w.heap.size w W) (o : Obj) : Below w.heap.size w (W.alloc o) := h.alloc h.size o
theorem bthen {w w1 w2 : World} (h : Below w.heap.size w w1) (k : Below w1.heap.size w1 w2) : Below w.heap.size w w2 := h.trans (k.mono h.size)
theorem blk_lt {w : World} {g : Nat} {o : Obj} (h : w.heap[g]? = some o) : g < w.heap.size := (Array.getElem?_eq_some_iff.1 h).1
theorem ownsRow_ge {w : World} {base : Nat} {e : TypeId} {sz n : Nat} {v : Value} {xs : List Value} (h : w.ownsRow base e sz v n xs) : ∀ k, v.ownBlock = some k → base ≤ k := by
  rcases h.2 with ⟨rfl, _⟩ | ⟨g, cap, cur, rfl, hb, _⟩
  · intro k hk; simp [Value.ownBlock] at hk
  · intro k hk; simp [Value.ownBlock] at hk; subst hk; exact hb
/-- Nothing but the blocks of F may have turned; there may be new ones. -/
structure Touch (F : Nat → Prop) (w w' : World) : Prop where
  os : w'.os = w.os
  tape : w'.tape = w.tape
  output : w'.output = w.output
  size : w.heap.size ≤ w'.heap.size
  block : ∀ k, k < w.heap.size → ¬ F k → w'.heap[k]? = w.heap[k]?
section
variable {F G : Nat → Prop} {a b c w w' : World}
theorem Touch.refl (F : Nat → Prop) (w : World) : Touch F w w := ⟨rfl, rfl, rfl, Nat.le_refl _, fun _ _ _ => rfl⟩
theorem Touch.mono (h : Touch F a b) (hf : ∀ k, F k → G k) : Touch G a b := ⟨h.os, h.tape, h.output, h.size, fun k hk hg => h.block k hk (fun hf' => hg (hf k hf'))⟩
theorem Touch.trans (h : Touch F a b) (k : Touch G b c) (hg : ∀ i, G i → F i ∨ a.heap.size ≤ i) : Touch F a c :=
  ⟨k.os.trans h.os, k.tape.trans h.tape, k.output.trans h.output, Nat.le_trans h.size k.size, fun i hi hf =>
    (k.block i (Nat.lt_of_lt_of_le hi h.size) (fun hg' => (hg i hg').elim hf (fun h1 => Nat.lt_irrefl _ (Nat.lt_of_lt_of_le hi h1)))).trans (h.block i hi hf)⟩
theorem Touch.alloc (h : Touch F a w) (o : Obj) : Touch F a (w.alloc o) :=
  ⟨h.os, h.tape, h.output, by have := h.size; simp; omega, fun k hk hf => (Below.heap_alloc w o k (Nat.lt_of_lt_of_le hk h.size)).trans (h.block k hk hf)⟩
theorem Touch.drewN (h : Touch F a w) (n : Nat) : Touch F a (w.drewN n) := ⟨h.os, h.tape, h.output, h.size, h.block⟩
theorem Touch.drew (h : Touch F a w) : Touch F a w.drew := ⟨h.os, h.tape, h.output, h.size, h.block⟩
theorem Touch.setCell (h : Touch F a w) {p : Addr} (hp : F p.block ∨ a.heap.size ≤ p.block) (v : Value) : Touch F a (w.setCell p v) :=
  ⟨h.os, h.tape, h.output, by simp [World.setCell]; exact h.size, fun k hk hf => (Below.heap_setCell w p v k (fun e => by
    subst e
    rcases hp with hp | hp
    · exact hf hp
    · omega)).trans (h.block k hk hf)⟩
theorem Touch.grown (h : Touch F a w) {row : Option Nat} (hg : w.grownBy w' row) (hr : ∀ k, row = some k → F k ∨ a.heap.size ≤ k) : Touch F a w' :=
  ⟨hg.os.trans h.os, hg.tape.trans h.tape, hg.output.trans h.output, Nat.le_trans h.size hg.size, fun k hk hf => (hg.block k (Nat.lt_of_lt_of_le hk h.size) (fun e => by
    rcases hr k e.symm with h1 | h1
    · exact hf h1
    · omega)).trans (h.block k hk hf)⟩
theorem Touch.below (h : Touch F a b) {w0 : World} (hb : Below w0.heap.size w0 a) (hf : ∀ k, F k → w0.heap.size ≤ k) : Below w0.heap.size w0 b :=
  hb.trans ⟨h.os, h.tape, h.output, h.size, fun k hk => h.block k (Nat.lt_of_lt_of_le hk hb.size) (fun hf' => by have := hf k hf'; omega)⟩
theorem Touch.of_below {n : Nat} (h : Below n a b) (hn : a.heap.size ≤ n) : Touch (fun _ => False) a b := ⟨h.os, h.tape, h.output, h.size, fun k hk _ => h.block k (Nat.lt_of_lt_of_le hk hn)⟩
end
/-- v is a slice of n elements of type e (sz cells each): the cells xs; at whatever place of its block. -/
def SL (w : World) (e : TypeId) (sz : Nat) (v : Value) (n : Nat) (xs : List Value) : Prop :=
  xs.length = n * sz ∧ ((v = .slice none 0 0 ∧ n = 0) ∨ ∃ g off cap cur, v = .slice (some ⟨g, off, none⟩) n cap ∧ w.heap[g]? = some (.cells cur e (0, 0)) ∧ n ≤ cap ∧ cap ≤ maxLen ∧ off + cap * sz ≤ cur.size ∧ (cur.toList.drop off).take (n * sz) = xs)
section
variable {w w' : World} {e : TypeId} {sz n : Nat} {v : Value} {xs : List Value}
theorem SL.nil (w : World) (e : TypeId) (sz : Nat) : SL w e sz (.slice none 0 0) 0 [] := ⟨by simp, .inl ⟨rfl, rfl⟩⟩
theorem SL.of_own {base : Nat} (h : w.ownsRow base e sz v n xs) : SL w e sz v n xs := by
  obtain ⟨h1, h2⟩ := h
  refine ⟨h1, ?_⟩
  rcases h2 with h2 | ⟨g, cap, cur, hv, _, hg, hn, hm, hs, hx⟩
  · exact .inl h2
  · exact .inr ⟨g, 0, cap, cur, hv, hg, hn, hm, by omega, by simpa using hx⟩
theorem SL.keep (h : SL w e sz v n xs) (hk : ∀ k, v.ownBlock = some k → w'.heap[k]? = w.heap[k]?) : SL w' e sz v n xs := by
  obtain ⟨h1, h2⟩ := h
  refine ⟨h1, ?_⟩
  rcases h2 with h2 | ⟨g, off, cap, cur, rfl, hg, r⟩
  · exact .inl h2
  · exact .inr ⟨g, off, cap, cur, rfl, (hk g rfl).trans hg, r⟩
theorem SL.lt (h : SL w e sz v n xs) : ∀ k, v.ownBlock = some k → k < w.heap.size := by
  rcases h.2 with ⟨rfl, _⟩ | ⟨g, off, cap, cur, rfl, hg, _⟩
  · intro k hk; simp [Value.ownBlock] at hk
  · intro k hk; simp [Value.ownBlock] at hk; subst hk; exact blk_lt hg
theorem SL.typed (h : SL w e sz v n xs) : ∀ k, v.ownBlock = some k → ∃ cur, w.heap[k]? = some (.cells cur e (0, 0)) := by
  rcases h.2 with ⟨rfl, _⟩ | ⟨g, off, cap, cur, rfl, hg, _⟩
  · intro k hk; simp [Value.ownBlock] at hk
  · intro k hk; simp [Value.ownBlock] at hk; subst hk; exact ⟨_, hg⟩
theorem SL.alloc (h : SL w e sz v n xs) (o : Obj) : SL (w.alloc o) e sz v n xs := h.keep fun k hk => Below.heap_alloc w o k (h.lt k hk)
theorem SL.drewN (h : SL w e sz v n xs) (m : Nat) : SL (w.drewN m) e sz v n xs := h.keep fun _ _ => rfl
theorem SL.far (h : SL w e sz v n xs) {p : Addr} (hp : ∀ k, v.ownBlock = some k → k ≠ p.block) (u : Value) : SL (w.setCell p u) e sz v n xs := h.keep fun k hk => Below.heap_setCell w p u k (hp k hk)
theorem SL.touch {F : Nat → Prop} (h : SL w e sz v n xs) (ht : Touch F w w') (hf : ∀ k, v.ownBlock = some k → ¬ F k) : SL w' e sz v n xs := h.keep fun k hk => ht.block k (h.lt k hk) (hf k hk)
theorem SL.grown (h : SL w e sz v n xs) {row : Option Nat} (hg : w.grownBy w' row) (hf : ∀ k, v.ownBlock = some k → some k ≠ row) : SL w' e sz v n xs := h.keep fun k hk => hg.block k (h.lt k hk) (hf k hk)
theorem SL.form (h : SL w e sz v n xs) : ∃ A c, v = .slice A n c ∧ n ≤ c := by
  rcases h.2 with ⟨rfl, rfl⟩ | ⟨g, off, cap, cur, rfl, _, hn, _⟩
  · exact ⟨none, 0, rfl, Nat.le_refl _⟩
  · exact ⟨_, cap, rfl, hn⟩
theorem SL.le (h : SL w e sz v n xs) : n ≤ 9223372036854775807 := by
  rcases h.2 with ⟨rfl, rfl⟩ | ⟨g, off, cap, cur, rfl, _, hn, hm, _⟩
  · omega
  · simp only [maxLen] at hm; omega
/-- its place, if it has an element -/
theorem SL.open_ (h : SL w e sz v n xs) (hn : 0 < n) : ∃ g off cap, v = .slice (some ⟨g, off, none⟩) n cap ∧ n ≤ cap ∧ v.ownBlock = some g ∧
    (∀ j, j < n * sz → w.cell? ⟨g, off + j, none⟩ = xs[j]?) ∧ (∀ j, w.frozen? ⟨g, j, none⟩ = false) := by
  rcases h.2 with ⟨rfl, rfl⟩ | ⟨g, off, cap, cur, rfl, hg, hnc, hm, hs, hx⟩
  · omega
  · refine ⟨g, off, cap, rfl, hnc, rfl, fun j hj => ?_, fun j => frozen_of_row w g j _ _ hg⟩
    rw [cell_of_row w g _ _ _ _ hg, ← hx, List.getElem?_take, if_pos hj, List.getElem?_drop, Array.getElem?_toList]
/-- a store into it -/
theorem SL.set_ {g off cap : Nat} (h : SL w e sz (.slice (some ⟨g, off, none⟩) n cap) n xs) {j : Nat} (hj : j < n * sz) (u : Value) :
    SL (w.setCell ⟨g, off + j, none⟩ u) e sz (.slice (some ⟨g, off, none⟩) n cap) n (xs.set j u) := by
  obtain ⟨h1, h2⟩ := h
  refine ⟨by simp [h1], .inr ?_⟩
  rcases h2 with ⟨h2, _⟩ | ⟨g', off', cap', cur, hv, hg, hn, hm, hs, hx⟩
  · cases h2
  · simp only [Value.slice.injEq, Option.some.injEq, Addr.mk.injEq, and_true, true_and] at hv
    obtain ⟨⟨rfl, rfl⟩, rfl⟩ := hv
    refine ⟨g, off, cap, cur.setIfInBounds (off + j) u, rfl, heap_setCell_same w g (off + j) cur e u hg, hn, hm, by simpa using hs, ?_⟩
    rw [← hx, Array.toList_setIfInBounds]
    apply List.ext_getElem?
    intro i
    simp only [List.getElem?_take, List.getElem?_drop, List.getElem?_set, List.length_take, List.length_drop, Array.length_toList]
    have hnc : n * sz ≤ cap * sz := Nat.mul_le_mul_right _ hn
    by_cases hi : i < n * sz
    · by_cases hij : j = i
      · subst hij
        rw [if_pos hi, if_pos rfl, if_pos rfl, if_pos (by omega), if_pos (by omega)]
      · rw [if_pos hi, if_neg (by omega), if_neg (by omega), if_pos hi]
    · rw [if_neg hi, if_neg (by omega), if_neg hi]
/-- xs[k:] -/
theorem SL.drop_ {A : Option Addr} {c k : Nat} (h : SL w e sz (.slice A n c) n xs) (hk : k ≤ n) : SL w e sz (.slice (if c = k then A else A.map (·.add (k * sz))) (n - k) (c - k)) (n - k) (xs.drop (k * sz)) := by
  obtain ⟨h1, h2⟩ := h
  refine ⟨by rw [List.length_drop, h1, Nat.sub_mul], ?_⟩
  rcases h2 with ⟨h2, rfl⟩ | ⟨g, off, cap, cur, hv, hg, hn, hm, hs, hx⟩
  · simp only [Value.slice.injEq, true_and] at h2
    obtain ⟨rfl, rfl⟩ := h2
    obtain rfl : k = 0 := by omega
    exact .inl ⟨rfl, rfl⟩
  · simp only [Value.slice.injEq, true_and] at hv
    obtain ⟨rfl, rfl⟩ := hv
    right
    by_cases hc : c = k
    · rw [if_pos hc]
      obtain rfl : n = k := by omega
      subst hc
      exact ⟨g, off, 0, cur, by simp, hg, by omega, by omega, by omega, by rw [Nat.sub_self, Nat.zero_mul, List.take_zero, List.drop_of_length_le (by omega)]⟩
    · rw [if_neg hc]
      refine ⟨g, off + k * sz, c - k, cur, by simp [Addr.add_lit], hg, by omega, by omega, ?_, ?_⟩
      · have : k * sz + (c - k) * sz = c * sz := by rw [← Nat.add_mul]; congr 1; omega
        omega
      · rw [← hx, List.drop_take, List.drop_drop, Nat.sub_mul]
end
section
variable {P : Program}
/-- **append** -/
theorem run_append_SL (w : World) (t ty e : TypeId) (i : TypeInfo) (z : Value) (size bytes : Nat) (ht : P.underlying t = some (.slice e)) (hi : P.info? e = some i) (hz : i.zero = some z)
    (hsize : i.size = size) (hby : i.bytes = bytes) (hzs : z.cells.size = size) (hsz : 0 < size) (v : Value) (n : Nat) (xs : List Value) (h : SL w e size v n xs)
    (a : Addr) (m c : Nat) (news : List Value) (hl : news.length = m * size) (hnews : ∀ j u, news[j]? = some u → w.cell? (a.add j) = some u) (h1 : ∀ u ∈ news, u.oneCell' = true)
    (h63 : n + m ≤ maxLen) (hbytes : (n + m) * bytes ≤ 140737488355328) :
    ∃ v' w', (Builtin.append_ #[t, t] ty #[v, .slice (some a) m c]).run P w = .ok v' w' ∧ SL w' e size v' (n + m) (xs ++ news) ∧ w.grownBy w' v.ownBlock ∧ (∀ k, v'.ownBlock = some k → v.ownBlock = some k ∨ w.heap.size ≤ k) := by
  have hlen : (xs ++ news).length = (n + m) * size := by rw [List.length_append, h.1, hl, Nat.add_mul]
  rcases h.2 with ⟨rfl, rfl⟩ | ⟨g, off, cap, cur, rfl, hg, hn, hm, hs, hx⟩
  · obtain rfl : xs = [] := List.eq_nil_of_length_eq_zero (by simpa using h.1)
    obtain ⟨v', w', hrun, r1, r2, _⟩ := run_append_own_at (P := P) w w.heap.size t ty e i z size bytes ht hi hz hsize hby hzs hsz (.slice none 0 0) 0 [] (World.ownsRow_nil w _ e size) a m c news hl hnews h1 h63 hbytes (Nat.le_refl _)
    exact ⟨v', w', hrun, SL.of_own r1, r2, fun k hk => .inr (ownsRow_ge r1 k hk)⟩
  · have hfc : ∀ j u, xs[j]? = some u → w.cell? (⟨g, off + j, none⟩) = some u := fun j u hj => by
      have hjl : j < xs.length := by
        rcases Nat.lt_or_ge j xs.length with h2 | h2
        · exact h2
        · rw [List.getElem?_eq_none h2] at hj; cases hj
      rw [cell_of_row w g _ _ _ _ hg, ← Array.getElem?_toList, ← List.getElem?_drop]
      rw [← hx, List.getElem?_take, if_pos (by rw [h.1] at hjl; exact hjl)] at hj
      exact hj
    by_cases hr : n + m ≤ cap
    · subst hsize
      have hnm : (n + m) * i.size ≤ cap * i.size := Nat.mul_le_mul_right _ hr
      rw [Nat.add_mul] at hnm
      have hrun := run_append_room_cells (P := P) w t ty e i ht hi g off n cap a m c news hl hnews h1 hr
        (fun j hj => by rw [cell_of_row w g _ _ _ _ hg]; rw [Array.getElem?_eq_getElem (by omega)]; rfl) (fun j _ => frozen_of_row w g _ _ _ hg)
      have key : ∀ (vs : List Value) (o : Nat) (w : World) (cur : Array Value), w.heap[g]? = some (.cells cur e (0, 0)) → o + vs.length ≤ cur.size →
          ∃ cur', (w.setCells g o vs).heap[g]? = some (.cells cur' e (0, 0)) ∧ cur'.size = cur.size ∧ cur'.toList = cur.toList.take o ++ vs ++ cur.toList.drop (o + vs.length) ∧ w.grownBy (w.setCells g o vs) (some g) := by
        intro vs
        induction vs with
        | nil => intro o w cur hc _; exact ⟨cur, hc, rfl, by simp, ⟨rfl, rfl, rfl, Nat.le_refl _, fun _ _ _ => rfl⟩⟩
        | cons u r ih =>
          intro o w cur hc hl2
          rw [List.length_cons] at hl2
          obtain ⟨cur', i1, i2, i3, i4⟩ := ih (o + 1) (w.setCell ⟨g, o, none⟩ u) (cur.setIfInBounds o u) (heap_setCell_same w g o cur e u hc) (by simp; omega)
          refine ⟨cur', i1, by rw [i2]; simp, ?_, ?_⟩
          · rw [i3, Array.toList_setIfInBounds]
            apply List.ext_getElem?
            intro k
            simp only [List.getElem?_append, List.length_append, List.length_take, List.length_set, Array.length_toList, List.length_cons, List.getElem?_take, List.getElem?_set, List.getElem?_drop, List.getElem?_cons]
            grind
          · refine ⟨i4.os, i4.tape, i4.output, Nat.le_trans (by simp [World.setCell]) i4.size, fun k hk hne => ?_⟩
            exact (i4.block k (by simpa [World.setCell] using hk) hne).trans (Below.heap_setCell w _ u k (fun e => hne (by rw [e])))
      obtain ⟨cur', k1, k2, k3, k4⟩ := key news (off + n * i.size) w cur hg (by omega)
      refine ⟨_, _, hrun, ⟨hlen, .inr ⟨g, off, cap, cur', rfl, k1, hr, hm, by rw [k2]; exact hs, ?_⟩⟩, k4, fun k hk => .inl hk⟩
      rw [k3, ← hx]
      apply List.ext_getElem?
      intro k
      simp only [List.getElem?_append, List.length_append, List.length_take, List.length_drop, Array.length_toList, List.getElem?_take, List.getElem?_drop, Nat.add_mul]
      grind
    · obtain ⟨v', w', hrun, r1, r2⟩ := run_append_arg_grows (P := P) w t ty e i z size bytes ht hi hz hsize hby hzs hsz ⟨g, off, none⟩ n cap xs h.1 (fun j u hj => by rw [Addr.add_lit]; exact hfc j u hj) a m c news hl hnews (by omega) h63 hbytes
      refine ⟨v', w', hrun, SL.of_own r1, ⟨r2.os, r2.tape, r2.output, r2.size, fun k hk _ => r2.block k hk (by simp)⟩, fun k hk => .inr (ownsRow_ge r1 k hk)⟩
/-- At the operation: something is appended. -/
theorem wp_append_SL {w : World} {o : Oper} {a : Act} {K : Act → World → Prop} {Q : Exit → Act → World → Prop} (s x : Operand) (t : TypeId)
    (ho : o.op = .call { callee := .builtin .append, args := #[s, x], argTypes := #[t, t] })
    (e : TypeId) (i : TypeInfo) (z : Value) (size bytes : Nat) (ht : P.underlying t = some (.slice e)) (hi : P.info? e = some i) (hz : i.zero = some z)
    (hsize : i.size = size) (hby : i.bytes = bytes) (hzs : z.cells.size = size) (hsz : 0 < size)
    (v : Value) (n : Nat) (xs : List Value) (hs : a.eval s = v) (hown : SL w e size v n xs)
    (ad : Addr) (m c : Nat) (news : List Value) (hx : a.eval x = .slice (some ad) m c) (hl : news.length = m * size) (hnews : ∀ j u, news[j]? = some u → w.cell? (ad.add j) = some u) (h1 : ∀ u ∈ news, u.oneCell' = true)
    (hm : 0 < m) (h63 : n + m ≤ maxLen) (hbytes : (n + m) * bytes ≤ 140737488355328)
    (h : ∀ g off cap w', SL w' e size (.slice (some ⟨g, off, none⟩) (n + m) cap) (n + m) (xs ++ news) → w.grownBy w' v.ownBlock → (v.ownBlock = some g ∨ w.heap.size ≤ g) → K (a.put o.dst (.slice (some ⟨g, off, none⟩) (n + m) cap)) w') : o.wp P a w K Q := by
  obtain ⟨v', w', hr, h2, h3, h4⟩ := run_append_SL (P := P) w t o.type e i z size bytes ht hi hz hsize hby hzs hsz v n xs hown ad m c news hl hnews h1 h63 hbytes
  obtain ⟨g, off, cap, rfl, _⟩ := h2.open_ (by omega)
  unfold Oper.wp execOp
  simp only [ho, resolve, invoke, builtin, Sem.run_bind, Sem.run_pure, Result.andThen_ok, List.map_toArray, List.map_cons, List.map_nil, hs, hx, hr]
  exact h g off cap w' h2 h3 (h4 g rfl)
theorem wpList_append_SL {w : World} {ops : Array Oper} {rest : List Oper} {o : Oper} {a : Act} {Q : Exit → Act → World → Prop} (hgd : o.guard = none) (s x : Operand) (t : TypeId)
    (ho : o.op = .call { callee := .builtin .append, args := #[s, x], argTypes := #[t, t] })
    (e : TypeId) (i : TypeInfo) (z : Value) (size bytes : Nat) (ht : P.underlying t = some (.slice e)) (hi : P.info? e = some i) (hz : i.zero = some z)
    (hsize : i.size = size) (hby : i.bytes = bytes) (hzs : z.cells.size = size) (hsz : 0 < size)
    (v : Value) (n : Nat) (xs : List Value) (hs : a.eval s = v) (hown : SL w e size v n xs)
    (ad : Addr) (m c : Nat) (news : List Value) (hx : a.eval x = .slice (some ad) m c) (hl : news.length = m * size) (hnews : ∀ j u, news[j]? = some u → w.cell? (ad.add j) = some u) (h1 : ∀ u ∈ news, u.oneCell' = true)
    (hm : 0 < m) (h63 : n + m ≤ maxLen) (hbytes : (n + m) * bytes ≤ 140737488355328)
    (h : ∀ g off cap w', SL w' e size (.slice (some ⟨g, off, none⟩) (n + m) cap) (n + m) (xs ++ news) → w.grownBy w' v.ownBlock → (v.ownBlock = some g ∨ w.heap.size ≤ g) → wpList P ops Q rest (a.put o.dst (.slice (some ⟨g, off, none⟩) (n + m) cap)) w') : wpList P ops Q (o :: rest) a w :=
  wpList_plain hgd fun _ hK => wp_append_SL s x t ho e i z size bytes ht hi hz hsize hby hzs hsz v n xs hs hown ad m c news hx hl hnews h1 hm h63 hbytes fun g off cap w' h2 h3 h4 => hK _ _ (h g off cap w' h2 h3 h4)
theorem step_append_SL {w : World} {ops : Array Oper} {o : Oper} {a : Act} {K : Act → World → Prop} {Q : Exit → Act → World → Prop} {E : Prop} (hgd : o.guard = none) (s x : Operand) (t : TypeId)
    (ho : o.op = .call { callee := .builtin .append, args := #[s, x], argTypes := #[t, t] })
    (e : TypeId) (i : TypeInfo) (z : Value) (size bytes : Nat) (ht : P.underlying t = some (.slice e)) (hi : P.info? e = some i) (hz : i.zero = some z)
    (hsize : i.size = size) (hby : i.bytes = bytes) (hzs : z.cells.size = size) (hsz : 0 < size)
    (v : Value) (n : Nat) (xs : List Value) (hs : a.eval s = v) (hown : SL w e size v n xs)
    (ad : Addr) (m c : Nat) (news : List Value) (hx : a.eval x = .slice (some ad) m c) (hl : news.length = m * size) (hnews : ∀ j u, news[j]? = some u → w.cell? (ad.add j) = some u) (h1 : ∀ u ∈ news, u.oneCell' = true)
    (hm : 0 < m) (h63 : n + m ≤ maxLen) (hbytes : (n + m) * bytes ≤ 140737488355328)
    (h : ∀ g off cap w', SL w' e size (.slice (some ⟨g, off, none⟩) (n + m) cap) (n + m) (xs ++ news) → w.grownBy w' v.ownBlock → (v.ownBlock = some g ∨ w.heap.size ≤ g) → K (a.put o.dst (.slice (some ⟨g, off, none⟩) (n + m) cap)) w') :
    if Region.wanted o (yielded ops a.tmps) = true then Oper.wp P o a w K Q else E := by
  have hw : Region.wanted o (yielded ops a.tmps) = true := by simp [Region.wanted, hgd]
  rw [if_pos hw]
  exact wp_append_SL s x t ho e i z size bytes ht hi hz hsize hby hzs hsz v n xs hs hown ad m c news hx hl hnews h1 hm h63 hbytes h
/-- A value of one cell, stored into a cell. -/
theorem run_storeVar_cell (w : World) (b o : Nat) (ty : TypeId) (v u : Value) (hc : w.cell? ⟨b, o, none⟩ = some u) (hf : w.frozen? ⟨b, o, none⟩ = false) (hi : (P.info? ty).map (·.size) = some 1) (h1 : v.oneCell' = true) :
    (storeVar ty ⟨b, o, none⟩ v).run P w = .ok () (w.setCell ⟨b, o, none⟩ v) := by
  have hA : ∀ j, j < [v].length → (w.cell? ⟨b, o + 0 + j, none⟩).isSome = true := fun j hj => by
    obtain rfl : j = 0 := by simpa using hj
    simp [hc]
  have hB : ∀ j, j < [v].length → w.frozen? ⟨b, o + 0 + j, none⟩ = false := fun j hj => by
    obtain rfl : j = 0 := by simpa using hj
    simpa using hf
  have := run_storeCells_cells (P := P) b o [v] 0 w hA hB (fun x hx => by simp at hx; subst hx; exact h1)
  have hcl : v.cells = #[v] := by cases v <;> first | rfl | cases h1
  cases hq : P.info? ty with
  | none => simp [hq] at hi
  | some i =>
    have hs : i.size = 1 := by simpa [hq] using hi
    simp only [Nat.add_zero] at this
    simp [storeVar, sizeOf, typeInfo, hq, hcl, hs, this, World.setCells]
theorem wp_store_cell {w : World} {o : Oper} {a : Act} {K : Act → World → Prop} {Q : Exit → Act → World → Prop} (ty : TypeId) (x y : Operand) (ho : o.op = .store ty x y)
    (b f : Nat) (hx : a.eval x = .pointer (some ⟨b, f, none⟩)) (v u : Value) (hy : a.eval y = v) (hc : w.cell? ⟨b, f, none⟩ = some u) (hf : w.frozen? ⟨b, f, none⟩ = false) (hi : (P.info? ty).map (·.size) = some 1) (h1 : v.oneCell' = true)
    (h : ∀ W', W' = w.setCell ⟨b, f, none⟩ v → K (a.put o.dst undef) W') : o.wp P a w K Q := by
  unfold Oper.wp execOp
  simp only [ho, hx, hy, Instr.storeAt, Instr.sureAddr, Sem.run_bind, Sem.run_pure, Result.andThen_ok, run_storeVar_cell w b f ty v u hc hf hi h1]
  exact h _ rfl
theorem wpList_store_cell {w : World} {ops : Array Oper} {rest : List Oper} {o : Oper} {a : Act} {Q : Exit → Act → World → Prop} (hgd : o.guard = none) (ty : TypeId) (x y : Operand) (ho : o.op = .store ty x y)
    (b f : Nat) (hx : a.eval x = .pointer (some ⟨b, f, none⟩)) (v u : Value) (hy : a.eval y = v) (hc : w.cell? ⟨b, f, none⟩ = some u) (hf : w.frozen? ⟨b, f, none⟩ = false) (hi : (P.info? ty).map (·.size) = some 1) (h1 : v.oneCell' = true)
    (h : ∀ W', W' = w.setCell ⟨b, f, none⟩ v → wpList P ops Q rest (a.put o.dst undef) W') : wpList P ops Q (o :: rest) a w :=
  wpList_plain hgd fun _ hK => wp_store_cell ty x y ho b f hx v u hy hc hf hi h1 fun W' hW => hK _ _ (h W' hW)
theorem step_store_cell {w : World} {ops : Array Oper} {o : Oper} {a : Act} {K : Act → World → Prop} {Q : Exit → Act → World → Prop} {E : Prop} (hgd : o.guard = none) (ty : TypeId) (x y : Operand) (ho : o.op = .store ty x y) (hd : o.dst = none)
    (b f : Nat) (hx : a.eval x = .pointer (some ⟨b, f, none⟩)) (v u : Value) (hy : a.eval y = v) (hc : w.cell? ⟨b, f, none⟩ = some u) (hf : w.frozen? ⟨b, f, none⟩ = false) (hi : (P.info? ty).map (·.size) = some 1) (h1 : v.oneCell' = true)
    (h : ∀ W', W' = w.setCell ⟨b, f, none⟩ v → K a W') :
    if Region.wanted o (yielded ops a.tmps) = true then Oper.wp P o a w K Q else E := by
  have hw : Region.wanted o (yielded ops a.tmps) = true := by simp [Region.wanted, hgd]
  rw [if_pos hw]
  refine wp_store_cell ty x y ho b f hx v u hy hc hf hi h1 fun W' hW => ?_
  rw [hd]
  exact h W' hW
end
end Go.Proofs.YteigplfldhdakaaGreatDoor
/- Slices at any offset: what is appended is a slice too, nil or not. -/
namespace Go.Proofs.YteigplfldhdakaaGreatDoor
open Go.RowKit
section
variable {P : Program}
theorem run_append_SL_none (w : World) (t ty e : TypeId) (i : TypeInfo) (size : Nat) (ht : P.underlying t = some (.slice e)) (hi : P.info? e = some i)
    (v : Value) (n : Nat) (xs : List Value) (h : SL w e size v n xs) :
    (Builtin.append_ #[t, t] ty #[v, .slice none 0 0]).run P w = .ok v w := by
  rcases h.2 with ⟨rfl, rfl⟩ | ⟨g, off, cap, cur, rfl, hg, hn, hm, hs, hx⟩
  · simp [Builtin.append_, run_underlying ht, sizeOf, typeInfo, hi, Builtin.lenOf, Builtin.firstCells]
  · simp [Builtin.append_, run_underlying ht, sizeOf, typeInfo, hi, Builtin.lenOf, Builtin.firstCells, hn, storeCells]
theorem run_append_SLs (w : World) (t ty e : TypeId) (i : TypeInfo) (z : Value) (size bytes : Nat) (ht : P.underlying t = some (.slice e)) (hi : P.info? e = some i) (hz : i.zero = some z)
    (hsize : i.size = size) (hby : i.bytes = bytes) (hzs : z.cells.size = size) (hsz : 0 < size) (v : Value) (n : Nat) (xs : List Value) (h : SL w e size v n xs)
    (u : Value) (m : Nat) (news : List Value) (hu : SL w e size u m news) (h1 : ∀ u ∈ news, u.oneCell' = true)
    (h63 : n + m ≤ maxLen) (hbytes : (n + m) * bytes ≤ 140737488355328) :
    ∃ A cap w', (Builtin.append_ #[t, t] ty #[v, u]).run P w = .ok (.slice A (n + m) cap) w' ∧ SL w' e size (.slice A (n + m) cap) (n + m) (xs ++ news) ∧ w.grownBy w' v.ownBlock ∧ (∀ k, (Value.slice A (n + m) cap).ownBlock = some k → v.ownBlock = some k ∨ w.heap.size ≤ k) := by
  rcases hu.2 with ⟨rfl, rfl⟩ | ⟨g, off, cap, cur, rfl, hg, hn, hm, hs, hx⟩
  · have hr := run_append_SL_none (P := P) w t ty e i size ht hi v n xs h
    obtain rfl : news = [] := List.eq_nil_of_length_eq_zero (by simpa using hu.1)
    obtain ⟨A, c, rfl, hc⟩ := h.form
    exact ⟨A, c, w, hr, by simpa using h, ⟨rfl, rfl, rfl, Nat.le_refl _, fun _ _ _ => rfl⟩, fun k hk => .inl hk⟩
  · obtain ⟨v', w', hrun, h2, h3, h4⟩ := run_append_SL (P := P) w t ty e i z size bytes ht hi hz hsize hby hzs hsz v n xs h ⟨g, off, none⟩ m cap news hu.1 (fun j u hj => by
      rw [Addr.add_lit, cell_of_row w g _ _ _ _ hg, ← Array.getElem?_toList, ← List.getElem?_drop]
      rw [← hx, List.getElem?_take] at hj
      split at hj
      · exact hj
      · cases hj) h1 h63 hbytes
    obtain ⟨A, c, rfl, hc⟩ := h2.form
    exact ⟨A, c, w', hrun, h2, h3, h4⟩
theorem wp_append_SLs {w : World} {o : Oper} {a : Act} {K : Act → World → Prop} {Q : Exit → Act → World → Prop} (s x : Operand) (t : TypeId)
    (ho : o.op = .call { callee := .builtin .append, args := #[s, x], argTypes := #[t, t] })
    (e : TypeId) (i : TypeInfo) (z : Value) (size bytes : Nat) (ht : P.underlying t = some (.slice e)) (hi : P.info? e = some i) (hz : i.zero = some z)
    (hsize : i.size = size) (hby : i.bytes = bytes) (hzs : z.cells.size = size) (hsz : 0 < size)
    (v : Value) (n : Nat) (xs : List Value) (hs : a.eval s = v) (hown : SL w e size v n xs)
    (u : Value) (m : Nat) (news : List Value) (hx : a.eval x = u) (hu : SL w e size u m news) (h1 : ∀ u ∈ news, u.oneCell' = true)
    (N : Nat) (ys : List Value) (hN : n + m = N) (hys : xs ++ news = ys) (h63 : N ≤ maxLen) (hbytes : N * bytes ≤ 140737488355328)
    (h : ∀ A cap w', SL w' e size (.slice A N cap) N ys → w.grownBy w' v.ownBlock → (∀ k, (Value.slice A N cap).ownBlock = some k → v.ownBlock = some k ∨ w.heap.size ≤ k) → K (a.put o.dst (.slice A N cap)) w') : o.wp P a w K Q := by
  subst hN hys
  obtain ⟨A, cap, w', hr, h2, h3, h4⟩ := run_append_SLs (P := P) w t o.type e i z size bytes ht hi hz hsize hby hzs hsz v n xs hown u m news hu h1 h63 hbytes
  unfold Oper.wp execOp
  simp only [ho, resolve, invoke, builtin, Sem.run_bind, Sem.run_pure, Result.andThen_ok, List.map_toArray, List.map_cons, List.map_nil, hs, hx, hr]
  exact h A cap w' h2 h3 h4
theorem wpList_append_SLs {w : World} {ops : Array Oper} {rest : List Oper} {o : Oper} {a : Act} {Q : Exit → Act → World → Prop} (hgd : o.guard = none) (s x : Operand) (t : TypeId)
    (ho : o.op = .call { callee := .builtin .append, args := #[s, x], argTypes := #[t, t] })
    (e : TypeId) (i : TypeInfo) (z : Value) (size bytes : Nat) (ht : P.underlying t = some (.slice e)) (hi : P.info? e = some i) (hz : i.zero = some z)
    (hsize : i.size = size) (hby : i.bytes = bytes) (hzs : z.cells.size = size) (hsz : 0 < size)
    (v : Value) (n : Nat) (xs : List Value) (hs : a.eval s = v) (hown : SL w e size v n xs)
    (u : Value) (m : Nat) (news : List Value) (hx : a.eval x = u) (hu : SL w e size u m news) (h1 : ∀ u ∈ news, u.oneCell' = true)
    (N : Nat) (ys : List Value) (hN : n + m = N) (hys : xs ++ news = ys) (h63 : N ≤ maxLen) (hbytes : N * bytes ≤ 140737488355328)
    (h : ∀ A cap w', SL w' e size (.slice A N cap) N ys → w.grownBy w' v.ownBlock → (∀ k, (Value.slice A N cap).ownBlock = some k → v.ownBlock = some k ∨ w.heap.size ≤ k) → wpList P ops Q rest (a.put o.dst (.slice A N cap)) w') : wpList P ops Q (o :: rest) a w :=
  wpList_plain hgd fun _ hK => wp_append_SLs s x t ho e i z size bytes ht hi hz hsize hby hzs hsz v n xs hs hown u m news hx hu h1 N ys hN hys h63 hbytes fun A cap w' h2 h3 h4 => hK _ _ (h A cap w' h2 h3 h4)
theorem step_append_SLs {w : World} {ops : Array Oper} {o : Oper} {a : Act} {K : Act → World → Prop} {Q : Exit → Act → World → Prop} {E : Prop} (hgd : o.guard = none) (s x : Operand) (t : TypeId)
    (ho : o.op = .call { callee := .builtin .append, args := #[s, x], argTypes := #[t, t] })
    (e : TypeId) (i : TypeInfo) (z : Value) (size bytes : Nat) (ht : P.underlying t = some (.slice e)) (hi : P.info? e = some i) (hz : i.zero = some z)
    (hsize : i.size = size) (hby : i.bytes = bytes) (hzs : z.cells.size = size) (hsz : 0 < size)
    (v : Value) (n : Nat) (xs : List Value) (hs : a.eval s = v) (hown : SL w e size v n xs)
    (u : Value) (m : Nat) (news : List Value) (hx : a.eval x = u) (hu : SL w e size u m news) (h1 : ∀ u ∈ news, u.oneCell' = true)
    (N : Nat) (ys : List Value) (hN : n + m = N) (hys : xs ++ news = ys) (h63 : N ≤ maxLen) (hbytes : N * bytes ≤ 140737488355328)
    (h : ∀ A cap w', SL w' e size (.slice A N cap) N ys → w.grownBy w' v.ownBlock → (∀ k, (Value.slice A N cap).ownBlock = some k → v.ownBlock = some k ∨ w.heap.size ≤ k) → K (a.put o.dst (.slice A N cap)) w') :
    if Region.wanted o (yielded ops a.tmps) = true then Oper.wp P o a w K Q else E := by
  have hw : Region.wanted o (yielded ops a.tmps) = true := by simp [Region.wanted, hgd]
  rw [if_pos hw]
  exact wp_append_SLs s x t ho e i z size bytes ht hi hz hsize hby hzs hsz v n xs hs hown u m news hx hu h1 N ys hN hys h63 hbytes h
end
section
variable {w : World} {e : TypeId} {sz : Nat}
/-- a slice literal of n elements: a block of its own -/
theorem SL.lit (w : World) (e : TypeId) (sz n : Nat) (cs : Array Value) (hs : cs.size = n * sz) (hm : n ≤ maxLen) : SL (w.alloc (.cells cs e)) e sz (.slice (some ⟨w.heap.size, 0, none⟩) n n) n cs.toList :=
  SL.of_own (World.ownsRow_lit (base := 0) w cs n (Nat.zero_le _) hm hs)
/-- xs[:k] -/
theorem SL.take_ {A : Option Addr} {n c k : Nat} {xs : List Value} (h : SL w e sz (.slice A n c) n xs) (hk : k ≤ n) : SL w e sz (.slice A k c) k (xs.take (k * sz)) := by
  obtain ⟨h1, h2⟩ := h
  have hks : k * sz ≤ n * sz := Nat.mul_le_mul_right _ hk
  refine ⟨by rw [List.length_take, h1]; omega, ?_⟩
  rcases h2 with ⟨h2, rfl⟩ | ⟨g, off, cap, cur, hv, hg, hn, hm, hs, hx⟩
  · simp only [Value.slice.injEq, true_and] at h2
    obtain ⟨rfl, rfl⟩ := h2
    obtain rfl : k = 0 := by omega
    exact .inl ⟨rfl, rfl⟩
  · simp only [Value.slice.injEq, true_and] at hv
    obtain ⟨rfl, rfl⟩ := hv
    refine .inr ⟨g, off, c, cur, rfl, hg, by omega, hm, hs, ?_⟩
    rw [← hx, List.take_take, Nat.min_eq_left hks]
end
end Go.Proofs.YteigplfldhdakaaGreatDoor
/- What can be read of a slice, wherever it came from: its cells; and such a slice appended. -/
namespace Go.Proofs.YteigplfldhdakaaGreatDoor
open Go.RowKit
theorem aadd (a : Addr) (i j : Nat) : (a.add i).add j = a.add (i + j) := by
  unfold Addr.add
  by_cases hi : i = 0 <;> by_cases hj : j = 0 <;> simp [hi, hj, Nat.add_assoc]
/-- the slice u reads as these m cells -/
def SR (w : World) (u : Value) (m : Nat) (news : List Value) : Prop :=
  ∃ A c, u = .slice A m c ∧ m ≤ c ∧ c ≤ maxLen ∧ (A = none → c = 0) ∧ news.length = m ∧ ∀ a, A = some a → ∀ j x, news[j]? = some x → w.cell? (a.add j) = some x
section
variable {P : Program} {w w' : World} {u : Value} {m : Nat} {news : List Value}
theorem SR.of_SL {e : TypeId} (h : SL w e 1 u m news) : SR w u m news := by
  obtain ⟨h1, h2⟩ := h
  rw [Nat.mul_one] at h1
  rcases h2 with ⟨rfl, rfl⟩ | ⟨g, off, cap, cur, rfl, hg, hn, hm, hs, hx⟩
  · exact ⟨none, 0, rfl, Nat.le_refl _, by simp [maxLen], fun _ => rfl, h1, fun a ha => by simp at ha⟩
  · refine ⟨_, cap, rfl, hn, hm, fun h => by simp at h, h1, fun a ha j x hj => ?_⟩
    simp only [Option.some.injEq] at ha
    subst ha
    rw [Addr.add_lit, cell_of_row w g _ _ _ _ hg, ← Array.getElem?_toList, ← List.getElem?_drop]
    rw [← hx, List.getElem?_take] at hj
    split at hj
    · exact hj
    · cases hj
theorem SR.below (h : SR w u m news) (hb : Below w.heap.size w w') : SR w' u m news := by
  obtain ⟨A, c, hu, hm, hc, hA, hl, h⟩ := h
  refine ⟨A, c, hu, hm, hc, hA, hl, fun a ha j x hj => ?_⟩
  have h1 := h a ha j x hj
  exact (hb.cell (p := a.add j) (World.block_lt_of_cell? w _ h1)).trans h1
theorem SR.drewN (h : SR w u m news) (n : Nat) : SR (w.drewN n) u m news := h.below (bdrew (Below.refl _ w) n)
theorem SR.take {A : Option Addr} {n c k : Nat} (h : SR w (.slice A n c) n news) (hk : k ≤ n) : SR w (.slice A k c) k (news.take k) := by
  obtain ⟨A', c', hu, hm, hc, hA, hl, h⟩ := h
  simp only [Value.slice.injEq, true_and] at hu
  obtain ⟨rfl, rfl⟩ := hu
  refine ⟨A, c, rfl, by omega, hc, hA, by rw [List.length_take]; omega, fun a ha j x hj => h a ha j x ?_⟩
  rw [List.getElem?_take] at hj
  split at hj
  · exact hj
  · cases hj
theorem SR.drop {A : Option Addr} {n c k : Nat} (h : SR w (.slice A n c) n news) (hk : k ≤ n) : SR w (.slice (if c = k then A else A.map (·.add k)) (n - k) (c - k)) (n - k) (news.drop k) := by
  obtain ⟨A', c', hu, hm, hc, hA, hl, h⟩ := h
  simp only [Value.slice.injEq, true_and] at hu
  obtain ⟨rfl, rfl⟩ := hu
  refine ⟨_, c - k, rfl, by omega, by omega, fun h0 => ?_, by rw [List.length_drop]; omega, fun a ha j x hj => ?_⟩
  · split at h0
    · omega
    · cases A with
      | none => have := hA rfl; omega
      | some a => simp at h0
  · rw [List.getElem?_drop] at hj
    split at ha
    · have hlt : k + j < news.length := by
        rcases Nat.lt_or_ge (k + j) news.length with h2 | h2
        · exact h2
        · rw [List.getElem?_eq_none h2] at hj; cases hj
      omega
    · cases A with
      | none => simp at ha
      | some b =>
        simp only [Option.map_some, Option.some.injEq] at ha
        subst ha
        rw [aadd]
        exact h b rfl _ _ hj
theorem run_append_SRs (w : World) (t ty e : TypeId) (i : TypeInfo) (z : Value) (bytes : Nat) (ht : P.underlying t = some (.slice e)) (hi : P.info? e = some i) (hz : i.zero = some z)
    (hsize : i.size = 1) (hby : i.bytes = bytes) (hzs : z.cells.size = 1) (v : Value) (n : Nat) (xs : List Value) (h : SL w e 1 v n xs)
    (u : Value) (m : Nat) (news : List Value) (hu : SR w u m news) (h1 : ∀ u ∈ news, u.oneCell' = true)
    (h63 : n + m ≤ maxLen) (hbytes : (n + m) * bytes ≤ 140737488355328) :
    ∃ A cap w', (Builtin.append_ #[t, t] ty #[v, u]).run P w = .ok (.slice A (n + m) cap) w' ∧ SL w' e 1 (.slice A (n + m) cap) (n + m) (xs ++ news) ∧ w.grownBy w' v.ownBlock ∧ (∀ k, (Value.slice A (n + m) cap).ownBlock = some k → v.ownBlock = some k ∨ w.heap.size ≤ k) := by
  obtain ⟨A, c, rfl, hm, hc, hA, hl, hcell⟩ := hu
  cases A with
  | none =>
    have h0 := hA rfl
    obtain rfl : m = 0 := by omega
    subst h0
    have hr := run_append_SL_none (P := P) w t ty e i 1 ht hi v n xs h
    obtain rfl : news = [] := List.eq_nil_of_length_eq_zero hl
    obtain ⟨A, c, rfl, hc⟩ := h.form
    exact ⟨A, c, w, hr, by simpa using h, ⟨rfl, rfl, rfl, Nat.le_refl _, fun _ _ _ => rfl⟩, fun k hk => .inl hk⟩
  | some a =>
    obtain ⟨v', w', hrun, h2, h3, h4⟩ := run_append_SL (P := P) w t ty e i z 1 bytes ht hi hz hsize hby hzs Nat.one_pos v n xs h a m c news (by omega) (hcell a rfl) h1 h63 hbytes
    obtain ⟨A, c, rfl, hc⟩ := h2.form
    exact ⟨A, c, w', hrun, h2, h3, h4⟩
theorem wp_append_SRs {w : World} {o : Oper} {a : Act} {K : Act → World → Prop} {Q : Exit → Act → World → Prop} (s x : Operand) (t : TypeId)
    (ho : o.op = .call { callee := .builtin .append, args := #[s, x], argTypes := #[t, t] })
    (e : TypeId) (i : TypeInfo) (z : Value) (bytes : Nat) (ht : P.underlying t = some (.slice e)) (hi : P.info? e = some i) (hz : i.zero = some z)
    (hsize : i.size = 1) (hby : i.bytes = bytes) (hzs : z.cells.size = 1)
    (v : Value) (n : Nat) (xs : List Value) (hs : a.eval s = v) (hown : SL w e 1 v n xs)
    (u : Value) (m : Nat) (news : List Value) (hx : a.eval x = u) (hu : SR w u m news) (h1 : ∀ u ∈ news, u.oneCell' = true)
    (N : Nat) (ys : List Value) (hN : n + m = N) (hys : xs ++ news = ys) (h63 : N ≤ maxLen) (hbytes : N * bytes ≤ 140737488355328)
    (h : ∀ A cap w', SL w' e 1 (.slice A N cap) N ys → w.grownBy w' v.ownBlock → (∀ k, (Value.slice A N cap).ownBlock = some k → v.ownBlock = some k ∨ w.heap.size ≤ k) → K (a.put o.dst (.slice A N cap)) w') : o.wp P a w K Q := by
  subst hN hys
  obtain ⟨A, cap, w', hr, h2, h3, h4⟩ := run_append_SRs (P := P) w t o.type e i z bytes ht hi hz hsize hby hzs v n xs hown u m news hu h1 h63 hbytes
  unfold Oper.wp execOp
  simp only [ho, resolve, invoke, builtin, Sem.run_bind, Sem.run_pure, Result.andThen_ok, List.map_toArray, List.map_cons, List.map_nil, hs, hx, hr]
  exact h A cap w' h2 h3 h4
theorem wpList_append_SRs {w : World} {ops : Array Oper} {rest : List Oper} {o : Oper} {a : Act} {Q : Exit → Act → World → Prop} (hgd : o.guard = none) (s x : Operand) (t : TypeId)
    (ho : o.op = .call { callee := .builtin .append, args := #[s, x], argTypes := #[t, t] })
    (e : TypeId) (i : TypeInfo) (z : Value) (bytes : Nat) (ht : P.underlying t = some (.slice e)) (hi : P.info? e = some i) (hz : i.zero = some z)
    (hsize : i.size = 1) (hby : i.bytes = bytes) (hzs : z.cells.size = 1)
    (v : Value) (n : Nat) (xs : List Value) (hs : a.eval s = v) (hown : SL w e 1 v n xs)
    (u : Value) (m : Nat) (news : List Value) (hx : a.eval x = u) (hu : SR w u m news) (h1 : ∀ u ∈ news, u.oneCell' = true)
    (N : Nat) (ys : List Value) (hN : n + m = N) (hys : xs ++ news = ys) (h63 : N ≤ maxLen) (hbytes : N * bytes ≤ 140737488355328)
    (h : ∀ A cap w', SL w' e 1 (.slice A N cap) N ys → w.grownBy w' v.ownBlock → (∀ k, (Value.slice A N cap).ownBlock = some k → v.ownBlock = some k ∨ w.heap.size ≤ k) → wpList P ops Q rest (a.put o.dst (.slice A N cap)) w') : wpList P ops Q (o :: rest) a w :=
  wpList_plain hgd fun _ hK => wp_append_SRs s x t ho e i z bytes ht hi hz hsize hby hzs v n xs hs hown u m news hx hu h1 N ys hN hys h63 hbytes fun A cap w' h2 h3 h4 => hK _ _ (h A cap w' h2 h3 h4)
/-- string(bytes) -/
theorem run_convert_SR (src e dst : TypeId) (hs : P.underlying src = some (.slice e)) (he : P.underlying e = some (.int .u8)) (hd : P.underlying dst = some .string) {A : Option Addr} {n c : Nat} {xs : List Int}
    (hu : SR w (.slice A n c) n (xs.map (Value.int .u8))) : (convert src dst (.slice A n c)).run P w = .ok (.string (strOfNums xs)) w := by
  obtain ⟨A', c', hu, hm, hc, hA, hl, hcell⟩ := hu
  simp only [Value.slice.injEq, true_and] at hu
  obtain ⟨rfl, rfl⟩ := hu
  rw [List.length_map] at hl
  cases A with
  | none =>
    have h0 := hA rfl
    obtain rfl : xs = [] := List.eq_nil_of_length_eq_zero (by omega)
    exact run_convert_bytes_nil w src e hs he _ _ dst hd
  | some a =>
    have hld : (loadCells a n).run P w = .ok (xs.map (Value.int .u8)).toArray w := by
      have := run_loadCells_list (P := P) w a (xs.map (Value.int .u8)) (hcell a rfl)
      simpa [hl] using this
    rw [run_convert_bytes_string w src dst e _ n c hs he hd, run_bytesToString w _ n c xs hld, foldl_push_bytes]
    simp [strOfNums, ByteArray.empty, ByteArray.emptyWithCapacity]
    rfl
end
end Go.Proofs.YteigplfldhdakaaGreatDoor
