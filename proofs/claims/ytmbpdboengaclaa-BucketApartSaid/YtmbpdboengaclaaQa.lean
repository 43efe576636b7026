/- A queue of buckets in memory: what holds of its blocks, and how that turns where a bucket is appended to, cut, or laid. -/
import Derived.Test.YtmbpdboengaclaaSl
namespace Go.Proofs.Ytmbpdboengaclaa
open Go.RowKit
def nums (xs : List Int) : List Value := xs.map fun x => .int .i64 x
theorem nums_length (xs : List Int) : (nums xs).length = xs.length := by simp [nums]
theorem nums_append (xs ys : List Int) : nums (xs ++ ys) = nums xs ++ nums ys := by simp [nums]
def row (bs : List (List Int)) (i : Nat) : List Int := bs.getD i []
def rowv (rvs : List Value) (i : Nat) : Value := rvs.getD i (.slice none 0 0)
theorem row_set (bs : List (List Int)) (i j : Nat) (xs : List Int) (hi : i < bs.length) : row (bs.set i xs) j = if i = j then xs else row bs j := by
  unfold row
  simp only [List.getD_eq_getElem?_getD, List.getElem?_set]
  by_cases h : i = j
  · subst h; simp [hi]
  · simp [h]
theorem rowv_set (rvs : List Value) (i j : Nat) (v : Value) (hi : i < rvs.length) : rowv (rvs.set i v) j = if i = j then v else rowv rvs j := by
  unfold rowv
  simp only [List.getD_eq_getElem?_getD, List.getElem?_set]
  by_cases h : i = j
  · subst h; simp [hi]
  · simp [h]
theorem row_pad (bs : List (List Int)) (j : Nat) : row (bs ++ [[]]) j = row bs j := by
  unfold row
  simp only [List.getD_eq_getElem?_getD, List.getElem?_append]
  by_cases h : j < bs.length
  · rw [if_pos h]
  · rw [if_neg h, List.getElem?_eq_none (Nat.le_of_not_lt h)]
    cases hj : j - bs.length <;> simp
theorem rowv_pad (rvs : List Value) (j : Nat) : rowv (rvs ++ [.slice none 0 0]) j = rowv rvs j := by
  unfold rowv
  simp only [List.getD_eq_getElem?_getD, List.getElem?_append]
  by_cases h : j < rvs.length
  · rw [if_pos h]
  · rw [if_neg h, List.getElem?_eq_none (Nat.le_of_not_lt h)]
    cases hj : j - rvs.length <;> simp
theorem rowv_get (rvs : List Value) (i : Nat) (h : i < rvs.length) : rvs[i]? = some (rowv rvs i) := by
  simp [rowv, h]
structure Q3 (F : Nat → Prop) (w : World) (q : Nat) (bv : Value) (rvs : List Value) (bs : List (List Int)) (most cnt now : Int) : Prop where
  head : w.heap[q]? = some (.cells #[bv, .int .i64 most, .int .i64 cnt, .int .i64 now] 57 (0, 0))
  buckets : SL w 58 1 bv bs.length rvs
  rows : ∀ i, SL w 3 1 (rowv rvs i) (row bs i).length (nums (row bs i))
  apart : ∀ i j k, i ≠ j → (rowv rvs i).ownBlock = some k → (rowv rvs j).ownBlock ≠ some k
  fq : F q
  fb : ∀ k, bv.ownBlock = some k → F k
  fr : ∀ i k, (rowv rvs i).ownBlock = some k → F k
/-- Queue q of the heap, in blocks of F. -/
def QAt (F : Nat → Prop) (w : World) (q : Nat) (bs : List (List Int)) (most cnt now : Int) : Prop := ∃ bv rvs, Q3 F w q bv rvs bs most cnt now
section
variable {F G : Nat → Prop} {w w1 w' : World} {q : Nat} {bv : Value} {rvs : List Value} {bs : List (List Int)} {most cnt now : Int}
theorem Q3.lt (h : Q3 F w q bv rvs bs most cnt now) : q < w.heap.size := blk_lt h.head
theorem Q3.rlen (h : Q3 F w q bv rvs bs most cnt now) : rvs.length = bs.length := by have := h.buckets.1; omega
theorem Q3.ne_b (h : Q3 F w q bv rvs bs most cnt now) : ∀ k, bv.ownBlock = some k → k ≠ q := fun k hk e => by
  obtain ⟨cur, hc⟩ := h.buckets.typed k hk
  rw [e, h.head] at hc
  cases hc
theorem Q3.ne_r (h : Q3 F w q bv rvs bs most cnt now) (i : Nat) : ∀ k, (rowv rvs i).ownBlock = some k → k ≠ q := fun k hk e => by
  obtain ⟨cur, hc⟩ := (h.rows i).typed k hk
  rw [e, h.head] at hc
  cases hc
theorem Q3.ne_br (h : Q3 F w q bv rvs bs most cnt now) (i : Nat) : ∀ k, bv.ownBlock = some k → (rowv rvs i).ownBlock ≠ some k := fun k hk e => by
  obtain ⟨cur, hc⟩ := (h.rows i).typed k e
  obtain ⟨cur2, hc2⟩ := h.buckets.typed k hk
  rw [hc] at hc2
  cases hc2
theorem Q3.keep (h : Q3 F w q bv rvs bs most cnt now) (hk : ∀ k, F k → k < w.heap.size → w'.heap[k]? = w.heap[k]?) : Q3 F w' q bv rvs bs most cnt now :=
  ⟨(hk q h.fq h.lt).trans h.head, h.buckets.keep fun k e => hk k (h.fb k e) (h.buckets.lt k e), fun i => (h.rows i).keep fun k e => hk k (h.fr i k e) ((h.rows i).lt k e), h.apart, h.fq, h.fb, h.fr⟩
theorem Q3.mono (h : Q3 F w q bv rvs bs most cnt now) (hf : ∀ k, F k → G k) : Q3 G w q bv rvs bs most cnt now :=
  ⟨h.head, h.buckets, h.rows, h.apart, hf q h.fq, fun k e => hf k (h.fb k e), fun i k e => hf k (h.fr i k e)⟩
theorem QAt.keep (h : QAt F w q bs most cnt now) (hk : ∀ k, F k → k < w.heap.size → w'.heap[k]? = w.heap[k]?) : QAt F w' q bs most cnt now := by
  obtain ⟨bv, rvs, h⟩ := h
  exact ⟨bv, rvs, h.keep hk⟩
theorem QAt.mono (h : QAt F w q bs most cnt now) (hf : ∀ k, F k → G k) : QAt G w q bs most cnt now := by
  obtain ⟨bv, rvs, h⟩ := h
  exact ⟨bv, rvs, h.mono hf⟩
theorem QAt.bound (h : QAt F w q bs most cnt now) : QAt (fun k => F k ∧ k < w.heap.size) w q bs most cnt now := by
  obtain ⟨bv, rvs, h⟩ := h
  exact ⟨bv, rvs, h.head, h.buckets, h.rows, h.apart, ⟨h.fq, h.lt⟩, fun k e => ⟨h.fb k e, h.buckets.lt k e⟩, fun i k e => ⟨h.fr i k e, (h.rows i).lt k e⟩⟩
theorem QAt.lt (h : QAt F w q bs most cnt now) : q < w.heap.size := by
  obtain ⟨bv, rvs, h⟩ := h
  exact h.lt
theorem QAt.fq (h : QAt F w q bs most cnt now) : F q := by
  obtain ⟨bv, rvs, h⟩ := h
  exact h.fq
theorem QAt.touch (h : QAt F w q bs most cnt now) (ht : Touch G w w') (hg : ∀ k, F k → ¬ G k) : QAt F w' q bs most cnt now := h.keep fun k hk hl => ht.block k hl (hg k hk)
theorem QAt.below (h : QAt F w q bs most cnt now) (ht : Below w.heap.size w w') : QAt F w' q bs most cnt now := h.keep fun k _ hl => ht.block k hl
theorem Q3.below (h : Q3 F w q bv rvs bs most cnt now) (ht : Below w.heap.size w w') : Q3 F w' q bv rvs bs most cnt now := h.keep fun k _ hl => ht.block k hl
theorem Q3.cell0 (h : Q3 F w q bv rvs bs most cnt now) : w.cell? ⟨q, 0, none⟩ = some bv := by rw [cell_of_row w q 0 _ _ _ h.head]; rfl
theorem Q3.cell1 (h : Q3 F w q bv rvs bs most cnt now) : w.cell? ⟨q, 1, none⟩ = some (.int .i64 most) := by rw [cell_of_row w q 1 _ _ _ h.head]; rfl
theorem Q3.cell2 (h : Q3 F w q bv rvs bs most cnt now) : w.cell? ⟨q, 2, none⟩ = some (.int .i64 cnt) := by rw [cell_of_row w q 2 _ _ _ h.head]; rfl
theorem Q3.cell3 (h : Q3 F w q bv rvs bs most cnt now) : w.cell? ⟨q, 3, none⟩ = some (.int .i64 now) := by rw [cell_of_row w q 3 _ _ _ h.head]; rfl
theorem Q3.frozen (h : Q3 F w q bv rvs bs most cnt now) (j : Nat) : w.frozen? ⟨q, j, none⟩ = false := frozen_of_row w q j _ _ h.head
theorem Q3.set2 (h : Q3 F w q bv rvs bs most cnt now) (x : Int) : Q3 F (w.setCell ⟨q, 2, none⟩ (.int .i64 x)) q bv rvs bs most x now :=
  ⟨heap_setCell_same w q 2 _ _ _ h.head, h.buckets.far (h.ne_b) _, fun i => (h.rows i).far (h.ne_r i) _, h.apart, h.fq, h.fb, h.fr⟩
theorem Q3.set3 (h : Q3 F w q bv rvs bs most cnt now) (x : Int) : Q3 F (w.setCell ⟨q, 3, none⟩ (.int .i64 x)) q bv rvs bs most cnt x :=
  ⟨heap_setCell_same w q 3 _ _ _ h.head, h.buckets.far (h.ne_b) _, fun i => (h.rows i).far (h.ne_r i) _, h.apart, h.fq, h.fb, h.fr⟩
/-- q.buckets = append(q.buckets, nil) -/
theorem Q3.pad (h : Q3 F w q bv rvs bs most cnt now) (hF : ∀ k, w.heap.size ≤ k → F k) {v' : Value} (hs : SL w1 58 1 v' (bs.length + 1) (rvs ++ [.slice none 0 0])) (hg : w.grownBy w1 bv.ownBlock)
    (ho : ∀ k, v'.ownBlock = some k → bv.ownBlock = some k ∨ w.heap.size ≤ k) : Q3 F (w1.setCell ⟨q, 0, none⟩ v') q v' (rvs ++ [.slice none 0 0]) (bs ++ [[]]) most cnt now := by
  have hq1 : w1.heap[q]? = some (.cells #[bv, .int .i64 most, .int .i64 cnt, .int .i64 now] 57 (0, 0)) := (hg.block q h.lt (fun e => h.ne_b q e.symm rfl)).trans h.head
  have hv : ∀ k, v'.ownBlock = some k → k ≠ q := fun k hk e => by
    obtain ⟨cur, hc⟩ := hs.typed k hk
    rw [e, hq1] at hc
    cases hc
  refine ⟨heap_setCell_same w1 q 0 _ _ _ hq1, ?_, fun i => ?_, fun i j k => ?_, h.fq, fun k hk => ?_, fun i k => ?_⟩
  · rw [List.length_append]; exact hs.far hv _
  · rw [row_pad, rowv_pad]
    exact ((h.rows i).grown hg fun k hk e => h.ne_br i k e.symm hk).far (h.ne_r i) _
  · rw [rowv_pad, rowv_pad]; exact h.apart i j k
  · rcases ho k hk with h1 | h1
    · exact h.fb k h1
    · exact hF k h1
  · rw [rowv_pad]; exact h.fr i k
/-- q.buckets[i] = something new -/
theorem Q3.put0 (h : Q3 F w q bv rvs bs most cnt now) {v' : Value} {i : Nat} {xs : List Int} (hi : i < bs.length) (hs : SL w1 3 1 v' xs.length (nums xs)) (hg : w.grownBy w1 (rowv rvs i).ownBlock)
    (ho : ∀ k, v'.ownBlock = some k → (rowv rvs i).ownBlock = some k ∨ (w.heap.size ≤ k ∧ F k)) {g off cap : Nat} (hb : bv = .slice (some ⟨g, off, none⟩) bs.length cap) :
    Q3 F (w1.setCell ⟨g, off + i, none⟩ v') q bv (rvs.set i v') (bs.set i xs) most cnt now := by
  have hbo : bv.ownBlock = some g := by rw [hb]; rfl
  have hq1 : w1.heap[q]? = some (.cells #[bv, .int .i64 most, .int .i64 cnt, .int .i64 now] 57 (0, 0)) := (hg.block q h.lt (fun e => h.ne_r i q e.symm rfl)).trans h.head
  have hb1 : SL w1 58 1 bv bs.length rvs := h.buckets.grown hg fun k hk e => h.ne_br i k hk e.symm
  have hv : ∀ k, v'.ownBlock = some k → k ≠ g := fun k hk e => by
    obtain ⟨cur, hc⟩ := hs.typed k hk
    obtain ⟨cur2, hc2⟩ := hb1.typed g hbo
    rw [e, hc2] at hc
    cases hc
  have hil : i < rvs.length := by rw [h.rlen]; exact hi
  have hrw : ∀ j, SL (w1.setCell ⟨g, off + i, none⟩ v') 3 1 (rowv (rvs.set i v') j) (row (bs.set i xs) j).length (nums (row (bs.set i xs) j)) := fun j => by
    rw [rowv_set _ _ _ _ hil, row_set _ _ _ _ hi]
    by_cases hij : i = j
    · rw [if_pos hij, if_pos hij]; exact hs.far hv _
    · rw [if_neg hij, if_neg hij]
      exact ((h.rows j).grown hg fun k hk e => h.apart j i k (Ne.symm hij) hk e.symm).far (fun k hk e => by subst e; exact h.ne_br j k hbo hk) _
  have hnew : ∀ j k, i ≠ j → v'.ownBlock = some k → (rowv rvs j).ownBlock ≠ some k := fun j k hij hk e => by
    rcases ho k hk with h1 | h1
    · exact h.apart i j k hij h1 e
    · have := (h.rows j).lt k e; have := h1.1; omega
  refine ⟨(Below.heap_setCell w1 _ _ q (fun e => h.ne_b g hbo e.symm)).trans hq1, ?_, hrw, fun a b k hab => ?_, h.fq, h.fb, fun j k => ?_⟩
  · rw [List.length_set]
    subst hb
    have := hb1.set_ (j := i) (by omega) v'
    exact this
  · rw [rowv_set _ _ _ _ hil, rowv_set _ _ _ _ hil]
    by_cases ha : i = a
    · have hb' : ¬ i = b := fun e => hab (by rw [← ha, e])
      rw [if_pos ha, if_neg hb']
      exact hnew b k hb'
    · rw [if_neg ha]
      by_cases hb' : i = b
      · rw [if_pos hb']
        exact fun h1 h2 => hnew a k ha h2 h1
      · rw [if_neg hb']; exact h.apart a b k hab
  · rw [rowv_set _ _ _ _ hil]
    by_cases hij : i = j
    · rw [if_pos hij]
      intro hk
      rcases ho k hk with h1 | h1
      · exact h.fr i k h1
      · exact h1.2
    · rw [if_neg hij]; exact h.fr j k
theorem Q3.put (h : Q3 F w q bv rvs bs most cnt now) (hF : ∀ k, w.heap.size ≤ k → F k) {v' : Value} {i : Nat} {xs : List Int} (hi : i < bs.length) (hs : SL w1 3 1 v' xs.length (nums xs)) (hg : w.grownBy w1 (rowv rvs i).ownBlock)
    (ho : ∀ k, v'.ownBlock = some k → (rowv rvs i).ownBlock = some k ∨ w.heap.size ≤ k) {g off cap : Nat} (hb : bv = .slice (some ⟨g, off, none⟩) bs.length cap) :
    Q3 F (w1.setCell ⟨g, off + i, none⟩ v') q bv (rvs.set i v') (bs.set i xs) most cnt now :=
  h.put0 hi hs hg (fun k hk => (ho k hk).imp id fun h1 => ⟨h1, hF k h1⟩) hb
/-- behind an append to the row of buckets: the queue's first cell, before it is written -/
theorem Q3.cell0_grown (h : Q3 F w q bv rvs bs most cnt now) (hg : w.grownBy w1 bv.ownBlock) : w1.cell? ⟨q, 0, none⟩ = some bv ∧ w1.frozen? ⟨q, 0, none⟩ = false :=
  ⟨(hg.cell_far ⟨q, 0, none⟩ h.lt (fun e => h.ne_b q e.symm rfl)).trans h.cell0, (hg.frozen_far ⟨q, 0, none⟩ h.lt (fun e => h.ne_b q e.symm rfl)).trans (h.frozen 0)⟩
/-- behind an append to a bucket: the queue's first cell, and the bucket's own, before it is written -/
theorem Q3.cell_grown (h : Q3 F w q bv rvs bs most cnt now) {i : Nat} (hi : i < bs.length) (hg : w.grownBy w1 (rowv rvs i).ownBlock) {g off cap : Nat} (hb : bv = .slice (some ⟨g, off, none⟩) bs.length cap) :
    w1.cell? ⟨q, 0, none⟩ = some bv ∧ w1.cell? ⟨g, off + i, none⟩ = some (rowv rvs i) ∧ w1.frozen? ⟨g, off + i, none⟩ = false := by
  have hbo : bv.ownBlock = some g := by rw [hb]; rfl
  obtain ⟨g', off', cap', hb', _, _, hc, hf⟩ := h.buckets.open_ (by omega)
  rw [hb] at hb'
  simp only [Value.slice.injEq, Option.some.injEq, Addr.mk.injEq, and_true, true_and] at hb'
  obtain ⟨⟨rfl, rfl⟩, rfl⟩ := hb'
  have hne : some g ≠ (rowv rvs i).ownBlock := fun e => h.ne_br i g hbo e.symm
  have hgl := h.buckets.lt g hbo
  refine ⟨(hg.cell_far ⟨q, 0, none⟩ h.lt (fun e => h.ne_r i q e.symm rfl)).trans h.cell0, (hg.cell_far ⟨g, off + i, none⟩ hgl hne).trans ?_, (hg.frozen_far ⟨g, off + i, none⟩ hgl hne).trans (hf _)⟩
  rw [hc i (by omega), rowv_get _ _ (by rw [h.rlen]; exact hi)]
/-- what leaves the cells as they are leaves a queue as it is -/
theorem Q3.keepC (h : Q3 F w q bv rvs bs most cnt now) (hk : ∀ (k : Nat) (cs : Array Value) (t : TypeId) (fr : Nat × Nat), w.heap[k]? = some (Obj.cells cs t fr) → w'.heap[k]? = w.heap[k]?) : Q3 F w' q bv rvs bs most cnt now :=
  ⟨(hk q _ _ _ h.head).trans h.head, h.buckets.keep fun k e => (by obtain ⟨cur, hc⟩ := h.buckets.typed k e; exact hk k _ _ _ hc), fun i => (h.rows i).keep fun k e => (by obtain ⟨cur, hc⟩ := (h.rows i).typed k e; exact hk k _ _ _ hc), h.apart, h.fq, h.fb, h.fr⟩
end
/-- how many buckets a queue has, read off the world -/
def bufLen (w : World) (q : Nat) : Nat := match w.cell? ⟨q, 0, none⟩ with
  | some (.slice _ n _) => n
  | _ => 0
theorem Q3.bufLen {F : Nat → Prop} {w : World} {q : Nat} {bv : Value} {rvs : List Value} {bs : List (List Int)} {most cnt now : Int} (h : Q3 F w q bv rvs bs most cnt now) : bufLen w q = bs.length := by
  obtain ⟨A, c, hv, _⟩ := h.buckets.form
  unfold Ytmbpdboengaclaa.bufLen
  rw [h.cell0, hv]
end Go.Proofs.Ytmbpdboengaclaa
