/- Plain: a queue's items as a list in the order in which they come; what a push and a pop do to it. -/
import Derived.Test.YtmbpdboengaclaaQe
namespace Go.Proofs.Ytmbpdboengaclaa
/-- an item goes in behind those that cost no more -/
def ins (c v : Int) : List (Int × Int) → List (Int × Int)
  | [] => [(c, v)]
  | a :: r => if a.1 ≤ c then a :: ins c v r else (c, v) :: a :: r
theorem ins_behind (c v : Int) : ∀ (a b : List (Int × Int)), (∀ p ∈ a, p.1 ≤ c) → ins c v (a ++ b) = a ++ ins c v b
  | [], _, _ => rfl
  | x :: a, b, h => by
    rw [List.cons_append, ins, if_pos (h x (by simp)), ins_behind c v a b (fun p hp => h p (by simp [hp]))]
    rfl
theorem ins_ahead (c v : Int) (b : List (Int × Int)) (h : ∀ p ∈ b, c < p.1) : ins c v b = (c, v) :: b := by
  cases b with
  | nil => rfl
  | cons x r => rw [ins, if_neg (by have := h x (by simp); omega)]
theorem ins_length (c v : Int) : ∀ l : List (Int × Int), (ins c v l).length = l.length + 1
  | [] => rfl
  | a :: r => by
    rw [ins]
    split
    · rw [List.length_cons, ins_length c v r, List.length_cons]
    · rfl
theorem flatMap_congr' {α β : Type} {f g : α → List β} : ∀ l : List α, (∀ i ∈ l, f i = g i) → l.flatMap f = l.flatMap g
  | [], _ => rfl
  | a :: r, h => by
    rw [List.flatMap_cons, List.flatMap_cons, h a (by simp), flatMap_congr' r (fun i hi => h i (by simp [hi]))]
/-- the items of the buckets s, s + 1, .., n of them -/
def seg (ro : Nat → List Int) (nw s n : Nat) : List (Int × Int) := (List.range' s n).flatMap fun i => if nw ≤ i then itsOf i (ro i) else []
theorem seg_add (ro : Nat → List Int) (nw s a b : Nat) : seg ro nw s (a + b) = seg ro nw s a ++ seg ro nw (s + a) b := by
  unfold seg
  rw [← List.flatMap_append, List.range'_append_1]
theorem seg_one (ro : Nat → List Int) (nw s : Nat) : seg ro nw s 1 = if nw ≤ s then itsOf s (ro s) else [] := by simp [seg]
theorem seg_congr {ro ro' : Nat → List Int} {nw nw' s n : Nat} (h : ∀ i, s ≤ i → i < s + n → (if nw ≤ i then itsOf i (ro i) else []) = if nw' ≤ i then itsOf i (ro' i) else []) : seg ro nw s n = seg ro' nw' s n := by
  unfold seg
  apply flatMap_congr'
  intro i hi
  rw [List.mem_range'_1] at hi
  exact h i hi.1 hi.2
theorem seg_row {ro ro' : Nat → List Int} {nw s n : Nat} (h : ∀ i, s ≤ i → i < s + n → ro i = ro' i) : seg ro nw s n = seg ro' nw s n :=
  seg_congr fun i h1 h2 => by rw [h i h1 h2]
theorem seg_empty {ro : Nat → List Int} {nw s n : Nat} (h : ∀ i, s ≤ i → i < s + n → nw ≤ i → ro i = []) : seg ro nw s n = [] := by
  unfold seg
  rw [List.flatMap_eq_nil_iff]
  intro i hi
  rw [List.mem_range'_1] at hi
  split
  · rw [h i hi.1 hi.2 (by assumption)]; rfl
  · rfl
theorem seg_mem {ro : Nat → List Int} {nw s n : Nat} {p : Int × Int} (h : p ∈ seg ro nw s n) : (s : Int) ≤ p.1 ∧ p.1 < (s : Int) + n ∧ (nw : Int) ≤ p.1 := by
  unfold seg at h
  obtain ⟨i, hi, hp⟩ := List.mem_flatMap.1 h
  rw [List.mem_range'_1] at hi
  split at hp
  · obtain ⟨v, _, rfl⟩ := List.mem_map.1 hp
    dsimp only
    omega
  · cases hp
theorem flatMap_filter' {α β : Type} (p : α → Bool) (f : α → List β) : ∀ l : List α, (l.filter p).flatMap f = l.flatMap fun i => if p i then f i else []
  | [] => rfl
  | a :: r => by
    rw [List.filter_cons, List.flatMap_cons, ← flatMap_filter' p f r]
    cases p a <;> simp
theorem items_seg {bs : List (List Int)} {nw L : Nat} (h : bs.length ≤ L) : items bs nw = seg (row bs) nw 0 L := by
  have h1 : items bs nw = seg (row bs) nw 0 bs.length := by
    unfold items itsB fullTo seg
    rw [flatMap_filter', List.range_eq_range']
    apply flatMap_congr'
    intro i _
    by_cases h1 : nw ≤ i
    · cases h2 : row bs i with
      | nil => simp [itsOf]
      | cons a r => simp [h1]
    · simp [h1]
  rw [h1, show L = bs.length + (L - bs.length) by omega, seg_add, seg_empty (s := 0 + bs.length) (fun i h1 _ _ => row_beyond (by omega)), List.append_nil]
theorem row_push (bs : List (List Int)) (c : Nat) (v : Int) (j : Nat) : row (pushB bs c v) j = if c = j then row bs c ++ [v] else row bs j := by
  unfold pushB
  rw [row_set _ _ _ _ (by simp [padB]; omega)]
  by_cases h : c = j
  · rw [if_pos h, if_pos h]
  · rw [if_neg h, if_neg h, padB, row_reps]
theorem pushB_length (bs : List (List Int)) (c : Nat) (v : Int) : (pushB bs c v).length = max bs.length (c + 1) := by simp [pushB, padB]; omega
/-- a push -/
theorem items_push {bs : List (List Int)} {nw c L : Nat} {v : Int} (hb : bs.length ≤ L) (hc : c < L) (hn : nw ≤ c) : items (pushB bs c v) nw = ins (c : Int) v (items bs nw) := by
  rw [items_seg (L := L) (by rw [pushB_length]; omega), items_seg hb, show L = (c + 1) + (L - (c + 1)) by omega, seg_add, seg_add, seg_add, seg_add, seg_one, seg_one]
  rw [seg_row (ro := row (pushB bs c v)) (ro' := row bs) (s := 0) (n := c) (fun i _ h => by rw [row_push, if_neg (by omega)])]
  rw [seg_row (ro := row (pushB bs c v)) (ro' := row bs) (s := 0 + (c + 1)) (fun i h _ => by rw [row_push, if_neg (by omega)])]
  rw [row_push, Nat.zero_add, if_pos hn, if_pos hn, if_pos rfl, itsOf_snoc]
  rw [ins_behind _ _ (seg (row bs) nw 0 c ++ itsOf c (row bs c))]
  · rw [ins_ahead]
    · simp
    · intro p hp
      have := seg_mem hp
      omega
  · intro p hp
    rcases List.mem_append.1 hp with hp | hp
    · have := seg_mem hp; omega
    · obtain ⟨u, _, rfl⟩ := List.mem_map.1 hp
      exact Int.le_refl _
theorem fullTo_mem {bs : List (List Int)} {nw c L : Nat} : c ∈ fullTo bs nw L ↔ c < L ∧ nw ≤ c ∧ row bs c ≠ [] := by
  unfold fullTo
  rw [List.mem_filter, List.mem_range]
  simp
theorem items_nil {bs : List (List Int)} {nw : Nat} (h : fullTo bs nw bs.length = []) : items bs nw = [] := by
  rw [items, h]; rfl
theorem fullTo_first {bs : List (List Int)} {nw c : Nat} {l : List Nat} (h : fullTo bs nw bs.length = c :: l) : nw ≤ c ∧ c < bs.length ∧ row bs c ≠ [] ∧ ∀ i, i < c → nw ≤ i → row bs i = [] := by
  have hm := (fullTo_mem (bs := bs) (nw := nw) (c := c) (L := bs.length)).1 (by rw [h]; simp)
  refine ⟨hm.2.1, hm.1, hm.2.2, fun i hi hn => ?_⟩
  cases hr : row bs i with
  | nil => rfl
  | cons a r =>
    exfalso
    have hi2 : i ∈ fullTo bs nw bs.length := fullTo_mem.2 ⟨by omega, hn, by rw [hr]; simp⟩
    have hs : (fullTo bs nw bs.length).Pairwise (· < ·) := List.Pairwise.filter _ List.pairwise_lt_range
    rw [h] at hi2 hs
    rw [List.pairwise_cons] at hs
    rcases List.mem_cons.1 hi2 with rfl | hi2
    · omega
    · have := hs.1 i hi2; omega
/-- a pop -/
theorem items_pop {bs : List (List Int)} {nw c : Nat} {v : Int} {r : List Int} {l : List Nat} (h : fullTo bs nw bs.length = c :: l) (hr : row bs c = v :: r) : items bs nw = ((c : Int), v) :: items (bs.set c r) c := by
  obtain ⟨h1, h2, h3, h4⟩ := fullTo_first h
  rw [items_seg (Nat.le_refl bs.length), items_seg (bs := bs.set c r) (L := bs.length) (by simp), show bs.length = (c + 1) + (bs.length - (c + 1)) by omega, seg_add, seg_add, seg_add, seg_add, seg_one, seg_one]
  rw [seg_empty (ro := row bs) (s := 0) (n := c) (fun i _ hi hn => h4 i (by omega) hn), seg_empty (ro := row (bs.set c r)) (s := 0) (n := c) (fun i _ hi hn => absurd hn (by omega))]
  rw [seg_congr (ro := row (bs.set c r)) (ro' := row bs) (nw := c) (nw' := nw) (s := 0 + (c + 1)) (fun i hi _ => by rw [show row (bs.set c r) i = row bs i by rw [row_set _ _ _ _ h2, if_neg (by omega)], if_pos (show c ≤ i by omega), if_pos (show nw ≤ i by omega)])]
  rw [Nat.zero_add, if_pos h1, if_pos (Nat.le_refl c), row_set _ _ _ _ h2, if_pos rfl, hr]
  simp [itsOf]
theorem row_le_items {bs : List (List Int)} {nw : Nat} (hz : ∀ i, i < nw → row bs i = []) (i : Nat) : (row bs i).length ≤ (items bs nw).length := by
  rcases Nat.lt_or_ge i nw with h | h
  · rw [hz i h]; simp
  · rcases Nat.lt_or_ge i bs.length with h2 | h2
    · rw [items_seg (Nat.le_refl bs.length), show bs.length = (i + 1) + (bs.length - (i + 1)) by omega, seg_add, seg_add, seg_one, Nat.zero_add, if_pos h]
      simp [itsOf]
      omega
    · rw [row_beyond h2]; simp
end Go.Proofs.Ytmbpdboengaclaa
