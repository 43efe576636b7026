/- texts in order and their runes; what a state is told by (plain). -/
import Derived.Lib.MapLaws
import Derived.Test.YteigplfldhdakaaGreatDoorD13
import Derived.Lib.RuneCountTail
import Derived.Test.YteigplfldhdakaaGreatDoorD12
set_option linter.unusedVariables false
set_option linter.unusedSimpArgs false
namespace Go.Proofs.YteigplfldhdakaaGreatDoor.Dw
open Go.Lib
/-- a rune that may be -/
def okU (r : Int) : Prop := (0 ≤ r ∧ r < 55296) ∨ (57343 < r ∧ r ≤ 1114111)
/-- the order of texts -/
def lx : List Int → List Int → Prop
  | [], [] => False
  | [], _ :: _ => True
  | _ :: _, [] => False
  | a :: x, b :: y => a < b ∨ a = b ∧ lx x y
theorem lx_asymm : ∀ {x y : List Int}, lx x y → ¬ lx y x
  | [], [], h, _ => h
  | [], _ :: _, _, h => h
  | _ :: _, [], h, _ => h
  | a :: x, b :: y, h, k => by
    rcases h with h | ⟨h, h2⟩
    · rcases k with k | ⟨k, _⟩ <;> omega
    · rcases k with k | ⟨_, k2⟩
      · omega
      · exact lx_asymm h2 k2
theorem lx_same : ∀ (p : List Int) {x y : List Int}, lx (p ++ x) (p ++ y) ↔ lx x y
  | [], x, y => Iff.rfl
  | a :: p, x, y => by
    rw [List.cons_append, List.cons_append]
    constructor
    · rintro (h | ⟨_, h⟩)
      · omega
      · exact (lx_same p).1 h
    · exact fun h => .inr ⟨rfl, (lx_same p).2 h⟩
theorem encZ_cases {r : Int} (h : okU r) : (0 ≤ r ∧ r ≤ 127 ∧ encodeRuneZ r = [r]) ∨ (128 ≤ r ∧ r ≤ 2047 ∧ encodeRuneZ r = [192 + r / 64, 128 + r % 64]) ∨
    (2048 ≤ r ∧ r ≤ 65535 ∧ encodeRuneZ r = [224 + r / 4096, 128 + r / 64 % 64, 128 + r % 64]) ∨ (65536 ≤ r ∧ r ≤ 1114111 ∧ encodeRuneZ r = [240 + r / 262144, 128 + r / 4096 % 64, 128 + r / 64 % 64, 128 + r % 64]) := by
  unfold okU at h
  by_cases h1 : r ≤ 127
  · exact .inl ⟨by omega, h1, encodeRuneZ_one (by omega) h1⟩
  · by_cases h2 : r ≤ 2047
    · exact .inr (.inl ⟨by omega, h2, encodeRuneZ_two (by omega) h2⟩)
    · by_cases h3 : r ≤ 65535
      · exact .inr (.inr (.inl ⟨by omega, h3, encodeRuneZ_three (by omega)⟩))
      · exact .inr (.inr (.inr ⟨by omega, by omega, encodeRuneZ_four (by omega) (by omega)⟩))
theorem enc_lx {r s : Int} (hr : okU r) (hs : okU s) (h : r < s) (x y : List Int) : lx (encodeRuneZ r ++ x) (encodeRuneZ s ++ y) := by
  rcases encZ_cases hr with ⟨a1, a2, a3⟩ | ⟨a1, a2, a3⟩ | ⟨a1, a2, a3⟩ | ⟨a1, a2, a3⟩ <;>
    rcases encZ_cases hs with ⟨b1, b2, b3⟩ | ⟨b1, b2, b3⟩ | ⟨b1, b2, b3⟩ | ⟨b1, b2, b3⟩ <;>
    rw [a3, b3] <;> simp only [List.cons_append, List.nil_append, lx] <;> omega
theorem enc_inj {r s : Int} (hr : okU r) (hs : okU s) {x y : List Int} (h : encodeRuneZ r ++ x = encodeRuneZ s ++ y) : r = s ∧ x = y := by
  have h1 : r = s := by
    rcases Int.lt_trichotomy r s with h2 | h2 | h2
    · have h3 := enc_lx hr hs h2 x y
      rw [h] at h3
      exact absurd h3 (lx_asymm h3)
    · exact h2
    · have h3 := enc_lx hs hr h2 y x
      rw [h] at h3
      exact absurd h3 (lx_asymm h3)
  subst h1
  exact ⟨rfl, List.append_cancel_left h⟩
/-- how many runes two rows begin with that are the same -/
def comm : List Int → List Int → Nat
  | a :: x, b :: y => if a = b then comm x y + 1 else 0
  | _, _ => 0
theorem comm_le : ∀ (A B : List Int), comm A B ≤ A.length ∧ comm A B ≤ B.length
  | [], _ => by simp [comm]
  | _ :: _, [] => by simp [comm]
  | a :: x, b :: y => by
    have := comm_le x y
    unfold comm
    split <;> simp <;> omega
theorem comm_take : ∀ (A B : List Int), A.take (comm A B) = B.take (comm A B)
  | [], _ => by simp [comm]
  | _ :: _, [] => by simp [comm]
  | a :: x, b :: y => by
    unfold comm
    split
    · next h => subst h; simp [comm_take x y]
    · simp
/-- rising texts' runes rise where they part -/
theorem comm_lt : ∀ {A B : List Int}, (∀ r ∈ A, okU r) → (∀ r ∈ B, okU r) → lx (A.flatMap encodeRuneZ) (B.flatMap encodeRuneZ) → comm A B < B.length ∧ (comm A B = A.length ∨ (comm A B < A.length ∧ A.getD (comm A B) 0 < B.getD (comm A B) 0))
  | [], [], _, _, h => h.elim
  | [], b :: y, _, _, h => by simp [comm]
  | a :: x, [], hA, _, h => by
    exfalso
    rw [List.flatMap_cons] at h
    rcases encZ_cases (hA a (List.mem_cons_self ..)) with ⟨_, _, a3⟩ | ⟨_, _, a3⟩ | ⟨_, _, a3⟩ | ⟨_, _, a3⟩ <;> rw [a3] at h <;> exact h
  | a :: x, b :: y, hA, hB, h => by
    rw [List.flatMap_cons, List.flatMap_cons] at h
    have ha := hA a (List.mem_cons_self ..)
    have hb := hB b (List.mem_cons_self ..)
    unfold comm
    by_cases hab : a = b
    · subst hab
      rw [if_pos rfl]
      have := comm_lt (fun r hr => hA r (List.mem_cons_of_mem _ hr)) (fun r hr => hB r (List.mem_cons_of_mem _ hr)) ((lx_same _).1 h)
      simp only [List.length_cons, List.getD_cons_succ]
      omega
    · rw [if_neg hab]
      have : a < b := by
        rcases Int.lt_trichotomy a b with h2 | h2 | h2
        · exact h2
        · exact absurd h2 hab
        · exact absurd (enc_lx hb ha h2 _ _) (lx_asymm h)
      simp only [List.length_cons, List.getD_cons_zero]
      omega
def toZ (l : List UInt8) : List Int := l.map fun b => (b.toNat : Int)
theorem lx_bytes : ∀ {a b : List UInt8}, a < b → lx (toZ a) (toZ b)
  | [], [], h => by simp at h
  | [], _ :: _, _ => trivial
  | a :: x, [], h => by simp at h
  | a :: x, b :: y, h => by
    rw [List.cons_lt_cons_iff] at h
    rcases h with h | ⟨h, h2⟩
    · left
      have h3 : a.toNat < b.toNat := h
      show (a.toNat : Int) < (b.toNat : Int)
      omega
    · exact .inr ⟨by rw [h], lx_bytes h2⟩
theorem toZ_enc (r : Int) : toZ (encodeRune r) = encodeRuneZ r := by
  unfold toZ encodeRune
  rw [List.map_map]
  have := encodeRuneZ_byte r
  rw [List.map_congr_left (g := id)]
  · simp
  · intro x hx
    have h := this x hx
    simp [Nat.mod_eq_of_lt (show x.toNat < 256 by omega)]
    omega
open Go.Lib
/-- a number's digits, the least ahead -/
def digs (n : Nat) : List Int := if h : n < 128 then [((n + 128 : Nat) : Int)] else ((n % 128 + 128 : Nat) : Int) :: digs (n / 128)
termination_by n
decreasing_by omega
def edgeK (e : Ed) : List Int := encodeRuneZ e.1 ++ (digs e.2 ++ [0])
/-- what a state is -/
def keyZ (s : Dst) : List Int := (if s.2 then 43 else 45) :: s.1.flatMap edgeK
theorem digs_lt {n : Nat} (h : n < 128) : digs n = [((n + 128 : Nat) : Int)] := by rw [digs, dif_pos h]
theorem digs_ge {n : Nat} (h : ¬ n < 128) : digs n = ((n % 128 + 128 : Nat) : Int) :: digs (n / 128) := by rw [digs, dif_neg h]
theorem digs_hd (n : Nat) : ∃ d r, digs n = d :: r ∧ 128 ≤ d := by
  by_cases h : n < 128
  · exact ⟨_, _, digs_lt h, by omega⟩
  · exact ⟨_, _, digs_ge h, by omega⟩
theorem digs_inj : ∀ (a b : Nat) (x y : List Int), digs a ++ 0 :: x = digs b ++ 0 :: y → a = b ∧ x = y := by
  intro a
  induction a using Nat.strongRecOn with
  | ind a ih =>
    intro b x y h
    by_cases ha : a < 128
    · rw [digs_lt ha] at h
      by_cases hb : b < 128
      · rw [digs_lt hb] at h
        simp only [List.cons_append, List.nil_append, List.cons.injEq] at h
        exact ⟨by omega, h.2.2⟩
      · rw [digs_ge hb] at h
        exfalso
        obtain ⟨d, r, hd, hd2⟩ := digs_hd (b / 128)
        rw [hd] at h
        simp only [List.cons_append, List.nil_append, List.cons.injEq] at h
        omega
    · rw [digs_ge ha] at h
      by_cases hb : b < 128
      · rw [digs_lt hb] at h
        exfalso
        obtain ⟨d, r, hd, hd2⟩ := digs_hd (a / 128)
        rw [hd] at h
        simp only [List.cons_append, List.nil_append, List.cons.injEq] at h
        omega
      · rw [digs_ge hb] at h
        simp only [List.cons_append, List.cons.injEq] at h
        have := ih (a / 128) (by omega) (b / 128) x y h.2
        exact ⟨by omega, this.2⟩
theorem edges_inj : ∀ {l m : List Ed}, (∀ e ∈ l, okU e.1) → (∀ e ∈ m, okU e.1) → l.flatMap edgeK = m.flatMap edgeK → l = m
  | [], [], _, _, _ => rfl
  | [], e :: m, _, hm, h => by
    exfalso
    rw [List.flatMap_cons, edgeK] at h
    rcases encZ_cases (hm e (List.mem_cons_self ..)) with ⟨_, _, a3⟩ | ⟨_, _, a3⟩ | ⟨_, _, a3⟩ | ⟨_, _, a3⟩ <;> rw [a3] at h <;> simp at h
  | e :: l, [], hl, _, h => by
    exfalso
    rw [List.flatMap_cons, edgeK] at h
    rcases encZ_cases (hl e (List.mem_cons_self ..)) with ⟨_, _, a3⟩ | ⟨_, _, a3⟩ | ⟨_, _, a3⟩ | ⟨_, _, a3⟩ <;> rw [a3] at h <;> simp at h
  | e :: l, f :: m, hl, hm, h => by
    rw [List.flatMap_cons, List.flatMap_cons, edgeK, edgeK] at h
    simp only [List.append_assoc] at h
    obtain ⟨h1, h2⟩ := enc_inj (hl e (List.mem_cons_self ..)) (hm f (List.mem_cons_self ..)) h
    obtain ⟨h3, h4⟩ := digs_inj _ _ _ _ h2
    obtain ⟨a, b⟩ := e
    obtain ⟨c, d⟩ := f
    dsimp only at h1 h3
    rw [h1, h3, edges_inj (fun x hx => hl x (List.mem_cons_of_mem _ hx)) (fun x hx => hm x (List.mem_cons_of_mem _ hx)) h4]
/-- **what is alike by its key is alike** -/
theorem key_inj {s t : Dst} (hs : ∀ e ∈ s.1, okU e.1) (ht : ∀ e ∈ t.1, okU e.1) (h : keyZ s = keyZ t) : s = t := by
  unfold keyZ at h
  simp only [List.cons.injEq] at h
  obtain ⟨l, b⟩ := s
  obtain ⟨m, c⟩ := t
  have h1 := edges_inj hs ht h.2
  dsimp only at h1 h
  subst h1
  have h2 := h.1
  cases b <;> cases c <;> first | rfl | (simp at h2)
theorem digs_len (n : Nat) (h : n < 9223372036854775808) : (digs n).length ≤ 9 := by
  have key : ∀ k n, n < 128 ^ (k + 1) → (digs n).length ≤ k + 1 := fun k => by
    induction k with
    | zero => intro n hn; rw [digs, dif_pos (by omega)]; simp
    | succ k ih =>
      intro n hn
      by_cases h : n < 128
      · rw [digs_lt h]; simp
      · rw [digs_ge h]
        have := ih (n / 128) (by rw [Nat.pow_succ] at hn; omega)
        simp; omega
  exact key 8 n (by omega)
end Go.Proofs.YteigplfldhdakaaGreatDoor.Dw
/- texts, plain: a valid text is its runes encoded; a part that ends at a rune is valid. -/
namespace Go.Proofs.YteigplfldhdakaaGreatDoor
open Go.Lib Dw
def badL (l : List UInt8) : Prop := (decodeL l).1 = 65533 ∧ (decodeL l).2 = 1
theorem getD_take (l : List UInt8) (k i : Nat) : (l.take k).getD i 0 = if i < k then l.getD i 0 else 0 := by
  rw [List.getD_eq_getElem?_getD, List.getD_eq_getElem?_getD, List.getElem?_take]
  split <;> simp
/-- a rune is told by its own bytes -/
theorem decode_take {l : List UInt8} (hne : l ≠ []) (hv : ¬ badL l) {k : Nat} (hk : (decodeL l).2 ≤ k) : decodeL (l.take k) = decodeL l := by
  have hl : 0 < l.length := List.length_pos_iff.2 hne
  unfold badL at hv
  rw [decodeL_N l] at hv hk ⊢
  rw [decodeL_N (l.take k), getD_take, getD_take, getD_take, getD_take, List.length_take]
  have k0 := (l.getD 0 0).toNat_lt
  have k1 := (l.getD 1 0).toNat_lt
  have k2 := (l.getD 2 0).toNat_lt
  have k3 := (l.getD 3 0).toNat_lt
  rcases decodeN_shape l.length (l.getD 0 0).toNat (l.getD 1 0).toNat (l.getD 2 0).toNat (l.getD 3 0).toNat with ⟨c, e⟩ | ⟨c1, c2, c3, cv, e⟩ | ⟨c1, c2, c3, c4, cv, cs, e⟩ | ⟨c1, c2, c3, c4, c5, cv, cw, e⟩ | e
  · rw [e] at hk ⊢
    dsimp only at hk
    rw [if_pos (by omega)]
    exact decodeN_ascii _ _ _ _ _ c
  · rw [e] at hk ⊢
    dsimp only at hk
    rw [if_pos (by omega), if_pos (by omega)]
    unfold decodeN
    rw [if_neg (by omega), if_pos ⟨c1, by omega, c3⟩, if_pos cv]
  · rw [e] at hk ⊢
    dsimp only at hk
    rw [if_pos (by omega), if_pos (by omega), if_pos (by omega)]
    unfold decodeN
    rw [if_neg (by omega), if_neg (by omega), if_pos ⟨c1, ⟨by omega, c3⟩, by omega, c4⟩, if_pos ⟨cv, by omega⟩]
  · rw [e] at hk ⊢
    dsimp only at hk
    rw [if_pos (by omega), if_pos (by omega), if_pos (by omega), if_pos (by omega)]
    unfold decodeN
    rw [if_neg (by omega), if_neg (by omega), if_neg (by omega), if_pos ⟨c1, ⟨by omega, c3⟩, ⟨by omega, c4⟩, by omega, c5⟩, if_pos ⟨cv, by omega⟩]
  · exact absurd (by rw [e]; exact ⟨rfl, rfl⟩) hv
theorem not_bad {l : List UInt8} (hne : l ≠ []) (hv : validD l = true) : ¬ badL l := fun h => by
  unfold badL at h
  rw [validD_step l hne, if_pos h] at hv
  cases hv
theorem valid_of {l : List UInt8} (hne : l ≠ []) (hv : ¬ badL l) (h : validD (l.drop (decodeL l).2) = true) : validD l = true := by
  unfold badL at hv
  rw [validD_step l hne, if_neg hv]
  exact h
/-- **a row of whole runes is a valid text** -/
theorem run_valid (l : Bool) : ∀ (f : Nat) (L : List UInt8), validD L = true → validD (L.take (runB l f L)) = true
  | 0, L, h => by simp [runB, validD_nil]
  | f + 1, L, h => by
    unfold runB
    by_cases hne : L = []
    · rw [if_pos hne]; simp [validD_nil]
    · rw [if_neg hne]
      split
      · have hb := not_bad hne h
        have hw := decodeL_width L
        have hle := decodeL_le L hne
        have ih := run_valid l f (L.drop (decodeL L).2) (valid_drop hne h)
        obtain ⟨r, hr⟩ : ∃ r, runB l f (L.drop (decodeL L).2) = r := ⟨_, rfl⟩
        rw [hr] at ih ⊢
        have hd := decode_take hne hb (k := (decodeL L).2 + r) (by omega)
        have hne2 : L.take ((decodeL L).2 + r) ≠ [] := fun e => by
          have := congrArg List.length e
          rw [List.length_take, List.length_nil] at this
          omega
        refine valid_of hne2 (by unfold badL; rw [hd]; exact hb) ?_
        rw [hd, List.drop_take, show (decodeL L).2 + r - (decodeL L).2 = r by omega]
        exact ih
      · simp [validD_nil]
theorem decode_okU {l : List UInt8} (hv : ¬ badL l) : okU ((decodeL l).1 : Int) := by
  unfold badL at hv
  rw [decodeL_N l] at hv ⊢
  have k0 := (l.getD 0 0).toNat_lt
  unfold okU
  rcases decodeN_shape l.length (l.getD 0 0).toNat (l.getD 1 0).toNat (l.getD 2 0).toNat (l.getD 3 0).toNat with ⟨c, e⟩ | ⟨c1, c2, c3, cv, e⟩ | ⟨c1, c2, c3, c4, cv, cs, e⟩ | ⟨c1, c2, c3, c4, c5, cv, cw, e⟩ | e
  · rw [e]; dsimp only; omega
  · rw [e]; dsimp only; omega
  · rw [e]; dsimp only; omega
  · rw [e]; dsimp only; omega
  · exact absurd (by rw [e]; exact ⟨rfl, rfl⟩) hv
theorem runesOf_step {l : List UInt8} (h : l ≠ []) : runesOf l = ((decodeL l).1 : Int) :: runesOf (l.drop (decodeL l).2) := by
  unfold runesOf runesTo
  rw [cntR_step h, Nat.add_comm, List.range_succ_eq_map, List.map_cons, List.map_map]
  congr 1
  apply List.map_congr_left
  intro k _
  show runeAt l (k + 1) = runeAt (l.drop (decodeL l).2) k
  unfold runeAt
  rw [restR_succ]
/-- **a valid text is its runes, encoded** -/
theorem text_runes : ∀ (n : Nat) (l : List UInt8), l.length ≤ n → validD l = true → l = (runesOf l).flatMap encodeRune ∧ ∀ r ∈ runesOf l, okU r
  | 0, l, h, _ => by
    obtain rfl : l = [] := List.eq_nil_of_length_eq_zero (by omega)
    exact ⟨rfl, fun r hr => by simp [runesOf, runesTo, cntR_nil] at hr⟩
  | n + 1, l, h, hv => by
    by_cases hne : l = []
    · subst hne
      exact ⟨rfl, fun r hr => by simp [runesOf, runesTo, cntR_nil] at hr⟩
    · have hb := not_bad hne hv
      have hw := decodeL_width l
      have hp : 0 < l.length := List.length_pos_iff.2 hne
      obtain ⟨h1, h2⟩ := text_runes n (l.drop (decodeL l).2) (by rw [List.length_drop]; omega) (valid_drop hne hv)
      rw [runesOf_step hne]
      refine ⟨?_, fun r hr => ?_⟩
      · rw [List.flatMap_cons, encode_decode l hne hb, ← h1, List.take_append_drop]
      · rcases List.mem_cons.1 hr with rfl | hr
        · exact decode_okU hb
        · exact h2 r hr
theorem okText_of : ∀ (n : Nat) (l : List UInt8), l.length ≤ n → validD l = true → okText l
  | 0, l, h, _ => by
    obtain rfl : l = [] := List.eq_nil_of_length_eq_zero (by omega)
    exact fun k hk => by simp [cntR_nil] at hk
  | n + 1, l, h, hv => by
    by_cases hne : l = []
    · subst hne
      exact fun k hk => by simp [cntR_nil] at hk
    · have hb := not_bad hne hv
      have hw := decodeL_width l
      have hp : 0 < l.length := List.length_pos_iff.2 hne
      have ih := okText_of n (l.drop (decodeL l).2) (by rw [List.length_drop]; omega) (valid_drop hne hv)
      intro k hk
      rw [cntR_step hne] at hk
      cases k with
      | zero => exact decide_eq_false hb
      | succ k =>
        have := ih k (by omega)
        unfold badAt at this ⊢
        rw [restR_succ]
        exact this
theorem toZ_flat (l : List Int) : toZ (l.flatMap encodeRune) = l.flatMap encodeRuneZ := by
  induction l with
  | nil => rfl
  | cons a l ih =>
    rw [List.flatMap_cons, List.flatMap_cons, ← ih, ← toZ_enc]
    unfold toZ
    rw [List.map_append]
/-- **the order of valid texts is that of their runes** -/
theorem text_lt {a b : List UInt8} (ha : validD a = true) (hb : validD b = true) (h : a < b) :
    comm (runesOf a) (runesOf b) < (runesOf b).length ∧ (comm (runesOf a) (runesOf b) = (runesOf a).length ∨ (comm (runesOf a) (runesOf b) < (runesOf a).length ∧ (runesOf a).getD (comm (runesOf a) (runesOf b)) 0 < (runesOf b).getD (comm (runesOf a) (runesOf b)) 0)) := by
  obtain ⟨h1, h2⟩ := text_runes _ a (Nat.le_refl _) ha
  obtain ⟨h3, h4⟩ := text_runes _ b (Nat.le_refl _) hb
  refine comm_lt h2 h4 ?_
  have := lx_bytes h
  rw [h1, h3, toZ_flat, toZ_flat] at this
  have e1 := congrArg runesOf h1
  have e2 := congrArg runesOf h3
  exact this
end Go.Proofs.YteigplfldhdakaaGreatDoor
/- text.Spans. -/
namespace Go.Proofs.YteigplfldhdakaaGreatDoor
open Go.RowKit Go.Shelf
attribute [local go_sem ↓] Go.wp_at_zero Go.wp_at_succ
abbrev Spn := Nat × Nat × Bool
def spnC (x : Spn) : List Value := [.int .i64 (x.1 : Int), .int .i64 (x.2.1 : Int), .bool x.2.2]
theorem spnC_len (x : Spn) : (spnC x).length = 3 := rfl
/-- v is a slice of pieces: these -/
def SpS (w : World) (v : Value) (P : List Spn) : Prop := SL w 112 3 v P.length (P.flatMap spnC)
theorem SpS.below {w W : World} {v : Value} {L : List Spn} (h : SpS w v L) (hb : Below w.heap.size w W) : SpS W v L := SL.keep h fun k hk => hb.block k (SL.lt h k hk)
theorem info112 : (Tryz.prog.info? 112).map (fun i => (i.zero, i.size, i.bytes)) = some (some (.agg #[.int .i64 0, .int .i64 0, .bool false]), 3, 24) := by kernel_rfl
/-- what Spans hands back -/
def SpansP (s : ByteArray) (w : World) (e : Ending) (w' : World) : Prop :=
  Below w.heap.size w w' ∧ ((Lib.validD (bys s) = false ∧ e = .returned (.tuple #[.slice none 0 0, .int .i64 3])) ∨
    (Lib.validD (bys s) = true ∧ ∃ A c, e = .returned (.tuple #[.slice A (spansF (bys s)).length c, .int .i64 0]) ∧ SpS w' (.slice A (spansF (bys s)).length c) (spansF (bys s)) ∧ ∀ k, (Value.slice A (spansF (bys s)).length c).ownBlock = some k → w.heap.size ≤ k))
set_option maxRecDepth 100000 in
set_option maxHeartbeats 4000000 in
theorem spans_c (s : ByteArray) (hs : s.size ≤ 1048576) (w : World) (hT : Tab w) : Calls Tryz.prog 42 #[.string s] w (SpansP s w) := by
  have hv := valid_c s hs w hT
  have hsi : ¬ (1048576 : Int) < (s.size : Int) := by omega
  cases hq : Lib.validD (bys s) with
  | false =>
    rw [hq] at hv
    have HV := hid hv
    have HQ := hid hq
    clear hv hq
    go_enter Tryz.func42, Tryz.ntmps42
    go_wp2_with (go_at_call 74; refine HV.out.mono ?_; rintro e w1 ⟨rfl, hb1⟩; have HB1 := hid hb1; clear hb1)
    go_ret2
    exact ⟨HB1.out, .inl ⟨HQ.out, rfl⟩⟩
  | true =>
    rw [hq] at hv
    have HV := hid hv
    have HQ := hid hq
    clear hv hq
    go_enter Tryz.func42, Tryz.ntmps42
    go_wp2_with (go_at_call 74; refine HV.out.mono ?_; rintro e w1 ⟨rfl, hb1⟩; have HB1 := hid hb1; clear hb1)
    go_loopw [2, 4, 5] (fun ov lv av wr => ∃ (p : Nat) (l : Bool) (P : List Spn) (A : Option Addr) (c : Nat), p ≤ s.size ∧ av = .int .i64 (p : Int) ∧ lv = .bool l ∧ ov = .slice A P.length c ∧ Hid (spansF (bys s) = P ++ spnL l p ((bys s).drop p)) ∧ Hid (Lib.validD ((bys s).drop p) = true) ∧ P.length ≤ p ∧ Hid (SpS wr (.slice A P.length c) P) ∧ Hid (∀ b, (Value.slice A P.length c).ownBlock = some b → w.heap.size ≤ b) ∧ Hid (Below w.heap.size w wr))
      (fun ov lv av _ => spnM (match lv with | .bool l => l | _ => false) ((bys s).drop (intOf av).toNat))
    case atStart => exact ⟨0, true, [], none, 0, Nat.zero_le _, rfl, rfl, rfl, hid (by simp [spansF]), hid (by rw [List.drop_zero]; exact HQ.out), Nat.le_refl _, hid (SL.nil _ _ _), hid (fun b hb => by simp [Value.ownBlock] at hb), HB1⟩
    case round =>
      obtain ⟨p, l, P, A, c, hp, rfl, rfl, rfl, HS, HV2, hPl, HP, HO, HB⟩ := hrel
      by_cases hps : p < s.size
      · have hpi : (p : Int) < (s.size : Int) := by omega
        have hne : (bys s).drop p ≠ [] := fun e => by
          have := congrArg List.length e
          rw [List.length_drop, bys_size] at this
          simp at this
          omega
        have hrow : ∀ W, Calls Tryz.prog 75 #[.string (s.extract p s.size), .bool l] W fun e w' => e = .returned (.int .i64 (runL l ((bys s).drop p) : Nat)) ∧ Below W.heap.size W w' := fun W => by
          have h1 := row_c (s.extract p s.size) l (by simp; omega) W
          rw [rowF_eq _ _ (by rw [bys_from]; exact HV2.out)] at h1
          have e : runB l (s.extract p s.size).size (bys (s.extract p s.size)) = runL l ((bys s).drop p) := by
            rw [← bys_size, bys_from]; rfl
          rw [e] at h1
          exact h1
        have hle := runL_le l ((bys s).drop p)
        rw [List.length_drop, bys_size] at hle
        obtain ⟨n, hn⟩ : ∃ n, runL l ((bys s).drop p) = n := ⟨_, rfl⟩
        rw [hn] at hrow hle
        have HR := hid hrow
        have hp0 : (0 : Int) ≤ (p : Int) := by omega
        have hpe : (p : Int) ≤ (s.size : Int) := by omega
        clear hrow
        by_cases h0 : 0 < n
        · have hrun := spnL_run (p := p) hne (by rw [hn]; exact h0)
          have hmr := spnM_run hne (by rw [hn]; exact h0)
          have hvr := runL_valid (l := l) HV2.out
          rw [hn] at hrun hmr hvr
          rw [List.drop_drop] at hrun hmr hvr
          have HS2 : Hid (spansF (bys s) = (P ++ [(p, p + n, l)]) ++ spnL (!l) (p + n) ((bys s).drop (p + n))) := hid (by rw [HS.out, hrun]; simp)
          have HVR := hid hvr
          have HMR := hid hmr
          have hw1 : IntKind.i64.wrap ((p : Int) + (n : Int)) = (p : Int) + (n : Int) := by rw [IntKind.wrap_i64]; omega
          obtain ⟨i0, hi, hz0, hz1, hz2⟩ := info_parts info112
          have hone : ∀ u ∈ [Value.int .i64 (p : Int), Value.int .i64 ((p : Int) + (n : Int)), Value.bool l], u.oneCell' = true := by simp [Value.oneCell']
          have h63 : P.length + 1 ≤ maxLen := by simp only [maxLen]; omega
          have hby : (P.length + 1) * 24 ≤ 140737488355328 := by omega
          clear hrun hmr hvr hn
          go_wp2_with (first
            | (go_at_call 75; refine (HR.out _).mono ?_; rintro e w2 ⟨rfl, hb2⟩; have HB2 := hid hb2; have HP2 := hid (HP.out.below hb2); have HLIT := hid (SL.lit w2 112 3 1 #[Value.int .i64 (p : Int), Value.int .i64 ((p : Int) + (n : Int)), Value.bool l] rfl (by simp [maxLen])); clear hb2)
            | (at_builtin; refine wpList_append_SLs rfl _ _ _ rfl 112 i0 _ 3 24 Tryz.underlying104 hi hz0 hz1 hz2 rfl (by decide) (.slice A P.length c) P.length (P.flatMap spnC) rfl (SL.alloc HP2.out _) _ 1 [Value.int .i64 (p : Int), Value.int .i64 ((p : Int) + (n : Int)), Value.bool l] rfl HLIT.out hone (P.length + 1) _ rfl rfl h63 hby ?_; intro A2 c2 w3 hs2 hg2 ho2; have HS3 := hid hs2; have HG2 := hid hg2; have HO2 := hid ho2; clear hs2 hg2 ho2))
          have e1 : (P ++ [((p, p + n, l) : Spn)]).length = P.length + 1 := by simp
          have ei : (intOf (Value.int IntKind.i64 ((p : Int) + (n : Int)))).toNat = p + n := by simp [intOf]; omega
          have ej : (intOf (Value.int IntKind.i64 (p : Int))).toNat = p := by simp [intOf]
          refine ⟨⟨p + n, !l, P ++ [((p, p + n, l) : Spn)], A2, c2, by omega, by simp, rfl, by rw [e1], HS2, HVR, by rw [e1]; omega, hid ?_, hid (fun b hb => ?_), hid ?_⟩, ?_⟩
          · unfold SpS
            rw [e1, List.flatMap_append]
            exact HS3.out
          · rw [e1] at hb
            rcases HO2.out b hb with h1 | h1
            · exact HO.out b h1
            · have := HB2.out.size
              have := HB.out.size
              rw [World.size_alloc] at h1
              omega
          · exact (Touch.grown (F := fun k => (Value.slice A P.length c).ownBlock = some k) (((Touch.of_below HB2.out (Nat.le_refl _)).mono (fun _ h => h.elim)).alloc _) HG2.out (fun k hk => .inl hk)).below HB.out (fun b hb => HO.out b hb)
          · rw [ei, ej]
            exact HMR.out
        · have hturn := spnL_turn (p := p) hne (by rw [hn]; exact h0)
          have hmt := spnM_turn hne (by rw [hn]; exact h0)
          obtain rfl : n = 0 := by omega
          have HS2 : Hid (spansF (bys s) = P ++ spnL (!l) p ((bys s).drop p)) := hid (by rw [HS.out, hturn])
          have HMT := hid hmt
          clear hturn hmt hn
          go_wp2_with (go_at_call 75; refine (HR.out _).mono ?_; rintro e w2 ⟨rfl, hb2⟩; have HB2 := hid (bthen HB.out hb2); have HP2 := hid (HP.out.below hb2); clear hb2)
          have ej : (intOf (Value.int IntKind.i64 (p : Int))).toNat = p := by simp [intOf]
          exact ⟨⟨p, !l, P, A, c, hp, rfl, rfl, rfl, HS2, HV2, hPl, HP2, HO, HB2⟩, by rw [ej]; exact HMT.out⟩
      · obtain rfl : p = s.size := by omega
        have hpi : ¬ (s.size : Int) < (s.size : Int) := by omega
        have he : (bys s).drop s.size = [] := List.drop_of_length_le (by rw [bys_size]; exact Nat.le_refl _)
        have hP : spansF (bys s) = P := by rw [HS.out, he, spnL_nil]; simp
        have HPE := hid hP
        clear hP he
        go_wp2
        go_ret2
        exact ⟨HB.out, .inr ⟨HQ.out, A, c, by rw [HPE.out]; rfl, by rw [HPE.out]; exact HP.out, by rw [HPE.out]; exact HO.out⟩⟩
end Go.Proofs.YteigplfldhdakaaGreatDoor
/- text: the iterator over a slice's tokens. -/
namespace Go.Proofs.YteigplfldhdakaaGreatDoor
open Go.RowKit Go.Shelf
attribute [local go_sem] Oper.semAt_some
theorem SpS.at3 {w : World} {A : Option Addr} {c : Nat} {L : List Spn} (h : SpS w (.slice A L.length c) L) {k : Nat} (hk : k < L.length) :
    ∃ g off, A = some ⟨g, off, none⟩ ∧ g < w.heap.size ∧ w.cell? ⟨g, off + k * 3, none⟩ = some (.int .i64 (L[k].1 : Int)) ∧ w.cell? ⟨g, off + k * 3 + 1, none⟩ = some (.int .i64 (L[k].2.1 : Int)) ∧ w.cell? ⟨g, off + k * 3 + 2, none⟩ = some (.bool L[k].2.2) := by
  obtain ⟨g, off, cap, hv, _, _, _, _⟩ := SL.open_ h (by omega)
  obtain ⟨rfl, -, rfl⟩ := Value.slice.inj hv
  have hc := SL.cellsK (enc := spnC) spnC_len h k hk
  rw [getElem!_pos L k hk] at hc
  exact ⟨g, off, rfl, SL.lt h g rfl, hc 0 _ rfl, hc 1 _ rfl, hc 2 _ rfl⟩
/-- the pieces that are tokens -/
def toksL (L : List Spn) : List Spn := L.filter fun x => x.2.2
def spnV (x : Spn) : Value := .agg #[.int .i64 (x.1 : Int), .int .i64 (x.2.1 : Int), .bool x.2.2]
def tokArgs (L : List Spn) (k : Nat) : Array Value := #[.int .i64 (k : Int), spnV ((toksL L).getD k (0, 0, false))]
set_option maxRecDepth 100000 in
set_option maxHeartbeats 1000000 in
theorem tokens_c (A : Option Addr) (n c : Nat) (w : World) : Calls Tryz.prog 55 #[.slice A n c] w fun e w' => e = .returned (.func (.func 96) #[] #[.pointer (some ⟨w.heap.size, 0, none⟩)]) ∧ w' = w.alloc (.cells #[.slice A n c] 104) := by
  go_enter Tryz.func55, Tryz.ntmps55
  go_wp2
  go_ret
  exact ⟨rfl, rfl⟩
set_option maxRecDepth 100000 in
set_option maxHeartbeats 2000000 in
theorem tokens1_in (n : Nat) (hn : 1 ≤ n) (lp Bn : Nat) (A : Option Addr) (c : Nat) (L : List Spn) (hL : L.length ≤ 2000000) (J Jx : Nat → World → Prop)
    (hJ : ∀ k X Y, J k X → Touch (fun _ => False) X Y → J k Y)
    (w0 W : World) (hW0 : Below w0.heap.size w0 W) (hY : ∀ k W1, k < (toksL L).length → J k W1 → YieldAt Fence.wide (n - 1) Tryz.prog lp (tokArgs L k) W1 fun e W' =>
      (e = .returned (.bool true) ∧ J (k + 1) W' ∧ Keep (fun j => j = Bn ∨ (Value.slice A L.length c).ownBlock = some j) W1 W') ∨ (e = .returned (.bool false) ∧ Jx (k + 1) W'))
    (hBn : w0.heap[Bn]? = some (.cells #[.slice A L.length c] 104 (0, 0))) (hS : SpS w0 (.slice A L.length c) L) (h0 : J 0 W) :
    CallsIn Fence.wide n Tryz.prog 96 #[.func (.yield lp) #[] #[], .pointer (some ⟨Bn, 0, none⟩)] W fun e W' => (∃ v, e = .returned v) ∧ (J (toksL L).length W' ∨ ∃ k, k < (toksL L).length ∧ Jx (k + 1) W') := by
  have hB := hW0.block Bn (blk_lt hBn)
  have hS2 := hS.below hW0
  rw [hBn] at hB
  have HS := hid hS2
  have HB := hid hB
  have HY := hid hY
  clear hBn hS hW0 hB hS2 hY
  obtain ⟨b0, -⟩ := box_cell HB.out
  refine callsIn_of_wp Tryz.func96 rfl trivial ?_ rfl
  simp only [Tryz.ntmps96, List.size_toArray, List.length_cons, List.length_nil, Nat.reduceAdd, Nat.reduceSub, Array.replicate_succ, Array.replicate_zero, List.push_toArray, List.append_toArray, List.nil_append, List.cons_append]
  gi_wp2
  gi_loopw [3, 8] (fun kv iv wr => ∃ (i t : Nat), i ≤ L.length ∧ iv = .int .i64 (i : Int) ∧ kv = .int .i64 (t : Int) ∧ t ≤ (toksL L).length ∧ Hid ((toksL L).drop t = toksL (L.drop i)) ∧ J t wr ∧ Hid (SpS wr (.slice A L.length c) L)) (fun kv iv _ => L.length - (intOf iv).toNat)
  case atStart => exact ⟨0, 0, Nat.zero_le _, rfl, rfl, Nat.zero_le _, hid rfl, h0, HS⟩
  case round =>
    obtain ⟨i, t, hi, rfl, rfl, hti, HD, hJt, HSr⟩ := hrel
    clear HB HS b0 h0
    by_cases hil : i < L.length
    · have hil2 : (i : Int) < (L.length : Int) := by omega
      obtain ⟨g, off, rfl, hgl, k0, k1, k2⟩ := SpS.at3 HSr.out hil
      have hcons : toksL (L.drop i) = if L[i].2.2 then L[i] :: toksL (L.drop (i + 1)) else toksL (L.drop (i + 1)) := by
        rw [List.drop_eq_getElem_cons hil]
        unfold toksL
        rw [List.filter_cons]
      obtain ⟨x, hx⟩ : ∃ x, L[i] = x := ⟨_, rfl⟩
      obtain ⟨f, u, b⟩ := x
      rw [hx] at k0 k1 k2 hcons
      dsimp only at k0 k1 k2 hcons
      have hJ1 := fun o => hJ t _ _ hJt ((Touch.refl _ wr).alloc o)
      cases b
      · have HD2 : Hid ((toksL L).drop t = toksL (L.drop (i + 1))) := hid (by rw [HD.out, hcons]; simp)
        gi_wp2
        exact ⟨⟨i + 1, t, by omega, by simp, rfl, by omega, HD2, hJ1 _, hid (SL.alloc HSr.out _)⟩, by simp [intOf]; omega⟩
      · have hD := HD.out
        rw [hcons, if_pos rfl] at hD
        have htl : t < (toksL L).length := by
          rcases Nat.lt_or_ge t (toksL L).length with h | h
          · exact h
          · rw [List.drop_of_length_le h] at hD; cases hD
        rw [List.drop_eq_getElem_cons htl] at hD
        have hgt : (toksL L).getD t (0, 0, false) = (f, u, true) := by simp [List.getD_eq_getElem?_getD, htl, (List.cons.inj hD).1]
        have HD2 := hid (List.cons.inj hD).2
        have hy0 := HY.out t
        rw [tokArgs, hgt, spnV] at hy0
        dsimp only at hy0
        have HY0 := hid hy0
        have hwt : IntKind.i64.wrap ((t : Int) + 1) = (t : Int) + 1 := by
          have h3 : (toksL L).length ≤ L.length := List.length_filter_le _ _
          rw [IntKind.wrap_i64]
          omega
        clear hD hgt hy0 hcons hx
        obtain ⟨fn, tmps, assign, body, hy, hR⟩ := HY0.out (wr.alloc (.cells #[.int .i64 (f : Int), .int .i64 (u : Int), .bool true] 112)) htl (hJ1 _)
        gi_wp2
        refine hR.mono ?_
        rintro e W3 (⟨rfl, hJ3, hk3⟩ | ⟨rfl, hJx3⟩)
        · have HS3 : Hid (SpS W3 (.slice (some ⟨g, off, none⟩) L.length c) L) := hid (SL.keep (SL.alloc HSr.out _) fun k hk => hk3.block k (.inr hk))
          clear hy hR hk3
          gi_wp2
          exact ⟨⟨i + 1, t + 1, by omega, by simp, by simp, by omega, HD2, hJ3, HS3⟩, by simp [intOf]; omega⟩
        · clear hy hR
          gi_wp2
          refine bodyPost_ret (results_none rfl _ _ _) rfl ?_
          exact ⟨⟨_, rfl⟩, .inr ⟨t, htl, hJx3⟩⟩
    · obtain rfl : i = L.length := by omega
      have hil2 : ¬ (L.length : Int) < (L.length : Int) := by omega
      have ht : t = (toksL L).length := by
        have h1 := HD.out
        rw [List.drop_length] at h1
        have h2 : (toksL L).length ≤ t := List.drop_eq_nil_iff.1 h1
        omega
      subst ht
      gi_wp2
      go_end0
      exact ⟨⟨_, rfl⟩, .inl hJt⟩
/- text.Tokens. -/
theorem tokens_seq (n : Nat) (hn : 1 ≤ n) (Bn : Nat) (A : Option Addr) (c : Nat) (L : List Spn) (hL : L.length ≤ 2000000) (w : World) (hBn : w.heap[Bn]? = some (.cells #[.slice A L.length c] 104 (0, 0))) (hS : SpS w (.slice A L.length c) L) :
    SeqL Fence.wide n Tryz.prog 96 #[.pointer (some ⟨Bn, 0, none⟩)] (tokArgs L) (toksL L).length (fun _ j => j = Bn ∨ (Value.slice A L.length c).ownBlock = some j) (fun _ _ => False) w := fun l J Jx W hW hJ hJx hY h0 =>
  tokens1_in n hn l Bn A c L hL J Jx hJ w W hW hY hBn hS h0
end Go.Proofs.YteigplfldhdakaaGreatDoor
/- texts, plain: the tokens of a valid text. -/
namespace Go.Proofs.YteigplfldhdakaaGreatDoor
open Go.Lib Dw
theorem rc_from (s : ByteArray) : ∀ f pos, runeCountFrom s f pos = cntF f ((bys s).drop pos)
  | 0, pos => rfl
  | f + 1, pos => by
    have hs : (bys s).length = s.size := bys_size s
    rw [runeCountFrom, cntF]
    by_cases h : pos < s.size
    · rw [if_pos h, if_neg (fun e => by have := congrArg List.length e; rw [List.length_drop, List.length_nil] at this; omega), rc_from s f, List.drop_drop]
      have hd : decodeL ((bys s).drop pos) = Utf8.decode s pos := decodeL_drop s pos
      rw [hd]
    · rw [if_neg h, if_pos (List.drop_eq_nil_of_le (by omega))]
theorem runeCount_cnt (s : ByteArray) : runeCount s = cntR (bys s) := by
  unfold runeCount cntR
  rw [rc_from, List.drop_zero, bys_size]
theorem spn_ok (S : List UInt8) : ∀ (f : Nat) (l : Bool) (p : Nat), p ≤ S.length → validD (S.drop p) = true → ∀ x ∈ spnG f l p (S.drop p), x.1 < x.2.1 ∧ x.2.1 ≤ S.length ∧ validD ((S.drop x.1).take (x.2.1 - x.1)) = true
  | 0, l, p, _, _, x, hx => by simp [spnG] at hx
  | f + 1, l, p, hp, hv, x, hx => by
    unfold spnG at hx
    by_cases hne : S.drop p = []
    · rw [if_pos hne] at hx; cases hx
    · rw [if_neg hne] at hx
      have hle := runL_le l (S.drop p)
      rw [List.length_drop] at hle
      by_cases hr : 0 < runL l (S.drop p)
      · rw [if_pos hr] at hx
        rcases List.mem_cons.1 hx with rfl | hx
        · refine ⟨by dsimp only; omega, by dsimp only; omega, ?_⟩
          dsimp only
          rw [show p + runL l (S.drop p) - p = runL l (S.drop p) by omega]
          exact run_valid l _ _ hv
        · rw [List.drop_drop] at hx
          exact spn_ok S f (!l) _ (by omega) (by rw [← List.drop_drop]; exact runL_valid hv) x hx
      · rw [if_neg hr] at hx
        exact spn_ok S f (!l) p hp hv x hx
/-- the tokens of a text -/
def toksF (s : ByteArray) : List ByteArray := (toksL (spansF (bys s))).map fun x => s.extract x.1 x.2.1
theorem span_text {s : ByteArray} (hv : validD (bys s) = true) {x : Spn} (hx : x ∈ spansF (bys s)) : x.1 < x.2.1 ∧ x.2.1 ≤ s.size ∧ validD (bys (s.extract x.1 x.2.1)) = true ∧ (s.extract x.1 x.2.1).size = x.2.1 - x.1 := by
  unfold spansF spnL at hx
  obtain ⟨h1, h2, h3⟩ := spn_ok (bys s) _ true 0 (Nat.zero_le _) (by simpa using hv) x (by simpa using hx)
  rw [bys_size] at h2
  refine ⟨h1, h2, ?_, ?_⟩
  · rw [bys_extract s _ _ h2, List.drop_take]
    exact h3
  · rw [← bys_size, bys_extract s _ _ h2, List.length_drop, List.length_take, bys_size]
    omega
/-- a lawful token -/
structure TokL (t : ByteArray) : Prop where
  valid : validD (bys t) = true
  pos : 0 < t.size
  small : t.size ≤ 1048576
  few : runeCount t ≤ 64
theorem tok_law {s : ByteArray} (hv : validD (bys s) = true) (hs : s.size ≤ 1048576) {t : ByteArray} (ht : t ∈ toksF s) (hf : runeCount t ≤ 64) : TokL t := by
  obtain ⟨x, hx, rfl⟩ := List.mem_map.1 ht
  obtain ⟨h1, h2, h3, h4⟩ := span_text hv ((List.mem_filter.1 hx).1)
  exact ⟨h3, by omega, by omega, hf⟩
theorem TokL.err {t : ByteArray} (h : TokL t) : tokErr (bys t) = 0 := by
  have h1 := h.few
  rw [runeCount_cnt] at h1
  have h2 : 0 < cntR (bys t) := restR_ne.1 (fun e => by
    have := congrArg List.length (show bys t = [] from e)
    rw [bys_size, List.length_nil] at this
    have := h.pos
    omega)
  unfold tokErr
  rw [if_pos (okText_of _ _ (Nat.le_refl _) h.valid)]
  unfold tokE
  rw [if_neg (by omega), if_neg (by omega)]
end Go.Proofs.YteigplfldhdakaaGreatDoor
/- rule: compare, Less, Check. -/
namespace Go.Proofs.YteigplfldhdakaaGreatDoor
open Go.RowKit Go.Shelf
attribute [local go_sem ↓] Go.wp_at_zero Go.wp_at_succ
set_option maxRecDepth 100000 in
set_option maxHeartbeats 2000000 in
theorem cmpR_c (a b : Blk) (w : World) : Calls Tryz.prog 54 #[blkV a, blkV b] w fun e w' => e = .returned (.int .i64 (cmpB a b)) ∧ Below w.heap.size w w' := by
  obtain ⟨af, at_, an⟩ := a
  obtain ⟨bf, bt, bn⟩ := b
  unfold blkV
  dsimp only
  obtain ⟨x, hx⟩ : ∃ x, cmpS af bf = x := ⟨_, rfl⟩
  obtain ⟨y, hy⟩ : ∃ y, cmpS at_ bt = y := ⟨_, rfl⟩
  have c1 : ∀ W, Calls Tryz.prog 95 #[.string af, .string bf] W fun e w' => e = .returned (.int .i64 x) ∧ w' = W := fun W => by rw [← hx]; exact cmps_c af bf W
  have c2 : ∀ W, Calls Tryz.prog 95 #[.string at_, .string bt] W fun e w' => e = .returned (.int .i64 y) ∧ w' = W := fun W => by rw [← hy]; exact cmps_c at_ bt W
  have HE : Hid (cmpB (af, at_, an) (bf, bt, bn) = orF [x, y]) := hid (by rw [cmpB, hx, hy])
  have C1 := hid c1
  have C2 := hid c2
  clear c1 c2 hx hy
  go_enter Tryz.func54, Tryz.ntmps54
  go_wp2
  obtain ⟨W, hW⟩ : ∃ W, (w.alloc (Obj.cells #[Value.string af, Value.string at_, Value.int IntKind.i64 an] 35)).alloc (Obj.cells #[Value.string bf, Value.string bt, Value.int IntKind.i64 bn] 35) = W := ⟨_, rfl⟩
  have hbW : Below w.heap.size w W := by rw [← hW]; exact balloc (balloc (Below.refl _ w) _) _
  have g0 := al2_0 w (Obj.cells #[Value.string af, Value.string at_, Value.int IntKind.i64 an] 35) (Obj.cells #[Value.string bf, Value.string bt, Value.int IntKind.i64 bn] 35)
  have g1 := al2_1 w (Obj.cells #[Value.string af, Value.string at_, Value.int IntKind.i64 an] 35) (Obj.cells #[Value.string bf, Value.string bt, Value.int IntKind.i64 bn] 35)
  rw [hW] at g0 g1 ⊢
  have a0 : W.cell? ⟨w.heap.size, 0, none⟩ = some (.string af) := by rw [cell_of_row W _ 0 _ _ _ g0]; rfl
  have a1 : W.cell? ⟨w.heap.size, 1, none⟩ = some (.string at_) := by rw [cell_of_row W _ 1 _ _ _ g0]; rfl
  have b0 : W.cell? ⟨w.heap.size + 1, 0, none⟩ = some (.string bf) := by rw [cell_of_row W _ 0 _ _ _ g1]; rfl
  have b1 : W.cell? ⟨w.heap.size + 1, 1, none⟩ = some (.string bt) := by rw [cell_of_row W _ 1 _ _ _ g1]; rfl
  have HB := hid hbW
  clear hbW g0 g1 hW
  refine wp_region_still_tail 10 (by kernel_rfl) (by kernel_rfl) ?_
  simp only [List.take_succ_cons, List.take_zero, List.drop_succ_cons, List.drop_zero]
  repeat still_step
  still_call (C1.out _)
  repeat still_step
  still_call (C2.out _)
  repeat still_step
  refine wpStill_nil ?_
  change wpList _ _ _ _ _ W.drew
  have HL := hid (SL.lit W.drew 3 1 2 #[.int .i64 x, .int .i64 y] rfl (by simp [maxLen]))
  have hor : Calls Tryz.prog 94 #[.slice (some ⟨W.heap.size, 0, none⟩) 2 2] (W.drew.alloc (.cells #[.int .i64 x, .int .i64 y] 3)) fun e w' => e = .returned (.int .i64 (orF [x, y])) ∧ w' = W.drew.alloc (.cells #[.int .i64 x, .int .i64 y] 3) := or_c (xs := [x, y]) HL.out
  have HOR := hid hor
  obtain ⟨z, hz⟩ : ∃ z, orF [x, y] = z := ⟨_, rfl⟩
  rw [hz] at HOR HE
  clear hor hz
  go_wp2_with (go_at_call 94; refine HOR.out.mono ?_; rintro e w1 ⟨rfl, rfl⟩)
  all_goals
    go_ret
    exact ⟨by rw [HE.out]; rfl, balloc HB.out.drew _⟩
set_option maxRecDepth 100000 in
set_option maxHeartbeats 2000000 in
theorem rless_c (a b : Blk) (w : World) : Calls Tryz.prog 93 #[blkV a, blkV b] w fun e w' => e = .returned (.bool (decide (cmpB a b < 0))) ∧ Below w.heap.size w w' := by
  obtain ⟨af, at_, an⟩ := a
  obtain ⟨bf, bt, bn⟩ := b
  have c1 := fun W => cmpR_c (af, at_, an) (bf, bt, bn) W
  obtain ⟨x, hx⟩ : ∃ x, cmpB (af, at_, an) (bf, bt, bn) = x := ⟨_, rfl⟩
  rw [hx] at c1 ⊢
  unfold blkV at c1 ⊢
  dsimp only at c1 ⊢
  have C1 := hid c1
  clear c1 hx
  have HB0 := hid (balloc (balloc (Below.refl _ w) (.cells #[.string af, .string at_, .int .i64 an] 35)) (.cells #[.string bf, .string bt, .int .i64 bn] 35))
  go_enter Tryz.func93, Tryz.ntmps93
  go_wp2_with (go_at_call 54; refine (C1.out _).mono ?_; rintro e w1 ⟨rfl, hb1⟩; have HB1 := hid (bthen HB0.out hb1); clear hb1)
  go_ret
  exact ⟨by simp, HB1.out⟩
/-- a lawful rule -/
def rokB (b : Blk) : Prop := chkB (b.1, b.2.1, 1) = 0 ∧ 1 ≤ b.2.2 ∧ b.2.2 ≤ 255 ∧ smallB b
set_option maxRecDepth 100000 in
set_option maxHeartbeats 2000000 in
theorem chkR_c (b : Blk) (hb : rokB b) (w : World) (hT : Tab w) : Calls Tryz.prog 139 #[blkV b] w fun e w' => e = .returned (.int .i64 0) ∧ Below w.heap.size w w' := by
  obtain ⟨f, t, n⟩ := b
  obtain ⟨h1, h2, h3, h4⟩ := hb
  dsimp only at h1 h2 h3
  have hc := fun W (hW : Below w.heap.size w W) => checkB_c (f, t, 1) h4 W (hT.bel hW)
  rw [h1] at hc
  unfold blkV at hc ⊢
  dsimp only at hc ⊢
  have HC := hid hc
  have hn1 : ¬ n < 1 := by omega
  have hn2 : ¬ n > 255 := by omega
  have hn3 : ¬ (255 : Int) < n := by omega
  clear hc h1
  have g0 := heap_alloc_new w (.cells #[.string f, .string t, .int .i64 n] 35)
  have HB0 := hid (balloc (Below.refl _ w) (.cells #[.string f, .string t, .int .i64 n] 35))
  have HG0 := hid g0
  clear g0
  go_enter Tryz.func139, Tryz.ntmps139
  go_wp2_with (go_at_call 97; refine (HC.out _ HB0.out).mono ?_; rintro e w1 ⟨rfl, hb1⟩; have HB1 := hid (bthen HB0.out hb1); obtain ⟨a0, a1, a2, -, -, -⟩ := row3 ((hb1.block _ (blk_lt HG0.out)).trans HG0.out); clear hb1)
  go_ret
  exact ⟨by simp, HB1.out⟩
end Go.Proofs.YteigplfldhdakaaGreatDoor
/- rule: wrong, Is, of lawful rules. -/
namespace Go.Proofs.YteigplfldhdakaaGreatDoor
open Go.RowKit Go.Shelf
attribute [local go_sem] Oper.semAt_some
/-- each lies behind all before it -/
def srtR (R : List Blk) : Prop := ∀ i j, i < j → j < R.length → cmpB (R.getD i blk0) (R.getD j blk0) < 0
set_option maxRecDepth 100000 in
set_option maxHeartbeats 2000000 in
theorem wrong1_in (n : Nat) (hn : 1 ≤ n) (lp Bn : Nat) (A : Option Addr) (c : Nat) (R : List Blk) (hl : R.length ≤ 1000000) (hR : ∀ b ∈ R, rokB b) (J : World → Prop) (hJ : ∀ A B, J A → Touch (fun _ => False) A B → J B)
    (W : World) (hT : Tab W) (hBn : W.heap[Bn]? = some (.cells #[.slice A R.length c] 29 (0, 0))) (hS : RuS W (.slice A R.length c) R) (h0 : J W) :
    CallsIn Fence.wide n Tryz.prog 138 #[.func (.yield lp) #[] #[], .pointer (some ⟨Bn, 0, none⟩)] W fun e W' => (∃ v, e = .returned v) ∧ J W' := by
  have HS := hid hS
  have HT := hid hT
  have HRO := hid hR
  have HB := hid hBn
  obtain ⟨b0, -⟩ := box_cell HB.out
  clear hS hT hR hBn
  refine callsIn_of_wp Tryz.func138 rfl trivial ?_ rfl
  simp only [Tryz.ntmps138, List.size_toArray, List.length_cons, List.length_nil, Nat.reduceAdd, Nat.reduceSub, Array.replicate_succ, Array.replicate_zero, List.push_toArray, List.append_toArray, List.nil_append, List.cons_append]
  gi_wp2
  refine wpIn_scope_straight ?_
  gi_wp2
  refine wpIn_label ?_
  gi_wp2
  gi_loopw [8] (fun iv wr => ∃ k : Nat, k ≤ R.length ∧ iv = .int .i64 (k : Int) ∧ Hid (Below W.heap.size W wr) ∧ J wr) (fun iv _ => R.length - (intOf iv).toNat)
  case atStart => exact ⟨0, Nat.zero_le _, rfl, hid (Below.refl _ _), h0⟩
  case round =>
    obtain ⟨k, hk, rfl, HBr, hJr⟩ := hrel
    clear b0 h0
    by_cases hkl : k < R.length
    · have hkl2 : (k : Int) < (R.length : Int) := by omega
      obtain ⟨g, off, rfl, hgl, k0, k1, k2⟩ := RuS.at3 (HS.out.below HBr.out) hkl
      obtain ⟨b, hb⟩ : ∃ b, R[k] = b := ⟨_, rfl⟩
      have hcc := fun W2 (hW : Below W.heap.size W W2) => chkR_c b (HRO.out b (by rw [← hb]; exact List.getElem_mem hkl)) W2 (HT.out.bel hW)
      rw [hb] at k0 k1 k2
      obtain ⟨f, t, m⟩ := b
      unfold blkV at hcc
      dsimp only at hcc k0 k1 k2
      have HC := hid hcc
      clear hcc hb
      gi_wp2_with (refine ⟨trivial, ?_⟩; gi_at_call 139; refine (callsIn_wide.2 (HC.out _ (balloc HBr.out _))).mono ?_; rintro e w1 ⟨rfl, hb1⟩; have HB1 := hid (bthen (balloc HBr.out _) hb1); have HJ1 := hJ _ _ hJr (Touch.of_below (n := wr.heap.size) (bthen (balloc (Below.refl _ wr) _) hb1) (Nat.le_refl _) |>.mono (fun _ h => h.elim)); clear hb1)
      refine ⟨fun f h => (by cases h), ?_⟩
      gi_wp2
      exact ⟨⟨k + 1, by omega, by simp, HB1, HJ1⟩, by simp [intOf]; omega⟩
    · have hkl2 : ¬ (k : Int) < (R.length : Int) := by omega
      gi_wp2
      go_end0
      exact ⟨⟨_, rfl⟩, hJr⟩
theorem wrong_seq (n : Nat) (hn : 1 ≤ n) (Bn : Nat) (A : Option Addr) (c : Nat) (R : List Blk) (hl : R.length ≤ 1000000) (hR : ∀ b ∈ R, rokB b) (w : World) (hT : Tab w) (hBn : w.heap[Bn]? = some (.cells #[.slice A R.length c] 29 (0, 0))) (hS : RuS w (.slice A R.length c) R) :
    SeqL Fence.wide n Tryz.prog 138 #[.pointer (some ⟨Bn, 0, none⟩)] (fun _ => #[.int .i64 0]) 0 (fun _ _ => False) (fun _ _ => False) w := fun l J Jx W hW hJ hJx hY h0 =>
  (wrong1_in n hn l Bn A c R hl hR (J 0) (fun A B => hJ 0 A B) W (hT.bel hW) ((hW.block Bn (blk_lt hBn)).trans hBn) (hS.below hW) h0).mono fun e W' ⟨h1, h2⟩ => ⟨h1, .inl h2⟩
set_option maxRecDepth 100000 in
set_option maxHeartbeats 1000000 in
theorem wrong_c (A : Option Addr) (n c : Nat) (w : World) : Calls Tryz.prog 92 #[.slice A n c] w fun e w' => e = .returned (.func (.func 138) #[] #[.pointer (some ⟨w.heap.size, 0, none⟩)]) ∧ w' = w.alloc (.cells #[.slice A n c] 29) := by
  go_enter Tryz.func92, Tryz.ntmps92
  go_wp2
  go_ret
  exact ⟨rfl, rfl⟩
def IsI (w : World) (_ : Nat) (W : World) : Prop := W.heap[w.heap.size]? = some (.cells #[.int .i64 0] 25 (0, 0)) ∧ Below w.heap.size w W
set_option maxRecDepth 100000 in
set_option maxHeartbeats 4000000 in
theorem is_c {w : World} {v : Value} {R : List Blk} (h : RuS w v R) (hR : ∀ b ∈ R, rokB b) (hs : srtR R) (hl : R.length ≤ 4096) (hT : Tab w) : Calls Tryz.prog 52 #[v] w fun e w' => e = .returned (.int .i64 0) ∧ Below w.heap.size w w' := by
  obtain ⟨A, c, rfl, hc⟩ := SL.form h
  have HS := hid h
  have HSR := hid hs
  refine (callsIn_wide (n := 6)).1 ?_
  refine callsIn_of_wp_marks Tryz.func52 rfl trivial ?_ rfl
  simp only [Tryz.ntmps52, List.size_toArray, List.length_cons, List.length_nil, Nat.reduceAdd, Nat.reduceSub, Array.replicate_succ, Array.replicate_zero, List.push_toArray, List.append_toArray, List.nil_append, List.cons_append]
  gi_wp2_with (refine ⟨trivial, ?_⟩; gi_at_call 92; refine (callsIn_wide.2 (wrong_c _ _ _ _)).mono ?_; rintro e w2 ⟨rfl, rfl⟩)
  obtain ⟨w3, hw3⟩ : ∃ w3, (w.alloc (.cells #[.int .i64 0] 25)).alloc (Obj.cells #[Value.slice A R.length c] 29) = w3 := ⟨_, rfl⟩
  have hb3 : Below w.heap.size w w3 := by rw [← hw3]; exact balloc (balloc (Below.refl _ w) _) _
  have hsz3 : w3.heap.size = w.heap.size + 2 := by rw [← hw3]; simp
  have h0c : w3.heap[w.heap.size]? = some (.cells #[.int .i64 0] 25 (0, 0)) := by rw [← hw3]; exact al2_0 _ _ _
  have hBn : w3.heap[w.heap.size + 1]? = some (.cells #[.slice A R.length c] 29 (0, 0)) := by rw [← hw3]; exact al2_1 _ _ _
  have e1 : (w.alloc (.cells #[.int .i64 0] 25)).heap.size = w.heap.size + 1 := by simp
  try rw [e1]
  try rw [hw3]
  refine wpIn_rangeL rfl (by omega) (gf := 138) (lb := #[.pointer (some ⟨w.heap.size + 1, 0, none⟩)]) rfl trivial (enters_of Tryz.func138 (by kernel_rfl) rfl)
    (wrong_seq 5 (by omega) (w.heap.size + 1) A c R (by omega) hR w3 (hT.bel hb3) hBn (HS.out.below hb3)) (Below.refl _ _) (fun _ => rfl) (fun k hk => hk.elim) (fun k hk => hk.elim)
    (IsI w) (fun _ _ _ => False) ?hI ?hIx ?h0 ?round ?done ?stop
  case hI =>
    rintro k X Y ⟨h1, h2⟩ hcs
    exact ⟨hcs.cells h1 (fun h => h), hcs.below h2 (by omega) (fun b hb h => h)⟩
  case hIx => exact fun _ _ _ _ h _ => h
  case h0 => exact ⟨h0c, hb3⟩
  case round => exact fun l k W hk => absurd hk (Nat.not_lt_zero _)
  case stop => exact fun _ _ _ _ _ _ h _ => h.elim
  case done =>
    rintro D W hD ⟨h1, h2⟩ hK
    have H1 := hid h1
    have H2 := hid h2
    have HK := hid hK
    have HD : w.heap.size + 2 ≤ D := by omega
    clear h1 h2 hK hD hBn h0c hb3 hsz3 hw3
    gi_wp2
    refine wpIn_wide.2 ?_
    go_loopw [11] (fun iv wr => ∃ (k : Nat), k ≤ R.length ∧ iv = .int .i64 (k : Int) ∧ Hid (Below w.heap.size w wr) ∧ Hid (wr.heap[w.heap.size]? = some (.cells #[.int .i64 0] 25 (0, 0))) ∧ Hid (wr.heap[D]? = some (.deferred (some [])))) (fun iv _ => R.length - (intOf iv).toNat)
    case atStart => exact ⟨0, Nat.zero_le _, rfl, H2, H1, HK⟩
    case round =>
      obtain ⟨k, hk, rfl, HB, HC, HKr⟩ := hrel
      by_cases hkl : k < R.length
      · have hkl2 : (k : Int) < (R.length : Int) := by omega
        by_cases hk0 : k = 0
        · subst hk0
          go_wp2
          go_quiet (fail)
          go_wp2
          exact ⟨⟨1, by omega, by simp, hid (Below.drewN' HB.out nq), hid HC.out, hid HKr.out⟩, by simp [intOf]; omega⟩
        · have hk1 : 0 < k := by omega
          have hk1b : decide (0 < k) = true := decide_eq_true hk1
          obtain ⟨g, off, rfl, hgl, k0, k1, k2⟩ := RuS.at3 (HS.out.below HB.out) hkl
          obtain ⟨p, hp⟩ : ∃ p, p + 1 = k := ⟨k - 1, by omega⟩
          have hpl : p < R.length := by omega
          obtain ⟨g', off', hA', hgl', j0, j1, j2⟩ := RuS.at3 (HS.out.below HB.out) (k := p) hpl
          cases hA'
          have hwr : IntKind.i64.wrap ((k : Int) - 1) = (p : Int) := by rw [IntKind.wrap_i64]; omega
          have hkl3 : (p : Int) < (R.length : Int) := by omega
          have hk00 : (0 : Int) ≤ (p : Int) := by omega
          have hcc := fun W => rless_c R[p] R[k] W
          have hlt := HSR.out p k (by omega) hkl
          rw [List.getD_eq_getElem?_getD, List.getD_eq_getElem?_getD, List.getElem?_eq_getElem hpl, List.getElem?_eq_getElem hkl] at hlt
          rw [decide_eq_true (show cmpB R[p] R[k] < 0 from hlt)] at hcc
          obtain ⟨x, hx⟩ : ∃ x, R[p] = x := ⟨_, rfl⟩
          obtain ⟨y, hy⟩ : ∃ x, R[k] = x := ⟨_, rfl⟩
          rw [hy] at k0 k1 k2
          rw [hx] at j0 j1 j2
          rw [hx, hy] at hcc
          unfold blkV at hcc
          have HCC := hid hcc
          obtain ⟨xf, xt, xn⟩ := x
          obtain ⟨yf, yt, yn⟩ := y
          dsimp only at k0 k1 k2 j0 j1 j2 HCC
          clear hcc hx hy hlt hp
          go_wp2
          go_region_held3 (fun w' => w'.cell? ⟨g, off + k * 3, none⟩ = some (.string yf) ∧ w'.cell? ⟨g, off + k * 3 + 1, none⟩ = some (.string yt) ∧ w'.cell? ⟨g, off + k * 3 + 2, none⟩ = some (.int .i64 yn) ∧ w'.cell? ⟨g, off + p * 3, none⟩ = some (.string xf) ∧ w'.cell? ⟨g, off + p * 3 + 1, none⟩ = some (.string xt) ∧ w'.cell? ⟨g, off + p * 3 + 2, none⟩ = some (.int .i64 xn))
            (first | exact ⟨k0, k1, k2, j0, j1, j2⟩ | exact ⟨p0, p1, p2, p3, p4, p5⟩ | go_keep)
            ((go_at_call 93; refine (HCC.out _).mono ?_; rintro e w1 ⟨rfl, hb1⟩; have HB2 := hid (bthen HB.out.drew hb1); have HC2 := hid ((hb1.block w.heap.size (blk_lt HC.out)).trans HC.out); have HK2 := hid ((hb1.block D (blk_lt HKr.out)).trans HKr.out); have p0 := (World.cell?_of_block (hb1.block g hgl)).trans k0; have p1 := (World.cell?_of_block (hb1.block g hgl)).trans k1; have p2 := (World.cell?_of_block (hb1.block g hgl)).trans k2; have p3 := (World.cell?_of_block (hb1.block g hgl)).trans j0; have p4 := (World.cell?_of_block (hb1.block g hgl)).trans j1; have p5 := (World.cell?_of_block (hb1.block g hgl)).trans j2; clear hb1))
          all_goals
            clear k0 k1 k2 j0 j1 j2 p0 p1 p2 p3 p4 p5
            go_wp2
            exact ⟨⟨k + 1, by omega, by simp, HB2, HC2, HK2⟩, by simp [intOf]; omega⟩
      · obtain rfl : k = R.length := by omega
        have h4i : ¬ (4096 : Int) < (R.length : Int) := by omega
        obtain ⟨e0, f0⟩ := box_cell HC.out
        go_wp2
        gi_wp2
        obtain ⟨X, hX⟩ : ∃ X, wr.setCell ⟨w.heap.size, 0, none⟩ (.int .i64 0) = X := ⟨_, rfl⟩
        have hK' : X.heap[D]? = some (Obj.deferred (some [])) := by rw [← hX]; exact set_other HKr.out (by omega) _ _
        have g0 : X.heap[w.heap.size]? = some (.cells #[.int .i64 0] 25 (0, 0)) := by rw [← hX]; exact box_set HC.out _
        have hbX : Below w.heap.size w X := by rw [← hX]; exact HB.out.setCell (by simp) _
        rw [hX]
        refine ⟨by simp, .inl ⟨_, _, rfl, run_takeDeferred hK', ?_⟩⟩
        refine ⟨_, results_cell1 (fn := Tryz.f52) rfl _ _ w.heap.size _ rfl (load25 (put_other g0 (by omega))), ?_⟩
        exact ⟨rfl, fin_below hbX (by omega)⟩
end Go.Proofs.YteigplfldhdakaaGreatDoor
/- rule: the search in sorted rules; Find. -/
namespace Go.Proofs.YteigplfldhdakaaGreatDoor
open Go.RowKit Go.Shelf
attribute [local go_sem ↓] Go.wp_at_zero Go.wp_at_succ
theorem getD_at {R : List Blk} {k : Nat} (h : k < R.length) : R.getD k blk0 = R[k] := by
  rw [List.getD_eq_getElem?_getD, List.getElem?_eq_getElem h]
  rfl
end Go.Proofs.YteigplfldhdakaaGreatDoor
