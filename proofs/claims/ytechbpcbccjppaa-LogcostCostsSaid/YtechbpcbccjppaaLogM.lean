/- Plain numbers: a number of nine words, lowest first (B: how many values a word has); what double, less and square of such a number come to. No program in sight. -/
import Derived.Test.YtechbpcbccjppaaLogA
namespace Go.Proofs.Ytechbpcbccjppaa
open Go.RowKit
/-- the number that the words below n make -/
def valTo (B : Int) (xs : List Int) : Nat → Int
  | 0 => 0
  | n + 1 => valTo B xs n + dg xs n * B ^ n
theorem valTo_succ (B : Int) (xs : List Int) (n : Nat) : valTo B xs (n + 1) = valTo B xs n + dg xs n * B ^ n := rfl
/-- all words are words -/
def InR (B : Int) (xs : List Int) : Prop := xs.length = 9 ∧ ∀ j, 0 ≤ dg xs j ∧ dg xs j < B
section
variable {B : Int} (hB : 0 < B)
include hB
theorem valTo_nonneg {xs : List Int} (h : InR B xs) : ∀ n, 0 ≤ valTo B xs n
  | 0 => by simp [valTo]
  | n + 1 => by
    have h1 := valTo_nonneg h n
    have h2 := Int.mul_nonneg (h.2 n).1 (Int.le_of_lt (Int.pow_pos hB) : 0 ≤ B ^ n)
    simp only [valTo]; omega
theorem valTo_lt {xs : List Int} (h : InR B xs) : ∀ n, valTo B xs n < B ^ n
  | 0 => by simp [valTo]
  | n + 1 => by
    have h1 := valTo_lt h n
    have h2 : (dg xs n + 1) * B ^ n ≤ B * B ^ n := Int.mul_le_mul_of_nonneg_right (by have := (h.2 n).2; omega) (Int.le_of_lt (Int.pow_pos hB))
    simp only [valTo, Int.pow_succ]
    rw [Int.mul_comm B, Int.add_mul] at h2
    generalize B ^ n = p at *
    omega
end
theorem valTo_congr {B : Int} {xs ys : List Int} : ∀ n, (∀ j, j < n → dg xs j = dg ys j) → valTo B xs n = valTo B ys n
  | 0, _ => rfl
  | n + 1, h => by simp only [valTo]; rw [valTo_congr n (fun j hj => h j (by omega)), h n (by omega)]
theorem valTo_set {B : Int} (xs : List Int) (i : Nat) (v : Int) (hi : i < xs.length) : ∀ n, n ≤ xs.length → valTo B (xs.set i v) n = if i < n then valTo B xs n + (v - dg xs i) * B ^ i else valTo B xs n
  | 0, _ => by simp [valTo]
  | n + 1, hn => by
    have ih := valTo_set (B := B) xs i v hi n (by omega)
    simp only [valTo, ih, dg_set]
    by_cases h1 : i < n
    · rw [if_pos h1, if_neg (by omega), if_pos (by omega)]; generalize (v - dg xs i) * B ^ i = p; omega
    · by_cases h2 : i = n
      · subst h2
        rw [if_neg h1, if_pos ⟨rfl, hi⟩, if_pos (by omega), Int.sub_mul]; omega
      · rw [if_neg h1, if_neg (by omega), if_neg (by omega)]
theorem valTo_high {B : Int} (xs : List Int) (m : Nat) : ∀ n, ∃ r, valTo B xs (m + n) = valTo B xs m + r * B ^ m
  | 0 => ⟨0, by simp⟩
  | n + 1 => by
    obtain ⟨r, hr⟩ := valTo_high (B := B) xs m n
    refine ⟨r + dg xs (m + n) * B ^ n, ?_⟩
    rw [← Nat.add_assoc]
    simp only [valTo, hr, Int.pow_add, Int.add_mul, Int.mul_assoc]
    rw [Int.mul_comm (B ^ m) (B ^ n), Int.add_assoc]
/-! ### less -/
def lessTo (xs ys : List Int) : Nat → Bool
  | 0 => false
  | k + 1 => if dg xs k = dg ys k then lessTo xs ys k else decide (dg xs k < dg ys k)
theorem less_step {p vx vy a b : Int} (hp : 0 < p) (lx : vx < p) (ly : vy < p) (nx : 0 ≤ vx) (ny : 0 ≤ vy) : (if a = b then decide (vx < vy) else decide (a < b)) = decide (vx + a * p < vy + b * p) := by
  by_cases h : a = b
  · rw [if_pos h, h]
    by_cases h2 : vx < vy
    · rw [decide_eq_true h2, decide_eq_true (by omega)]
    · rw [decide_eq_false h2, decide_eq_false (by omega)]
  · rw [if_neg h]
    by_cases h2 : a < b
    · have h3 : (a + 1) * p ≤ b * p := Int.mul_le_mul_of_nonneg_right (by omega) (Int.le_of_lt hp)
      rw [Int.add_mul] at h3
      rw [decide_eq_true h2, decide_eq_true (by omega)]
    · have h3 : (b + 1) * p ≤ a * p := Int.mul_le_mul_of_nonneg_right (by omega) (Int.le_of_lt hp)
      rw [Int.add_mul] at h3
      rw [decide_eq_false h2, decide_eq_false (by omega)]
theorem lessTo_iff {B : Int} (hB : 0 < B) {xs ys : List Int} (hx : InR B xs) (hy : InR B ys) : ∀ n, lessTo xs ys n = decide (valTo B xs n < valTo B ys n)
  | 0 => by simp [lessTo, valTo]
  | n + 1 => by
    have ih := lessTo_iff hB hx hy n
    have lx := valTo_lt hB hx n
    have ly := valTo_lt hB hy n
    have nx := valTo_nonneg hB hx n
    have ny := valTo_nonneg hB hy n
    have hp : 0 < B ^ n := Int.pow_pos hB
    simp only [lessTo, valTo]
    rw [ih]
    exact less_step hp lx ly nx ny
/-! ### double -/
def dblC (xs : List Int) : Nat → Int
  | 0 => 0
  | k + 1 => dg xs k / 9223372036854775808
def dblD (xs : List Int) (k : Nat) : Int := bits BinOp.or IntKind.u64 (IntKind.u64.wrap (dg xs k * 2)) (dblC xs k)
abbrev B64 : Int := 18446744073709551616
theorem dblC_bit {xs : List Int} (h : InR B64 xs) (k : Nat) : dblC xs k = 0 ∨ dblC xs k = 1 := by
  cases k with
  | zero => exact .inl rfl
  | succ k =>
    have := h.2 k
    simp only [B64] at this
    simp only [dblC]; omega
theorem dblD_eq {xs : List Int} (h : InR B64 xs) (k : Nat) : dblD xs k = dg xs k * 2 % B64 + dblC xs k := by
  have hk := h.2 k
  unfold dblD
  have hw : IntKind.u64.wrap (dg xs k * 2) = dg xs k * 2 % 18446744073709551616 := by rfl
  rw [hw]
  have hc := dblC_bit h k
  simp only [B64]
  exact bits_join .u64 64 (by decide) (fun n h0 h1 => by show n % 18446744073709551616 = n; omega) 1 _ _ (by omega) (by omega) (by omega) (by omega) (by omega) (by omega)
theorem dbl_val {xs ys : List Int} (h : InR B64 xs) (hd : ∀ j, j < 9 → dg ys j = dblD xs j) : ∀ n, n ≤ 9 → valTo B64 ys n + dblC xs n * B64 ^ n = 2 * valTo B64 xs n
  | 0, _ => by simp [valTo, dblC]
  | n + 1, hn => by
    have ih := dbl_val h hd n (by omega)
    have e := dblD_eq h n
    have hk := h.2 n
    have e2 : dg xs n * 2 = dg xs n * 2 % B64 + dblC xs (n + 1) * B64 := by
      simp only [dblC, B64] at hk ⊢; omega
    simp only [valTo, hd n (by omega), e, Int.pow_succ]
    generalize dg xs n * 2 % B64 = m at *
    generalize dblC xs (n + 1) = c1 at *
    generalize B64 = B at *
    generalize B ^ n = p at *
    generalize dg xs n = a at *
    generalize dblC xs n = c0 at *
    generalize valTo B ys n = vy at *
    generalize valTo B xs n = vx at *
    have h3 : a * 2 * p = (m + c1 * B) * p := by rw [e2]
    grind
/-! ### square -/
def hiP (x y : Int) : Int := x * y / 18446744073709551616
def loP (x y : Int) : Int := x * y % 18446744073709551616
def sumL (x y : Int) : Int := (x + y) % 18446744073709551616
def sumH (x y : Int) : Int := (x + y) / 18446744073709551616
/-- what a step of the inner round leaves in the word, and carries -/
def sqNew (o lo c : Int) : Int := sumL o (sumL lo c)
def sqCarry (o hi lo c : Int) : Int := IntKind.u64.wrap (IntKind.u64.wrap (hi + sumH lo c) + sumH o (sumL lo c))
/-- the inner round's relation -/
def SqIn (xs : List Int) (i k : Nat) (out : List Int) (c : Int) : Prop :=
  InR B64 out ∧ 0 ≤ c ∧ c < B64 ∧ ∃ q, valTo B64 out 9 + c * B64 ^ (i + k) = valTo B64 xs i * valTo B64 xs 9 + dg xs i * B64 ^ i * valTo B64 xs k + q * B64 ^ 9
def SqOut (xs : List Int) (i : Nat) (out : List Int) : Prop :=
  InR B64 out ∧ ∃ q, valTo B64 out 9 = valTo B64 xs i * valTo B64 xs 9 + q * B64 ^ 9
theorem sqOut_zero (xs : List Int) : SqOut xs 0 (List.replicate 9 0) := by
  have hz : ∀ j, dg (List.replicate 9 0) j = 0 := fun j => by
    unfold dg
    rw [List.getD_eq_getElem?_getD, List.getElem?_replicate]
    split <;> rfl
  have hv : ∀ n, valTo B64 (List.replicate 9 0) n = 0 := fun n => by
    induction n with
    | zero => rfl
    | succ n ih => simp only [valTo, ih, hz]; omega
  exact ⟨⟨by simp, fun j => by rw [hz]; simp only [B64]; omega⟩, 0, by rw [hv]; simp [valTo]⟩
theorem sqIn_zero {xs out : List Int} {i : Nat} (h : SqOut xs i out) : SqIn xs i 0 out 0 := by
  obtain ⟨hr, q, hq⟩ := h
  exact ⟨hr, by omega, by simp only [B64]; omega, q, by rw [hq]; simp [valTo]⟩
theorem sqOut_next {xs out : List Int} {i : Nat} {c : Int} (hi : i < 9) (h : SqIn xs i (9 - i) out c) : SqOut xs (i + 1) out := by
  obtain ⟨hr, -, -, q, hq⟩ := h
  obtain ⟨r, hh⟩ := valTo_high (B := B64) xs (9 - i) i
  rw [show 9 - i + i = 9 by omega] at hh
  rw [show i + (9 - i) = 9 by omega] at hq
  have hp : B64 ^ i * B64 ^ (9 - i) = B64 ^ 9 := by rw [← Int.pow_add, show i + (9 - i) = 9 by omega]
  refine ⟨hr, q - c - dg xs i * r, ?_⟩
  rw [valTo_succ B64 xs i]
  generalize B64 ^ (9 - i) = p2 at *
  generalize B64 ^ i = p1 at *
  generalize B64 ^ 9 = p at *
  generalize valTo B64 xs 9 = X at *
  generalize valTo B64 xs i = Xi at *
  generalize valTo B64 xs (9 - i) = Y at *
  generalize valTo B64 out 9 = O at *
  generalize dg xs i = a at *
  subst hh
  subst hp
  grind
theorem sq_arith {x y o c : Int} (hx : 0 ≤ x ∧ x < B64) (hy : 0 ≤ y ∧ y < B64) (ho : 0 ≤ o ∧ o < B64) (hc : 0 ≤ c ∧ c < B64) :
    sqNew o (loP x y) c + B64 * sqCarry o (hiP x y) (loP x y) c = o + c + x * y ∧ 0 ≤ sqNew o (loP x y) c ∧ sqNew o (loP x y) c < B64 ∧ 0 ≤ sqCarry o (hiP x y) (loP x y) c ∧ sqCarry o (hiP x y) (loP x y) c < B64 := by
  have h1 : 0 ≤ x * y := Int.mul_nonneg hx.1 hy.1
  have h2 : x * y ≤ (B64 - 1) * (B64 - 1) := Int.mul_le_mul (by omega) (by omega) hy.1 (by simp only [B64]; omega)
  unfold sqNew sqCarry sumL sumH hiP loP
  have hw : ∀ z : Int, IntKind.u64.wrap z = z % 18446744073709551616 := fun _ => rfl
  simp only [hw, B64] at *
  generalize x * y = m at *
  omega
theorem sqIn_next {xs out : List Int} {i k : Nat} {c : Int} (hxs : InR B64 xs) (hk : i + k < 9) (h : SqIn xs i k out c) :
    SqIn xs i (k + 1) (out.set (i + k) (sqNew (dg out (i + k)) (loP (dg xs i) (dg xs k)) c)) (sqCarry (dg out (i + k)) (hiP (dg xs i) (dg xs k)) (loP (dg xs i) (dg xs k)) c) := by
  obtain ⟨hr, hc0, hc1, q, hq⟩ := h
  obtain ⟨e, n0, n1, c0, c1⟩ := sq_arith (hxs.2 i) (hxs.2 k) (hr.2 (i + k)) ⟨hc0, hc1⟩
  refine ⟨⟨by simp [hr.1], fun j => ?_⟩, c0, c1, q, ?_⟩
  · rw [dg_set]
    split
    · exact ⟨n0, n1⟩
    · exact hr.2 j
  · rw [valTo_set _ _ _ (by rw [hr.1]; omega) 9 (by rw [hr.1]; omega), if_pos hk, ← Nat.add_assoc, Int.pow_succ]
    rw [valTo_succ B64 xs k]
    have hp : B64 ^ (i + k) = B64 ^ i * B64 ^ k := Int.pow_add _ _ _
    generalize sqNew (dg out (i + k)) (loP (dg xs i) (dg xs k)) c = nw at *
    generalize sqCarry (dg out (i + k)) (hiP (dg xs i) (dg xs k)) (loP (dg xs i) (dg xs k)) c = cr at *
    generalize B64 ^ (i + k) = p at *
    generalize B64 ^ i = p1 at *
    generalize B64 ^ k = p2 at *
    generalize B64 ^ 9 = p9 at *
    generalize valTo B64 xs 9 = X at *
    generalize valTo B64 xs i = Xi at *
    generalize valTo B64 xs k = Xk at *
    generalize valTo B64 out 9 = O at *
    generalize dg xs i = a at *
    generalize dg xs k = b at *
    generalize dg out (i + k) = o at *
    generalize B64 = B at *
    have e3 : (nw + B * cr) * p = (o + c + a * b) * p := by rw [e]
    clear hr hxs
    subst hp
    grind
theorem sq_val {xs out : List Int} (hxs : InR B64 xs) (h : SqOut xs 9 out) (hb : valTo B64 xs 9 * valTo B64 xs 9 < B64 ^ 9) : valTo B64 out 9 = valTo B64 xs 9 * valTo B64 xs 9 := by
  obtain ⟨hr, q, hq⟩ := h
  have h1 := valTo_lt (B := B64) (by simp only [B64]; omega) hr 9
  have h2 := valTo_nonneg (B := B64) (by simp only [B64]; omega) hr 9
  have h3 := valTo_nonneg (B := B64) (by simp only [B64]; omega) hxs 9
  have h4 : 0 ≤ valTo B64 xs 9 * valTo B64 xs 9 := Int.mul_nonneg h3 h3
  have hp : (0 : Int) < B64 ^ 9 := Int.pow_pos (by simp only [B64]; omega)
  generalize valTo B64 xs 9 * valTo B64 xs 9 = s at *
  generalize valTo B64 out 9 = t at *
  generalize B64 ^ 9 = p at *
  have : q = 0 := by
    rcases Int.lt_trichotomy q 0 with hq0 | hq0 | hq0
    · have : q * p ≤ (-1) * p := Int.mul_le_mul_of_nonneg_right (by omega) (by omega)
      omega
    · exact hq0
    · have : 1 * p ≤ q * p := Int.mul_le_mul_of_nonneg_right (by omega) (by omega)
      omega
  subst this
  omega
end Go.Proofs.Ytechbpcbccjppaa
