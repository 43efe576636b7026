/- Plain numbers: what a ratio obeys: doubled, multiplied, between three numbers, in order. No program in sight. -/
import Derived.Test.YtechbpcbccjppaaLogP
namespace Go.Proofs.Ytechbpcbccjppaa
open Go.RowKit
theorem pow_le_left {p q : Int} (h0 : 0 ≤ p) (h : p ≤ q) : ∀ n : Nat, p ^ n ≤ q ^ n
  | 0 => by simp
  | n + 1 => by
    rw [Int.pow_succ, Int.pow_succ]
    exact Int.mul_le_mul (pow_le_left h0 h n) h h0 (Int.pow_nonneg (by omega))
theorem ratio_ex_aux (A B : Int) (h1 : B ≤ A) : ∀ n : Nat, A < B * 2 ^ n → ∃ k : Nat, B * 2 ^ k ≤ A ∧ A < B * 2 ^ (k + 1)
  | 0, h => by rw [Int.pow_zero] at h; omega
  | n + 1, h => by
    by_cases h2 : A < B * 2 ^ n
    · exact ratio_ex_aux A B h1 n h2
    · exact ⟨n, by omega, h⟩
theorem lt_two_pow' (n : Nat) : (n : Int) < 2 ^ n := by
  have := Nat.lt_two_pow_self (n := n)
  exact_mod_cast this
theorem ratio_ex {a b : Int} (h : ¬ NoRatio a b) : ∃ k, IsRatio a b k := by
  unfold NoRatio at h
  have hb : (0 : Int) < b ^ 16 := Int.pow_pos (by omega)
  have hab : b ^ 16 ≤ a ^ 16 := pow_le_left (by omega) (by omega) 16
  have hA : a ^ 16 < b ^ 16 * 2 ^ (a ^ 16).toNat := by
    have h1 := lt_two_pow' (a ^ 16).toNat
    have h2 : 1 * 2 ^ (a ^ 16).toNat ≤ b ^ 16 * 2 ^ (a ^ 16).toNat := Int.mul_le_mul_of_nonneg_right (by omega) (Int.le_of_lt (two_pow_pos _))
    omega
  obtain ⟨k, h1, h2⟩ := ratio_ex_aux _ _ hab _ hA
  exact ⟨k, by omega, by simpa using h1, by simpa using h2⟩
theorem ratio_is {a b : Int} (h : ¬ NoRatio a b) : IsRatio a b (ratioK a b) := by
  obtain ⟨k, hk⟩ := ratio_ex h
  rw [ratioK_of h hk]; exact hk
theorem pow16_le {p q : Int} (h0 : 0 ≤ p) (h : p ≤ q) : p ^ 16 ≤ q ^ 16 := pow_le_left h0 h 16
theorem pow16_lt {p q : Int} (h0 : 0 ≤ p) (h : p < q) : p ^ 16 < q ^ 16 := by
  have h1 := pow16_le (p := p + 1) (q := q) (by omega) (by omega)
  have h2 : p ^ 15 ≤ (p + 1) ^ 15 := pow_le_left h0 (by omega) 15
  have h3 : (0 : Int) < (p + 1) ^ 15 := Int.pow_pos (by omega)
  have h4 : p ^ 16 = p ^ 15 * p := Int.pow_succ _ _
  have h5 : (p + 1) ^ 16 = (p + 1) ^ 15 * (p + 1) := Int.pow_succ _ _
  have h6 : p ^ 15 * p ≤ (p + 1) ^ 15 * p := Int.mul_le_mul_of_nonneg_right h2 h0
  rw [Int.mul_add] at h5
  omega
theorem ratio_mono {a a' b b' : Int} (h : ¬ NoRatio a b) (h' : ¬ NoRatio a' b') (ha : a ≤ a') (hb : b' ≤ b) : ratioK a b ≤ ratioK a' b' := by
  have i := ratio_is h
  have i' := ratio_is h'
  unfold NoRatio at h h'
  generalize ratioK a b = k at *
  generalize ratioK a' b' = k' at *
  obtain ⟨k0, k1, k2⟩ := i
  obtain ⟨k0', k1', k2'⟩ := i'
  have e1 := pow16_le (p := b') (q := b) (by omega) hb
  have e2 := pow16_le (p := a) (q := a') (by omega) ha
  have e3 : b' ^ 16 * 2 ^ k.toNat ≤ b ^ 16 * 2 ^ k.toNat := Int.mul_le_mul_of_nonneg_right e1 (Int.le_of_lt (two_pow_pos _))
  have hp : (0 : Int) < b' ^ 16 := Int.pow_pos (by omega)
  have e4 : b' ^ 16 * 2 ^ k.toNat < b' ^ 16 * 2 ^ (k'.toNat + 1) := by omega
  have := two_pow_lt (Int.lt_of_mul_lt_mul_left e4 (by omega))
  omega
theorem ratio_self {y : Int} (h1 : 1 ≤ y) (h2 : y ≤ 2147483648) : ratioK y y = 0 := by
  have hp : (0 : Int) < y ^ 16 := Int.pow_pos (by omega)
  exact ratioK_of (by unfold NoRatio; omega) ⟨by omega, by simp, by rw [show (0 : Int).toNat + 1 = 1 from rfl]; omega⟩
theorem ratio_double {x y : Int} (h : ¬ NoRatio x y) (h2 : 2 * x ≤ 2147483648) : ratioK (2 * x) y = ratioK x y + 16 := by
  obtain ⟨k0, k1, k2⟩ := ratio_is h
  unfold NoRatio at h
  refine ratioK_of (by unfold NoRatio; omega) ⟨by omega, ?_, ?_⟩
  · rw [Int.mul_pow, show (ratioK x y + 16).toNat = 16 + (ratioK x y).toNat by omega, Int.pow_add, ← Int.mul_assoc, Int.mul_comm (y ^ 16), Int.mul_assoc]
    exact Int.mul_le_mul_of_nonneg_left k1 (by decide +kernel)
  · rw [Int.mul_pow, show (ratioK x y + 16).toNat + 1 = 16 + ((ratioK x y).toNat + 1) by omega, Int.pow_add, ← Int.mul_assoc, Int.mul_comm (y ^ 16), Int.mul_assoc]
    exact Int.mul_lt_mul_of_pos_left k2 (by decide +kernel)
theorem ratio_times {x y m : Int} (h : ¬ NoRatio x y) (hm : 1 ≤ m) (h2 : m * x ≤ 2147483648) : ¬ NoRatio (m * x) (m * y) ∧ ratioK (m * x) (m * y) = ratioK x y := by
  obtain ⟨k0, k1, k2⟩ := ratio_is h
  unfold NoRatio at h
  have hp : (0 : Int) < m ^ 16 := Int.pow_pos (by omega)
  have e1 : m * y ≤ m * x := Int.mul_le_mul_of_nonneg_left (by omega) (by omega)
  have e2 : m * 1 ≤ m * y := Int.mul_le_mul_of_nonneg_left (by omega) (by omega)
  have hn : ¬ NoRatio (m * x) (m * y) := by unfold NoRatio; omega
  refine ⟨hn, ratioK_of hn ⟨k0, ?_, ?_⟩⟩
  · rw [Int.mul_pow, Int.mul_pow, Int.mul_assoc]; exact Int.mul_le_mul_of_nonneg_left k1 (by omega)
  · rw [Int.mul_pow, Int.mul_pow, Int.mul_assoc]; exact Int.mul_lt_mul_of_pos_left k2 hp
theorem ratio_range {x y : Int} (h : ¬ NoRatio x y) : 0 ≤ ratioK x y ∧ ratioK x y ≤ 496 := by
  obtain ⟨k0, k1, k2⟩ := ratio_is h
  unfold NoRatio at h
  generalize ratioK x y = k at *
  have hp : (0 : Int) < y ^ 16 := Int.pow_pos (by omega)
  have hx : x ^ 16 ≤ 2 ^ 496 := pow_bound (by omega) (by omega) 16
  have h5 : 1 * 2 ^ k.toNat ≤ y ^ 16 * 2 ^ k.toNat := Int.mul_le_mul_of_nonneg_right (by omega) (Int.le_of_lt (two_pow_pos _))
  have h9 : (2 : Int) ^ 496 < 2 ^ 497 := by decide +kernel
  have := two_pow_lt (m := k.toNat) (n := 497) (by omega)
  omega
theorem ratio_parts {x y z : Int} (h : ¬ NoRatio x y) (h' : ¬ NoRatio y z) : ¬ NoRatio x z ∧ (ratioK x z = ratioK x y + ratioK y z ∨ ratioK x z = ratioK x y + ratioK y z + 1) ∧ ratioK y z ≤ ratioK x z ∧ ratioK x y ≤ ratioK x z := by
  have hn : ¬ NoRatio x z := by unfold NoRatio at *; omega
  have i1 := ratio_is h
  have i2 := ratio_is h'
  have i3 := ratio_is hn
  unfold NoRatio at *
  generalize ratioK x y = k at *
  generalize ratioK y z = m at *
  generalize ratioK x z = n at *
  obtain ⟨k0, k1, k2⟩ := i1
  obtain ⟨m0, m1, m2⟩ := i2
  obtain ⟨n0, n1, n2⟩ := i3
  have hz : (0 : Int) < z ^ 16 := Int.pow_pos (by omega)
  have e1 : z ^ 16 * 2 ^ m.toNat * 2 ^ k.toNat ≤ y ^ 16 * 2 ^ k.toNat := Int.mul_le_mul_of_nonneg_right m1 (Int.le_of_lt (two_pow_pos _))
  have e2 : y ^ 16 * 2 ^ (k.toNat + 1) < z ^ 16 * 2 ^ (m.toNat + 1) * 2 ^ (k.toNat + 1) := Int.mul_lt_mul_of_pos_right m2 (two_pow_pos _)
  rw [Int.mul_assoc, ← Int.pow_add] at e1 e2
  have e3 : z ^ 16 * 2 ^ (m.toNat + k.toNat) < z ^ 16 * 2 ^ (n.toNat + 1) := by omega
  have e4 : z ^ 16 * 2 ^ n.toNat < z ^ 16 * 2 ^ (m.toNat + 1 + (k.toNat + 1)) := by omega
  have f3 := two_pow_lt (Int.lt_of_mul_lt_mul_left e3 (by omega))
  have f4 := two_pow_lt (Int.lt_of_mul_lt_mul_left e4 (by omega))
  omega
theorem ratio_next {x y : Int} (h1 : 1 ≤ y) (h2 : y ≤ x) (h3 : x ≤ 2 * y) (h4 : x ≤ 2147483648) : ratioK x y ≤ 16 ∧ (ratioK x y = 16 ↔ x = 2 * y) := by
  obtain ⟨k0, k1, k2⟩ := ratio_is (a := x) (b := y) (by unfold NoRatio; omega)
  have e := pow16_le (p := x) (q := 2 * y) (by omega) h3
  have hy : (0 : Int) < y ^ 16 := Int.pow_pos (by omega)
  have h16 : (2 : Int) ^ 16 = 65536 := by decide +kernel
  have hm : (2 * y) ^ 16 = y ^ 16 * 2 ^ 16 := by rw [Int.mul_pow, Int.mul_comm]
  generalize ratioK x y = k at *
  have f := two_pow_lt (m := k.toNat) (n := 17) (Int.lt_of_mul_lt_mul_left (a := y ^ 16) (by
    have : (2 : Int) ^ 17 = 131072 := by decide +kernel
    rw [hm, h16] at e
    rw [this]
    omega) (by omega))
  refine ⟨by omega, fun hk => ?_, fun hx => ?_⟩
  · subst hk
    rw [show (16 : Int).toNat = 16 from rfl, ← hm] at k1
    rcases Int.lt_or_le x (2 * y) with h | h
    · have := pow16_lt (p := x) (q := 2 * y) (by omega) h; omega
    · omega
  · subst hx
    rw [hm] at k2
    have := two_pow_lt (Int.lt_of_mul_lt_mul_left k2 (by omega))
    omega
end Go.Proofs.Ytechbpcbccjppaa
