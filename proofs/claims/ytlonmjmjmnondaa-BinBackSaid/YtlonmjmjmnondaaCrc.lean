/- The check sum, plain: one step, a byte, all bytes; it is linear, and tells any change. -/
import Derived.Test.YtlonmjmjmnondaaBa
namespace Go.Proofs.Ytlonmjmjmnondaa
set_option linter.unusedVariables false
set_option linter.unusedSimpArgs false
def polyN : Nat := 3988292384
/-- halved; and if its lowest bit was 1, the polynomial's bits turned -/
def stp (n : Nat) : Nat := if n % 2 = 1 then n / 2 ^^^ polyN else n / 2
def stps : Nat → Nat → Nat
  | 0, n => n
  | k + 1, n => stps k (stp n)
theorem xor_div2 (a b : Nat) : (a ^^^ b) / 2 = a / 2 ^^^ b / 2 := by
  have h : ∀ n : Nat, n / 2 = n >>> 1 := fun n => by rw [Nat.shiftRight_eq_div_pow]
  rw [h, h, h, Nat.shiftRight_xor_distrib]
theorem xor_mod2 (a b : Nat) : (a ^^^ b) % 2 = (a % 2 + b % 2) % 2 := by
  have h := Nat.xor_mod_two_pow (a := a) (b := b) (n := 1)
  simp only [Nat.pow_one] at h
  rw [h]
  rcases (by omega : a % 2 = 0 ∨ a % 2 = 1) with h1 | h1 <;> rcases (by omega : b % 2 = 0 ∨ b % 2 = 1) with h2 | h2 <;> rw [h1, h2] <;> rfl
theorem stp_xor (a b : Nat) : stp (a ^^^ b) = stp a ^^^ stp b := by
  unfold stp
  rw [xor_div2, xor_mod2]
  rcases (by omega : a % 2 = 0 ∨ a % 2 = 1) with h1 | h1 <;> rcases (by omega : b % 2 = 0 ∨ b % 2 = 1) with h2 | h2 <;> rw [h1, h2]
  · simp
  · simp [Nat.xor_assoc]
  · simp only [Nat.add_zero, Nat.one_mod, if_true, Nat.zero_ne_one, if_false]
    rw [Nat.xor_assoc, Nat.xor_comm (b / 2), ← Nat.xor_assoc]
  · simp only [Nat.reduceAdd, Nat.mod_self, Nat.zero_ne_one, if_false, if_true]
    rw [show a / 2 ^^^ polyN ^^^ (b / 2 ^^^ polyN) = a / 2 ^^^ (polyN ^^^ (b / 2 ^^^ polyN)) from Nat.xor_assoc _ _ _, Nat.xor_comm polyN (b / 2 ^^^ polyN), Nat.xor_assoc (b / 2), Nat.xor_self, Nat.xor_zero]
theorem stps_xor : ∀ (k a b : Nat), stps k (a ^^^ b) = stps k a ^^^ stps k b
  | 0, _, _ => rfl
  | k + 1, a, b => by rw [stps, stps, stps, stp_xor, stps_xor k]
theorem stps_add : ∀ (j k n : Nat), stps (j + k) n = stps k (stps j n)
  | 0, k, n => by rw [Nat.zero_add]; rfl
  | j + 1, k, n => by rw [Nat.add_right_comm, stps, stps, stps_add j k]
theorem stp_even (n : Nat) : stp (2 * n) = n := by
  unfold stp
  rw [if_neg (by omega)]
  omega
theorem stps_pow : ∀ (k n : Nat), stps k (2 ^ k * n) = n
  | 0, n => by simp [stps]
  | k + 1, n => by
    rw [stps, show 2 ^ (k + 1) * n = 2 * (2 ^ k * n) by rw [Nat.pow_succ, Nat.mul_comm (2 ^ k) 2, Nat.mul_assoc], stp_even, stps_pow k]
theorem stp_lt {n : Nat} (h : n < 2 ^ 32) : stp n < 2 ^ 32 := by
  unfold stp
  split
  · exact Nat.xor_lt_two_pow (by omega) (by unfold polyN; omega)
  · omega
theorem stps_lt : ∀ (k n : Nat), n < 2 ^ 32 → stps k n < 2 ^ 32
  | 0, n, h => h
  | k + 1, n, h => stps_lt k _ (stp_lt h)
theorem stp_zero {n : Nat} (h : n < 2 ^ 32) (h0 : stp n = 0) : n = 0 := by
  unfold stp at h0
  split at h0
  · have h1 := Nat.xor_self polyN
    have h2 : n / 2 = polyN := by
      have := congrArg (· ^^^ polyN) h0
      simp only [Nat.xor_assoc, Nat.xor_self, Nat.xor_zero, Nat.zero_xor] at this
      exact this
    unfold polyN at h2
    omega
  · omega
theorem stps_zero : ∀ (k n : Nat), n < 2 ^ 32 → stps k n = 0 → n = 0
  | 0, n, _, h => h
  | k + 1, n, h, h0 => stp_zero h (stps_zero k _ (stp_lt h) h0)
theorem xor_eq_zero {a b : Nat} (h : a ^^^ b = 0) : a = b := by
  have := congrArg (· ^^^ b) h
  simp only [Nat.xor_assoc, Nat.xor_self, Nat.xor_zero, Nat.zero_xor] at this
  exact this
theorem stps_inj {k a b : Nat} (ha : a < 2 ^ 32) (hb : b < 2 ^ 32) (h : stps k a = stps k b) : a = b := by
  apply xor_eq_zero
  refine stps_zero k _ (Nat.xor_lt_two_pow ha hb) ?_
  rw [stps_xor, h, Nat.xor_self]
/-- a byte goes in -/
def byteIn (n x : Nat) : Nat := stps 8 (n ^^^ x)
theorem byteIn_lt {n x : Nat} (h : n < 2 ^ 32) (hx : x < 256) : byteIn n x < 2 ^ 32 := stps_lt 8 _ (Nat.xor_lt_two_pow h (by omega))
/-- by the table: the low byte's own steps, and the rest shifted -/
theorem byteIn_tab (n x : Nat) (hx : x < 256) : byteIn n x = stps 8 (n % 256 ^^^ x) ^^^ n / 256 := by
  have h : n = 256 * (n / 256) ^^^ n % 256 := by
    have h1 := Nat.two_pow_add_eq_or_of_lt (i := 8) (b := n % 256) (by omega) (n / 256)
    have h2 : 2 ^ 8 * (n / 256) + n % 256 = n := by omega
    rw [h2] at h1
    have h3 : 2 ^ 8 * (n / 256) &&& n % 256 = 0 := by
      apply Nat.eq_of_testBit_eq
      intro i
      rw [Nat.testBit_and, Nat.zero_testBit]
      rcases Nat.lt_or_ge i 8 with hi | hi
      · rw [Nat.testBit_two_pow_mul]
        simp [Nat.not_le.2 hi]
      · rw [Nat.testBit_lt_two_pow (x := n % 256) (i := i) (Nat.lt_of_lt_of_le (Nat.mod_lt n (by decide : 256 > 0)) (Nat.pow_le_pow_right (by decide) hi : 2 ^ 8 ≤ 2 ^ i))]
        simp
    apply Nat.eq_of_testBit_eq
    intro i
    have h4 := congrArg (Nat.testBit · i) h1
    have h5 := congrArg (Nat.testBit · i) h3
    simp only [Nat.testBit_or, Nat.testBit_and, Nat.testBit_xor, Nat.zero_testBit] at h4 h5 ⊢
    rw [show (256 : Nat) = 2 ^ 8 from rfl] at *
    rw [h4]
    revert h5
    cases (2 ^ 8 * (n / 2 ^ 8)).testBit i <;> cases (n % 2 ^ 8).testBit i <;> simp
  unfold byteIn
  conv => lhs; rw [h]
  rw [Nat.xor_assoc, stps_xor, show 256 * (n / 256) = 2 ^ 8 * (n / 256) from rfl, stps_pow, Nat.xor_comm]
def regN (n : Nat) (xs : List Int) : Nat := xs.foldl (fun n x => byteIn n x.toNat) n
def allOnes : Nat := 4294967295
def sumN (xs : List Int) : Nat := regN allOnes xs ^^^ allOnes
theorem regN_append (n : Nat) (xs ys : List Int) : regN n (xs ++ ys) = regN (regN n xs) ys := by simp [regN]
theorem regN_lt : ∀ (xs : List Int) (n : Nat), n < 2 ^ 32 → (∀ x ∈ xs, 0 ≤ x ∧ x ≤ 255) → regN n xs < 2 ^ 32
  | [], n, h, _ => h
  | x :: r, n, h, hx => by
    have h1 := hx x (by simp)
    exact regN_lt r _ (byteIn_lt h (by omega)) (fun y hy => hx y (by simp [hy]))
theorem sumN_lt {xs : List Int} (hx : ∀ x ∈ xs, 0 ≤ x ∧ x ≤ 255) : sumN xs < 2 ^ 32 := Nat.xor_lt_two_pow (regN_lt xs allOnes (by decide) hx) (by decide)
/-- a number as four bytes, the lowest first -/
def le4 (n : Nat) : List Int := [((n % 256 : Nat) : Int), ((n / 256 % 256 : Nat) : Int), ((n / 65536 % 256 : Nat) : Int), ((n / 16777216 % 256 : Nat) : Int)]
theorem le4_bytes (n : Nat) : ∀ x ∈ le4 n, 0 ≤ x ∧ x ≤ 255 := by
  intro x hx
  simp only [le4, List.mem_cons, List.not_mem_nil, or_false] at hx
  rcases hx with rfl | rfl | rfl | rfl <;> omega
end Go.Proofs.Ytlonmjmjmnondaa
