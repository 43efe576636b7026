/- Plain: a number's bytes and what is read of bytes as a number. -/
import Derived.Test.YtlonmjmjmnondaaBseals
namespace Go.Proofs.Ytlonmjmjmnondaa
set_option linter.unusedVariables false
set_option linter.unusedSimpArgs false
open Go.RowKit
/-- what is read as a number is that number's bytes -/
theorem fst_enc : ∀ (l : List Int) (i m : Nat) (N K : Int), Bytes l → i ≤ 4 → fst i m l = (N, K, 0) →
    ∃ n k : Nat, N = ((m + n * 128 ^ i : Nat) : Int) ∧ K = ((i + k : Nat) : Int) ∧ 1 ≤ k ∧ i + k ≤ 5 ∧ k ≤ l.length ∧ encN n = l.take k ∧ (0 < i → 0 < n)
  | [], i, m, N, K, hb, hi, h => by simp [fst] at h
  | x :: r, i, m, N, K, hb, hi, h => by
    have hx := hb x (by simp)
    obtain ⟨b, rfl⟩ : ∃ b : Nat, x = b := ⟨x.toNat, by omega⟩
    by_cases h1 : 128 ≤ b ∧ i + 1 < 5
    · rw [fst_go h1.1 h1.2] at h
      obtain ⟨n, k, hN, hK, hk1, hk5, hkl, he, hn⟩ := fst_enc r (i + 1) _ N K (fun y hy => hb y (by simp [hy])) (by omega) h
      have hn0 := hn (by omega)
      refine ⟨b % 128 + 128 * n, k + 1, ?_, by rw [hK]; congr 1; omega, by omega, by omega, by simp; omega, ?_, fun _ => by omega⟩
      · rw [hN]
        congr 1
        rw [Nat.pow_succ, Nat.add_mul, Nat.add_assoc, Nat.mul_comm (128 ^ i) 128, Nat.mul_comm 128 n, Nat.mul_assoc]
      · rw [encN_ge (by omega), List.take_succ_cons, show (b % 128 + 128 * n) / 128 = n by omega, he, show (b % 128 + 128 * n) % 128 + 128 = b by omega]
    · by_cases h2 : b < 128 ∧ ¬ (0 < i ∧ b = 0) ∧ m + b % 128 * 128 ^ i ≤ 1073741824
      · rw [fst_ok h2.1 h2.2.1 h2.2.2] at h
        have hN := congrArg Prod.fst h
        have hK := congrArg (fun p => p.2.1) h
        simp only at hN hK
        refine ⟨b, 1, by rw [← hN, Nat.mod_eq_of_lt h2.1], hK.symm, by omega, by omega, by simp, by rw [encN_lt h2.1]; rfl, fun h3 => ?_⟩
        rcases Nat.eq_zero_or_pos b with h4 | h4
        · exact absurd ⟨h3, h4⟩ h2.2.1
        · exact h4
      · rw [fst_form (by omega)] at h
        have := congrArg (fun p => p.2.2) h
        simp at this
/-- and what is laid as a number is read as it -/
theorem fst_of_enc (r : List Int) : ∀ (b n i m : Nat), n < b → i + (encN n).length ≤ 5 → m + n * 128 ^ i ≤ 1073741824 → (0 < i → 0 < n) →
    fst i m (encN n ++ r) = (((m + n * 128 ^ i : Nat) : Int), ((i + (encN n).length : Nat) : Int), 0)
  | 0, n, _, _, h, _, _, _ => absurd h (Nat.not_lt_zero n)
  | b + 1, n, i, m, hb, hl, hm, h0 => by
    by_cases h : n < 128
    · rw [encN_lt h, List.cons_append, List.nil_append, fst_ok h (fun ⟨h1, h2⟩ => by have := h0 h1; omega) (by rw [Nat.mod_eq_of_lt h]; exact hm), Nat.mod_eq_of_lt h]
      rfl
    · have hp := encN_pos (n / 128)
      have e1 : m + n % 128 * 128 ^ i + n / 128 * 128 ^ (i + 1) = m + n * 128 ^ i := by
        rw [Nat.pow_succ, Nat.add_assoc]
        congr 1
        conv => rhs; rw [← Nat.mod_add_div n 128]
        rw [Nat.add_mul, Nat.mul_comm (128 ^ i) 128, ← Nat.mul_assoc, Nat.mul_comm (n / 128) 128]
      rw [encN_ge (by omega)] at hl ⊢
      rw [List.length_cons] at hl ⊢
      rw [List.cons_append, fst_go (by omega) (by omega), show (n % 128 + 128) % 128 = n % 128 by omega, fst_of_enc r b (n / 128) (i + 1) _ (by omega) (by omega) (by rw [e1]; exact hm) (fun _ => by omega), e1]
      congr 3
      omega
theorem fst_laid {n : Nat} (hn : n ≤ 1073741824) (r : List Int) : fst 0 0 (encN n ++ r) = ((n : Int), ((encN n).length : Int), 0) := by
  have h := fst_of_enc r (n + 1) n 0 0 (by omega) (by have := encN_five hn; omega) (by simpa using hn) (fun h => absurd h (by decide))
  simpa using h
end Go.Proofs.Ytlonmjmjmnondaa
