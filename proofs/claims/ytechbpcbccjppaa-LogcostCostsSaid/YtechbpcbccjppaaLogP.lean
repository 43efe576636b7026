/- Plain numbers: the ratio of two numbers as a function, and what it obeys. No program in sight. -/
import Derived.Test.YtechbpcbccjppaaLogN
namespace Go.Proofs.Ytechbpcbccjppaa
open Go.RowKit
/-- the numbers of which there is no ratio -/
def NoRatio (a b : Int) : Prop := b < 1 ∨ a < b ∨ 2147483648 < a
instance (a b : Int) : Decidable (NoRatio a b) := by unfold NoRatio; exact inferInstance
open Classical in
noncomputable def ratioK (a b : Int) : Int := if NoRatio a b then 0 else if h : ∃ k, IsRatio a b k then Classical.choose h else 0
def ratioE (a b : Int) : Int := if NoRatio a b then 2 else 0
theorem isRatio_unique {a b k m : Int} (hb : 1 ≤ b) (h : IsRatio a b k) (h' : IsRatio a b m) : k = m := by
  obtain ⟨h0, h1, h2⟩ := h
  obtain ⟨h0', h1', h2'⟩ := h'
  have hp : (0 : Int) < b ^ 16 := Int.pow_pos (by omega)
  have aux : ∀ p q : Nat, b ^ 16 * 2 ^ p < b ^ 16 * 2 ^ q → p < q := fun p q h => two_pow_lt (Int.lt_of_mul_lt_mul_left h (by omega))
  have e1 := aux _ _ (Int.lt_of_le_of_lt h1 h2')
  have e2 := aux _ _ (Int.lt_of_le_of_lt h1' h2)
  omega
theorem ratioK_no {a b : Int} (h : NoRatio a b) : ratioK a b = 0 := by unfold ratioK; rw [if_pos h]
theorem ratioE_no {a b : Int} (h : NoRatio a b) : ratioE a b = 2 := by unfold ratioE; rw [if_pos h]
theorem ratioE_yes {a b : Int} (h : ¬ NoRatio a b) : ratioE a b = 0 := by unfold ratioE; rw [if_neg h]
theorem ratioK_of {a b k : Int} (h : ¬ NoRatio a b) (hk : IsRatio a b k) : ratioK a b = k := by
  have hex : ∃ k, IsRatio a b k := ⟨k, hk⟩
  unfold ratioK
  rw [if_neg h, dif_pos hex]
  exact isRatio_unique (by unfold NoRatio at h; omega) (Classical.choose_spec hex) hk
theorem ratio_lit (a b k : Int) (h : decide (¬ NoRatio a b) = true) (h0 : 0 ≤ k) (h1 : decide (b ^ 16 * 2 ^ k.toNat ≤ a ^ 16) = true) (h2 : decide (a ^ 16 < b ^ 16 * 2 ^ (k.toNat + 1)) = true) : ratioK a b = k ∧ ratioE a b = 0 :=
  ⟨ratioK_of (of_decide_eq_true h) ⟨h0, of_decide_eq_true h1, of_decide_eq_true h2⟩, ratioE_yes (of_decide_eq_true h)⟩
theorem ratio_2_1 : ratioK 2 1 = 16 ∧ ratioE 2 1 = 0 := ratio_lit 2 1 16 (by decide +kernel) (by decide) (by decide +kernel) (by decide +kernel)
theorem ratio_3_2 : ratioK 3 2 = 9 ∧ ratioE 3 2 = 0 := ratio_lit 3 2 9 (by decide +kernel) (by decide) (by decide +kernel) (by decide +kernel)
theorem ratio_16_1 : ratioK 16 1 = 64 ∧ ratioE 16 1 = 0 := ratio_lit 16 1 64 (by decide +kernel) (by decide) (by decide +kernel) (by decide +kernel)
end Go.Proofs.Ytechbpcbccjppaa
