/- The walk of the law LogcostDoubles. -/
import Derived.Test.YtechbpcbccjppaaLogNext
namespace Go.Proofs.Ytechbpcbccjppaa
open Go.RowKit
theorem u8_range {x : Int} (h : (Lit.int .u8 x).wf = true) : 0 ≤ x ∧ x ≤ 255 := by
  have h2 : (decide (IntKind.u8.min ≤ x) && decide (x ≤ IntKind.u8.max)) = true := h
  rw [Bool.and_eq_true, decide_eq_true_eq, decide_eq_true_eq] at h2
  exact h2
theorem run_max2 (x y : Int) (w : World) : (Builtin.max_ #[27, 27] 27 #[.int .u32 x, .int .u32 y]).run Try.prog w = .ok (.int .u32 (max x y)) w := by
  have : (Builtin.max_ #[27, 27] 27 #[.int .u32 x, .int .u32 y]).run Try.prog w = .ok (.int .u32 (if y > x then y else x)) w := by
    simp [Builtin.max_, Builtin.max2]
  rw [this]
  congr 2
  split <;> omega
theorem run_min2 (x y : Int) (w : World) : (Builtin.min_ #[27, 27] 27 #[.int .u32 x, .int .u32 y]).run Try.prog w = .ok (.int .u32 (min x y)) w := by
  have : (Builtin.min_ #[27, 27] 27 #[.int .u32 x, .int .u32 y]).run Try.prog w = .ok (.int .u32 (if y < x then y else x)) w := by
    simp [Builtin.min_, Builtin.min2]
  rw [this]
  congr 2
  split <;> omega
set_option maxRecDepth 100000 in
set_option maxHeartbeats 1000000 in
theorem doubles_law (a b c : Int) (wa : (Lit.int .u32 a).wf = true) (wb : (Lit.int .u32 b).wf = true) (wc : (Lit.int .u8 c).wf = true) (w : World) :
    Calls Try.prog 4 #[.int .u32 a, .int .u32 b, .int .u8 c] w fun e w' => e = .returned (.bool true) ∧ Below w.heap.size w w' := by
  obtain ⟨ha, ha2⟩ := u32_range wa
  obtain ⟨hb, hb2⟩ := u32_range wb
  obtain ⟨hc, hc2⟩ := u8_range wc
  clear wa wb wc
  have HB := Below.refl w.heap.size w
  have M := fun w => run_max2 a b w
  have N := fun w => run_min2 a b w
  obtain ⟨x, hx⟩ : ∃ x, max a b = x := ⟨_, rfl⟩
  obtain ⟨y, hy⟩ : ∃ y, min a b = y := ⟨_, rfl⟩
  rw [hx] at M
  rw [hy] at N
  have x1 : y ≤ x := by omega
  have x2 : x ≤ 4294967295 := by omega
  have y0 : 0 ≤ y := by omega
  clear hx hy ha ha2 hb hb2
  by_cases hy1 : y < 1
  · go_enter Try.func4, Try.ntmps4
    go_wp2_with (first | (go_at_call 10; refine (alive_any _).mono ?_; rintro e w' ⟨rfl, hb⟩; replace HB := bthen HB hb; clear hb) | (go_at_call 11; refine (ratio_any _ _ _).mono ?_; rintro e w' ⟨rfl, hb⟩; replace HB := bthen HB hb; clear hb))
    go_ret
    exact ⟨rfl, HB⟩
  by_cases hx1 : 2147483648 < x
  · have e1 : ratioE x y = 2 := ratioE_no (by unfold NoRatio; omega)
    go_enter Try.func4, Try.ntmps4
    go_wp2_with (first | (go_at_call 10; refine (alive_any _).mono ?_; rintro e w' ⟨rfl, hb⟩; replace HB := bthen HB hb; clear hb) | (go_at_call 11; refine (ratio_any _ _ _).mono ?_; rintro e w' ⟨rfl, hb⟩; replace HB := bthen HB hb; clear hb))
    go_ret
    exact ⟨rfl, HB⟩
  have n1 : ¬ NoRatio x y := by unfold NoRatio; omega
  have n2 : ¬ NoRatio y y := by unfold NoRatio; omega
  have e1 := ratioE_yes n1
  have e2 := ratioE_yes n2
  have z1 := ratio_self (y := y) (by omega) (by omega)
  obtain ⟨k1, k2⟩ := ratio_range n1
  have hm1 : 0 ≤ (c + 1) * x := Int.mul_nonneg (by omega) (by omega)
  have hm2 : 0 ≤ (c + 1) * y := Int.mul_nonneg (by omega) (by omega)
  have hm3 : (c + 1) * y ≤ (c + 1) * x := Int.mul_le_mul_of_nonneg_left x1 (by omega)
  have hm4 : (c + 1) * x ≤ 256 * x := Int.mul_le_mul_of_nonneg_right (by omega) (by omega)
  have w1 : wrap64 ((c + 1) * x) = (c + 1) * x := IntWalk.wrap64_in _ ⟨by omega, by omega⟩
  have w2 : wrap64 ((c + 1) * y) = (c + 1) * y := IntWalk.wrap64_in _ ⟨by omega, by omega⟩
  by_cases h2 : 2 * x ≤ 2147483648
  · have d1 : (ratioK (2 * x) y != ratioK x y + 16) = false := by rw [ratio_double n1 h2]; simp
    have d2 : ratioE (2 * x) y = 0 := ratioE_yes (by unfold NoRatio; omega)
    by_cases h3 : (c + 1) * x ≤ 2147483648
    · obtain ⟨n3, t3⟩ := ratio_times n1 (m := c + 1) (by omega) h3
      have t1 : (ratioK ((c + 1) * x) ((c + 1) * y) != ratioK x y) = false := by rw [t3]; simp
      have t2 := ratioE_yes n3
      clear n1 n2 n3 t3
      go_enter Try.func4, Try.ntmps4
      go_wp2_with (first | (go_at_call 10; refine (alive_any _).mono ?_; rintro e w' ⟨rfl, hb⟩; replace HB := bthen HB hb; clear hb) | (go_at_call 11; refine (ratio_any _ _ _).mono ?_; rintro e w' ⟨rfl, hb⟩; replace HB := bthen HB hb; clear hb))
      go_ret
      exact ⟨rfl, HB⟩
    · clear n1 n2
      go_enter Try.func4, Try.ntmps4
      go_wp2_with (first | (go_at_call 10; refine (alive_any _).mono ?_; rintro e w' ⟨rfl, hb⟩; replace HB := bthen HB hb; clear hb) | (go_at_call 11; refine (ratio_any _ _ _).mono ?_; rintro e w' ⟨rfl, hb⟩; replace HB := bthen HB hb; clear hb))
      go_ret
      exact ⟨rfl, HB⟩
  · by_cases h3 : (c + 1) * x ≤ 2147483648
    · obtain ⟨n3, t3⟩ := ratio_times n1 (m := c + 1) (by omega) h3
      have t1 : (ratioK ((c + 1) * x) ((c + 1) * y) != ratioK x y) = false := by rw [t3]; simp
      have t2 := ratioE_yes n3
      clear n1 n2 n3 t3
      go_enter Try.func4, Try.ntmps4
      go_wp2_with (first | (go_at_call 10; refine (alive_any _).mono ?_; rintro e w' ⟨rfl, hb⟩; replace HB := bthen HB hb; clear hb) | (go_at_call 11; refine (ratio_any _ _ _).mono ?_; rintro e w' ⟨rfl, hb⟩; replace HB := bthen HB hb; clear hb))
      go_ret
      exact ⟨rfl, HB⟩
    · clear n1 n2
      go_enter Try.func4, Try.ntmps4
      go_wp2_with (first | (go_at_call 10; refine (alive_any _).mono ?_; rintro e w' ⟨rfl, hb⟩; replace HB := bthen HB hb; clear hb) | (go_at_call 11; refine (ratio_any _ _ _).mono ?_; rintro e w' ⟨rfl, hb⟩; replace HB := bthen HB hb; clear hb))
      go_ret
      exact ⟨rfl, HB⟩
end Go.Proofs.Ytechbpcbccjppaa
