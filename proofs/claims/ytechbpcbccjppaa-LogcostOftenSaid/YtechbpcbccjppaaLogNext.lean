/- The walk of the law LogcostNext. -/
import Derived.Test.YtechbpcbccjppaaLogS
import Derived.Test.YtechbpcbccjppaaLogQ
namespace Go.Proofs.Ytechbpcbccjppaa
open Go.RowKit
theorem u32_range {x : Int} (h : (Lit.int .u32 x).wf = true) : 0 ≤ x ∧ x ≤ 4294967295 := by
  have h2 : (decide (IntKind.u32.min ≤ x) && decide (x ≤ IntKind.u32.max)) = true := h
  rw [Bool.and_eq_true, decide_eq_true_eq, decide_eq_true_eq] at h2
  exact h2
theorem next_plain {x y : Int} (h1 : 1 ≤ y) (h2 : y ≤ 1048576) (h3 : y ≤ x) (h4 : x ≤ 2 * y) :
    ratioE x y = 0 ∧ ratioE (x + 1) y = 0 ∧ ratioE (x + 1) (y + 1) = 0 ∧ 0 ≤ ratioK x y ∧ ratioK x y ≤ 16 ∧ ratioK x y ≤ ratioK (x + 1) y ∧ ratioK (x + 1) (y + 1) ≤ ratioK (x + 1) y ∧ ((ratioK x y == 16) == (x == 2 * y)) = true := by
  have n1 : ¬ NoRatio x y := by unfold NoRatio; omega
  have n2 : ¬ NoRatio (x + 1) y := by unfold NoRatio; omega
  have n3 : ¬ NoRatio (x + 1) (y + 1) := by unfold NoRatio; omega
  obtain ⟨k1, k2⟩ := ratio_next h1 h3 h4 (by omega)
  refine ⟨ratioE_yes n1, ratioE_yes n2, ratioE_yes n3, (ratio_range n1).1, k1, ratio_mono n1 n2 (by omega) (by omega), ratio_mono n3 n2 (by omega) (by omega), ?_⟩
  rw [beq_iff_eq, Bool.eq_iff_iff, beq_iff_eq, beq_iff_eq]
  exact k2
set_option maxRecDepth 100000 in
set_option maxHeartbeats 1000000 in
theorem next_law (a b : Int) (wa : (Lit.int .u32 a).wf = true) (wb : (Lit.int .u32 b).wf = true) (w : World) :
    Calls Try.prog 7 #[.int .u32 a, .int .u32 b] w fun e w' => e = .returned (.bool true) ∧ Below w.heap.size w w' := by
  obtain ⟨ha, ha2⟩ := u32_range wa
  obtain ⟨hb, hb2⟩ := u32_range wb
  clear wa wb
  have HB := Below.refl w.heap.size w
  obtain ⟨y, hy⟩ : ∃ y, b % 1048576 + 1 = y := ⟨_, rfl⟩
  have y1 : 1 ≤ y := by omega
  have y2 : y ≤ 1048576 := by omega
  have m1 : 0 ≤ a % (y + 1) := Int.emod_nonneg _ (by omega)
  have m2 : a % (y + 1) < y + 1 := Int.emod_lt_of_pos _ (by omega)
  obtain ⟨x, hx⟩ : ∃ x, wrap64 (y + a % (y + 1)) = x := ⟨_, rfl⟩
  have hx' : x = y + a % (y + 1) := by rw [← hx]; exact IntWalk.wrap64_in _ ⟨by omega, by omega⟩
  have x1 : y ≤ x := by omega
  have x2 : x ≤ 2 * y := by omega
  obtain ⟨e1, e2, e3, k1, k2, k3, k4, k5⟩ := next_plain y1 y2 x1 x2
  clear hx' m1 m2
  go_enter Try.func7, Try.ntmps7
  go_wp2_with (first | (go_at_call 10; refine (alive_any _).mono ?_; rintro e w' ⟨rfl, hb⟩; replace HB := bthen HB hb; clear hb) | (go_at_call 11; refine (ratio_any _ _ _).mono ?_; rintro e w' ⟨rfl, hb⟩; replace HB := bthen HB hb; clear hb))
  go_ret
  exact ⟨rfl, HB⟩
end Go.Proofs.Ytechbpcbccjppaa
