/- The walk of the law LogcostSums. -/
import Derived.Test.YtechbpcbccjppaaLogS
namespace Go.Proofs.Ytechbpcbccjppaa
open Go.RowKit
theorem u16_range {x : Int} (h : (Lit.int .u16 x).wf = true) : 0 ≤ x ∧ x ≤ 65535 := by
  have h2 : (decide (IntKind.u16.min ≤ x) && decide (x ≤ IntKind.u16.max)) = true := h
  rw [Bool.and_eq_true, decide_eq_true_eq, decide_eq_true_eq] at h2
  exact h2
theorem sums_plain (a b c : Int) (ha : 0 ≤ a) (hb : 0 ≤ b) (hc : 0 ≤ c) : sumV b a = sumV a b ∧ sumV a b = min (a + b) 4351 ∧ sumV (sumV a b) c = sumV a (sumV b c) ∧ sumV (-1 - a) b = 0 ∧ sumV a 0 = min a 4351 := by
  have h : ∀ x y : Int, 0 ≤ x → 0 ≤ y → sumV x y = min (x + y) 4351 := fun x y h1 h2 => by
    unfold sumV; rw [if_neg (by omega)]; omega
  refine ⟨by rw [h _ _ ha hb, h _ _ hb ha]; omega, h _ _ ha hb, ?_, ?_, ?_⟩
  · rw [h _ _ ha hb, h _ _ hb hc, h _ _ (by omega) hc, h _ _ ha (by omega)]; omega
  · unfold sumV; rw [if_pos (by omega)]
  · rw [h _ _ ha (by omega)]; omega
set_option maxRecDepth 100000 in
set_option maxHeartbeats 1000000 in
theorem sums_law (a b c : Int) (wa : (Lit.int .u16 a).wf = true) (wb : (Lit.int .u16 b).wf = true) (wc : (Lit.int .u16 c).wf = true) (w : World) :
    Calls Try.prog 9 #[.int .u16 a, .int .u16 b, .int .u16 c] w fun e w' => e = .returned (.bool true) ∧ Below w.heap.size w w' := by
  obtain ⟨ha, ha2⟩ := u16_range wa
  obtain ⟨hb, hb2⟩ := u16_range wb
  obtain ⟨hc, hc2⟩ := u16_range wc
  clear wa wb wc
  have HB := Below.refl w.heap.size w
  obtain ⟨p1, p2, p3, p4, p5⟩ := sums_plain a b c ha hb hc
  have q1 : (sumV a b == sumV b a) = true := by rw [p1]; simp
  have q2 : (sumV (sumV a b) c == sumV a (sumV b c)) = true := by rw [p3]; simp
  have q3 : (sumV a b == if 4351 < a + b then 4351 else a + b) = true := by rw [p2, beq_iff_eq]; split <;> omega
  have P5 := hid p5
  clear p1 p2 p3 p5
  go_enter Try.func9, Try.ntmps9
  go_wp2_with (first | (go_at_call 10; refine (alive_any _).mono ?_; rintro e w' ⟨rfl, hb⟩; replace HB := bthen HB hb; clear hb) | (go_at_call 15; refine (sum_any _ _ _).mono ?_; rintro e w' ⟨rfl, rfl⟩))
  all_goals go_ret
  all_goals have H5 := P5.out
  all_goals first
    | exact ⟨ret_val (congrArg Value.bool (by simp only [beq_iff_eq]; omega)), HB⟩
    | (exfalso; omega)
end Go.Proofs.Ytechbpcbccjppaa
