/- The contracts of the reference's Ratio, Cost, Sum. -/
import Derived.Test.YtechbpcbccjppaaLogS
import Derived.Test.YtechbpcbccjppaaLogY
namespace Go.Proofs.Ytechbpcbccjppaa
open Go.RowKit
theorem refRatio_any (a b : Int) (w : World) :
    Calls Try.prog 12 #[.int .i64 a, .int .i64 b] w fun e w' => e = .returned (.tuple #[.int .i64 (ratioK a b), .int .i64 (ratioE a b)]) ∧ Below w.heap.size w w' := by
  obtain ⟨k, h⟩ := refRatio_plain a b
  exact PLogcostRatios.errataref03_Ratio.calls k a b _ _ w h
set_option maxRecDepth 100000 in
set_option maxHeartbeats 1000000 in
theorem refSum_any (a b : Int) (w : World) :
    Calls Try.prog 16 #[.int .i64 a, .int .i64 b] w fun e w' => e = .returned (.int .i64 (sumV a b)) ∧ w = w' := by
  go_enter Try.func16, Try.ntmps16
  go_wp2
  all_goals go_ret
  all_goals refine ⟨ret_val (congrArg (Value.int .i64) ?_), rfl⟩
  all_goals (unfold sumV; split <;> omega)
set_option maxRecDepth 100000 in
set_option maxHeartbeats 1000000 in
theorem refCost_any (t k n : Int) (w : World) :
    Calls Try.prog 14 #[.int .i64 t, .int .i64 k, .int .i64 n] w fun e w' => e = .returned (.tuple #[.int .i64 (costV t k n), .int .i64 (costE t k n)]) ∧ Below w.heap.size w w' := by
  have HB := Below.refl w.heap.size w
  go_enter Try.func14, Try.ntmps14
  go_wp2_with (go_at_call 12; refine (refRatio_any _ _ _).mono ?_; rintro e w' ⟨rfl, hb⟩; replace HB := bthen HB hb; clear hb)
  all_goals go_ret2
  all_goals refine ⟨ret_val (tup2 ?_ ?_), HB⟩
  all_goals try simp only []
  all_goals rcases Decidable.em (NoCost t k n) with hn | hn
  all_goals first
    | exact (costV_no hn).symm
    | exact (costE_no hn).symm
    | (rw [costE_yes hn]; exact (ratioE_yes (by unfold NoRatio; unfold NoCost at hn; omega)).symm)
    | (exfalso; unfold NoCost at hn; omega)
    | (rw [costV_yes hn]; omega)
set_option maxRecDepth 100000 in
set_option maxHeartbeats 1000000 in
theorem ratios_law (a b : Int) (_wa : (Lit.int .i64 a).wf = true) (_wb : (Lit.int .i64 b).wf = true) (w : World) :
    Calls Try.prog 3 #[.int .i64 a, .int .i64 b] w fun e w' => e = .returned (.bool true) ∧ Below w.heap.size w w' := by
  have HB := Below.refl w.heap.size w
  go_enter Try.func3, Try.ntmps3
  go_wp2_with (first | (go_at_call 10; refine (alive_any _).mono ?_; rintro e w' ⟨rfl, hb⟩; replace HB := bthen HB hb; clear hb) | (go_at_call 11; refine (ratio_any _ _ _).mono ?_; rintro e w' ⟨rfl, hb⟩; replace HB := bthen HB hb; clear hb) | (go_at_call 12; refine (refRatio_any _ _ _).mono ?_; rintro e w' ⟨rfl, hb⟩; replace HB := bthen HB hb; clear hb))
  go_ret
  exact ⟨rfl, HB⟩
set_option maxRecDepth 100000 in
set_option maxHeartbeats 1000000 in
theorem costs_law (t k n a b : Int) (_wt : (Lit.int .i64 t).wf = true) (_wk : (Lit.int .i64 k).wf = true) (_wn : (Lit.int .i64 n).wf = true) (_wa : (Lit.int .i64 a).wf = true) (_wb : (Lit.int .i64 b).wf = true) (w : World) :
    Calls Try.prog 8 #[.agg #[.int .i64 t, .int .i64 k, .int .i64 n, .int .i64 a, .int .i64 b]] w fun e w' => e = .returned (.bool true) ∧ Below w.heap.size w w' := by
  have HB := balloc (Below.refl w.heap.size w) (.cells #[.int .i64 t, .int .i64 k, .int .i64 n, .int .i64 a, .int .i64 b] 36)
  go_enter Try.func8, Try.ntmps8
  go_wp2_with fail
  refine (alive_any _).mono ?_
  rintro e w1 ⟨rfl, hb1⟩
  have q0 : w1.cell? ⟨w.heap.size, 0, none⟩ = some (.int .i64 t) := (hb1.cell (by simp)).trans (by simp)
  have q1 : w1.cell? ⟨w.heap.size, 1, none⟩ = some (.int .i64 k) := (hb1.cell (by simp)).trans (by simp)
  have q2 : w1.cell? ⟨w.heap.size, 2, none⟩ = some (.int .i64 n) := (hb1.cell (by simp)).trans (by simp)
  have q3 : w1.cell? ⟨w.heap.size, 3, none⟩ = some (.int .i64 a) := (hb1.cell (by simp)).trans (by simp)
  have q4 : w1.cell? ⟨w.heap.size, 4, none⟩ = some (.int .i64 b) := (hb1.cell (by simp)).trans (by simp)
  replace HB := HB.trans (hb1.mono HB.size)
  clear hb1
  go_wp2_with fail
  go_quiet (fail)
  replace HB := bdrew HB nq
  clear q0 q1 q2 q3 q4
  go_wp2_with (first | (go_at_call 13; refine (cost_any _ _ _ _).mono ?_; rintro e w' ⟨rfl, hb⟩; replace HB := bthen HB hb; clear hb) | (go_at_call 14; refine (refCost_any _ _ _ _).mono ?_; rintro e w' ⟨rfl, hb⟩; replace HB := bthen HB hb; clear hb) | (go_at_call 15; refine (sum_any _ _ _).mono ?_; rintro e w' ⟨rfl, rfl⟩) | (go_at_call 16; refine (refSum_any _ _ _).mono ?_; rintro e w' ⟨rfl, rfl⟩))
  go_ret
  exact ⟨rfl, HB⟩
end Go.Proofs.Ytechbpcbccjppaa
