/- The contracts that logcost's laws use: Ratio, Cost, Sum, alive. -/
import Derived.Test.YtechbpcbccjppaaLogR
import Derived.Test.YtechbpcbccjppaaLogP
namespace Go.Proofs.Ytechbpcbccjppaa
open Go.RowKit
theorem bthen {w w1 w2 : World} (h : Below w.heap.size w w1) (k : Below w1.heap.size w1 w2) : Below w.heap.size w w2 := h.trans (k.mono h.size)
/-- **Ratio, at whatever numbers.** -/
theorem ratio_any (a b : Int) (w : World) :
    Calls Try.prog 11 #[.int .i64 a, .int .i64 b] w fun e w' => e = .returned (.tuple #[.int .i64 (ratioK a b), .int .i64 (ratioE a b)]) ∧ Below w.heap.size w w' := by
  by_cases h : NoRatio a b
  · rw [ratioK_no h, ratioE_no h]
    exact ratio_no a b w h
  · have h' := h
    unfold NoRatio at h'
    refine (ratio_yes a b w (by omega) (by omega) (by omega)).mono ?_
    rintro e w' ⟨k, hk, rfl, hb⟩
    exact ⟨by rw [ratioK_of h hk, ratioE_yes h], hb⟩
theorem tup2 {k k' : IntKind} {a b c d : Int} (h : a = c) (h' : b = d) : Value.tuple #[.int k a, .int k' b] = Value.tuple #[.int k c, .int k' d] := by rw [h, h']
/-- what a cost is -/
def NoCost (t k n : Int) : Prop := t < 0 ∨ 1073741824 < t ∨ k < 1 ∨ 4096 < k ∨ n < 0 ∨ t < n
instance (t k n : Int) : Decidable (NoCost t k n) := by unfold NoCost; exact inferInstance
noncomputable def costV (t k n : Int) : Int := if NoCost t k n then 0 else min (max (ratioK (t + k) (n + 1)) 1) 255
noncomputable def costE (t k n : Int) : Int := if NoCost t k n then 2 else ratioE (t + k) (n + 1)
theorem costV_no {t k n : Int} (h : NoCost t k n) : costV t k n = 0 := by unfold costV; rw [if_pos h]
theorem costE_no {t k n : Int} (h : NoCost t k n) : costE t k n = 2 := by unfold costE; rw [if_pos h]
theorem costV_yes {t k n : Int} (h : ¬ NoCost t k n) : costV t k n = min (max (ratioK (t + k) (n + 1)) 1) 255 := by unfold costV; rw [if_neg h]
theorem costE_yes {t k n : Int} (h : ¬ NoCost t k n) : costE t k n = ratioE (t + k) (n + 1) := by unfold costE; rw [if_neg h]
def sumV (a b : Int) : Int := if a < 0 ∨ b < 0 then 0 else min (min a 4351 + min b 4351) 4351
set_option maxRecDepth 100000 in
set_option maxHeartbeats 1000000 in
theorem sum_any (a b : Int) (w : World) :
    Calls Try.prog 15 #[.int .i64 a, .int .i64 b] w fun e w' => e = .returned (.int .i64 (sumV a b)) ∧ w = w' := by
  go_enter Try.func15, Try.ntmps15
  go_wp2
  all_goals go_ret
  all_goals refine ⟨ret_val (congrArg (Value.int .i64) ?_), rfl⟩
  all_goals (unfold sumV; split <;> omega)
set_option maxRecDepth 100000 in
set_option maxHeartbeats 1000000 in
theorem cost_any (t k n : Int) (w : World) :
    Calls Try.prog 13 #[.int .i64 t, .int .i64 k, .int .i64 n] w fun e w' => e = .returned (.tuple #[.int .i64 (costV t k n), .int .i64 (costE t k n)]) ∧ Below w.heap.size w w' := by
  have HB := Below.refl w.heap.size w
  go_enter Try.func13, Try.ntmps13
  go_wp2_with (go_at_call 11; refine (ratio_any _ _ _).mono ?_; rintro e w' ⟨rfl, hb⟩; replace HB := bthen HB hb; clear hb)
  all_goals go_ret2
  all_goals refine ⟨ret_val (tup2 ?_ ?_), HB⟩
  all_goals try simp only []
  all_goals rcases Decidable.em (NoCost t k n) with hn | hn
  all_goals first
    | exact (costV_no hn).symm
    | exact (costE_no hn).symm
    | exact (costE_yes hn).symm
    | (exfalso; unfold NoCost at hn; omega)
    | (rw [costV_yes hn]; omega)
set_option maxRecDepth 100000 in
set_option maxHeartbeats 1000000 in
theorem alive_any (w : World) :
    Calls Try.prog 10 #[] w fun e w' => e = .returned (.bool true) ∧ Below w.heap.size w w' := by
  have HB := Below.refl w.heap.size w
  obtain ⟨r1, e1⟩ := ratio_2_1
  obtain ⟨r2, e2⟩ := ratio_3_2
  have hc : costV 15 1 0 = 64 ∧ costE 15 1 0 = 0 := by
    unfold costV costE
    rw [if_neg (by decide +kernel), if_neg (by decide +kernel)]
    exact ⟨by rw [show (15 : Int) + 1 = 16 by rfl, show (0 : Int) + 1 = 1 by rfl, ratio_16_1.1]; rfl, ratio_16_1.2⟩
  obtain ⟨r3, e3⟩ := hc
  go_enter Try.func10, Try.ntmps10
  go_wp2_with (first | (go_at_call 11; refine (ratio_any _ _ _).mono ?_; rintro e w' ⟨rfl, hb⟩; replace HB := bthen HB hb; clear hb) | (go_at_call 13; refine (cost_any _ _ _ _).mono ?_; rintro e w' ⟨rfl, hb⟩; replace HB := bthen HB hb; clear hb))
  go_ret
  exact ⟨rfl, HB⟩
end Go.Proofs.Ytechbpcbccjppaa
