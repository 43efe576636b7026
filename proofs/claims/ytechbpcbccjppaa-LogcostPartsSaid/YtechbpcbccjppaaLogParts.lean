/- The walk of the law LogcostParts. -/
import Derived.Test.YtechbpcbccjppaaLogNext
namespace Go.Proofs.Ytechbpcbccjppaa
open Go.RowKit
theorem run_max3 (x y z : Int) (w : World) : (Builtin.max_ #[3, 3, 3] 3 #[.int .i64 x, .int .i64 y, .int .i64 z]).run Try.prog w = .ok (.int .i64 (max (max x y) z)) w := by
  have : (Builtin.max_ #[3, 3, 3] 3 #[.int .i64 x, .int .i64 y, .int .i64 z]).run Try.prog w = .ok (.int .i64 (if z > (if y > x then y else x) then z else (if y > x then y else x))) w := by
    simp [Builtin.max_, Builtin.max2]
  rw [this]
  congr 2
  split <;> split <;> omega
theorem run_min3 (x y z : Int) (w : World) : (Builtin.min_ #[3, 3, 3] 3 #[.int .i64 x, .int .i64 y, .int .i64 z]).run Try.prog w = .ok (.int .i64 (min (min x y) z)) w := by
  have : (Builtin.min_ #[3, 3, 3] 3 #[.int .i64 x, .int .i64 y, .int .i64 z]).run Try.prog w = .ok (.int .i64 (if z < (if y < x then y else x) then z else (if y < x then y else x))) w := by
    simp [Builtin.min_, Builtin.min2]
  rw [this]
  congr 2
  split <;> split <;> omega
set_option maxRecDepth 100000 in
set_option maxHeartbeats 1000000 in
theorem parts_law (a b c : Int) (wa : (Lit.int .u32 a).wf = true) (wb : (Lit.int .u32 b).wf = true) (wc : (Lit.int .u32 c).wf = true) (w : World) :
    Calls Try.prog 5 #[.int .u32 a, .int .u32 b, .int .u32 c] w fun e w' => e = .returned (.bool true) ∧ Below w.heap.size w w' := by
  obtain ⟨ha, ha2⟩ := u32_range wa
  obtain ⟨hb, hb2⟩ := u32_range wb
  obtain ⟨hc, hc2⟩ := u32_range wc
  clear wa wb wc
  have HB := Below.refl w.heap.size w
  obtain ⟨p, hp⟩ : ∃ p, a % 2147483648 = p := ⟨_, rfl⟩
  obtain ⟨q, hq⟩ : ∃ q, b % 2147483648 = q := ⟨_, rfl⟩
  obtain ⟨r, hr⟩ : ∃ r, c % 2147483648 = r := ⟨_, rfl⟩
  have p0 : 0 ≤ p := by omega
  have p1 : p ≤ 2147483647 := by omega
  have q0 : 0 ≤ q := by omega
  have q1 : q ≤ 2147483647 := by omega
  have r0 : 0 ≤ r := by omega
  have r1 : r ≤ 2147483647 := by omega
  have M := fun w => run_max3 (p + 1) (q + 1) (r + 1) w
  have N := fun w => run_min3 (p + 1) (q + 1) (r + 1) w
  obtain ⟨x, hx⟩ : ∃ x, max (max (p + 1) (q + 1)) (r + 1) = x := ⟨_, rfl⟩
  obtain ⟨z, hz⟩ : ∃ z, min (min (p + 1) (q + 1)) (r + 1) = z := ⟨_, rfl⟩
  rw [hx] at M
  rw [hz] at N
  have x0 : 1 ≤ x := by omega
  have x1 : x ≤ 2147483648 := by omega
  have z0 : 1 ≤ z := by omega
  have z1 : z ≤ x := by omega
  obtain ⟨y, hy⟩ : ∃ y, p + 1 + q + 1 + r + 1 - x - z = y := ⟨_, rfl⟩
  have n1 : ¬ NoRatio x y := by unfold NoRatio; omega
  have n2 : ¬ NoRatio y z := by unfold NoRatio; omega
  obtain ⟨n3, hk, km, kk⟩ := ratio_parts n1 n2
  obtain ⟨a1, a2⟩ := ratio_range n1
  obtain ⟨b1, b2⟩ := ratio_range n2
  obtain ⟨c1, c2⟩ := ratio_range n3
  have e1 := ratioE_yes n1
  have e2 := ratioE_yes n2
  have e3 := ratioE_yes n3
  clear hx hz n1 n2 n3
  rcases hk with hk | hk
  · have t1 : (ratioK x z == ratioK x y + ratioK y z) = true := by rw [beq_iff_eq]; exact hk
    clear hk
    go_enter Try.func5, Try.ntmps5
    go_wp2_with (first | (go_at_call 10; refine (alive_any _).mono ?_; rintro e w' ⟨rfl, hb⟩; replace HB := bthen HB hb; clear hb) | (go_at_call 11; refine (ratio_any _ _ _).mono ?_; rintro e w' ⟨rfl, hb⟩; replace HB := bthen HB hb; clear hb))
    go_ret
    exact ⟨rfl, HB⟩
  · have t1 : (ratioK x z == ratioK x y + ratioK y z) = false := by rw [beq_eq_false_iff_ne]; omega
    have t2 : (ratioK x z == ratioK x y + ratioK y z + 1) = true := by rw [beq_iff_eq]; exact hk
    clear hk
    go_enter Try.func5, Try.ntmps5
    go_wp2_with (first | (go_at_call 10; refine (alive_any _).mono ?_; rintro e w' ⟨rfl, hb⟩; replace HB := bthen HB hb; clear hb) | (go_at_call 11; refine (ratio_any _ _ _).mono ?_; rintro e w' ⟨rfl, hb⟩; replace HB := bthen HB hb; clear hb))
    go_ret
    exact ⟨rfl, HB⟩
end Go.Proofs.Ytechbpcbccjppaa
