/- The walk of the law LogcostOften. -/
import Derived.Test.YtechbpcbccjppaaLogNext
namespace Go.Proofs.Ytechbpcbccjppaa
open Go.RowKit
theorem often_plain {t k a b : Int} (t0 : 0 ≤ t) (t1 : t < 536870912) (k0 : 1 ≤ k) (k1 : k ≤ 2000) (a0 : 0 ≤ a) (ab : a ≤ b) (bt : b ≤ t) :
    costE t k a = 0 ∧ costE t k b = 0 ∧ costE (2 * t) k a = 0 ∧ costE t (2 * k) a = 0 ∧ costV t k b ≤ costV t k a ∧ costV t k a ≤ costV (2 * t) k a ∧ costV t k a ≤ costV t (2 * k) a ∧ 1 ≤ costV t k a ∧ costV t k a ≤ 255 ∧ 1 ≤ costV t k b := by
  have n1 : ¬ NoCost t k a := by unfold NoCost; omega
  have n2 : ¬ NoCost t k b := by unfold NoCost; omega
  have n3 : ¬ NoCost (2 * t) k a := by unfold NoCost; omega
  have n4 : ¬ NoCost t (2 * k) a := by unfold NoCost; omega
  have r1 : ¬ NoRatio (t + k) (a + 1) := by unfold NoRatio; omega
  have r2 : ¬ NoRatio (t + k) (b + 1) := by unfold NoRatio; omega
  have r3 : ¬ NoRatio (2 * t + k) (a + 1) := by unfold NoRatio; omega
  have r4 : ¬ NoRatio (t + 2 * k) (a + 1) := by unfold NoRatio; omega
  have m1 := ratio_mono r2 r1 (by omega) (by omega)
  have m2 := ratio_mono r1 r3 (by omega) (by omega)
  have m3 := ratio_mono r1 r4 (by omega) (by omega)
  rw [costE_yes n1, costE_yes n2, costE_yes n3, costE_yes n4, costV_yes n1, costV_yes n2, costV_yes n3, costV_yes n4]
  refine ⟨ratioE_yes r1, ratioE_yes r2, ratioE_yes r3, ratioE_yes r4, ?_, ?_, ?_, ?_, ?_, ?_⟩ <;> omega
set_option maxRecDepth 100000 in
set_option maxHeartbeats 1000000 in
theorem often_law (a b c d : Int) (wa : (Lit.int .u32 a).wf = true) (wb : (Lit.int .u32 b).wf = true) (wc : (Lit.int .u32 c).wf = true) (wd : (Lit.int .u32 d).wf = true) (w : World) :
    Calls Try.prog 6 #[.agg #[.int .u32 a, .int .u32 b, .int .u32 c, .int .u32 d]] w fun e w' => e = .returned (.bool true) ∧ Below w.heap.size w w' := by
  obtain ⟨ha, ha2⟩ := u32_range wa
  obtain ⟨hb, hb2⟩ := u32_range wb
  obtain ⟨hc, hc2⟩ := u32_range wc
  obtain ⟨hd, hd2⟩ := u32_range wd
  clear wa wb wc wd
  have HB := balloc (Below.refl w.heap.size w) (.cells #[.int .u32 a, .int .u32 b, .int .u32 c, .int .u32 d] 31)
  have t0 : 0 ≤ a % 536870912 := by omega
  have t1 : a % 536870912 < 536870912 := by omega
  obtain ⟨t, ht⟩ : ∃ t, a % 536870912 = t := ⟨_, rfl⟩
  rw [ht] at t0 t1
  obtain ⟨k, hk⟩ : ∃ k, b % 2000 + 1 = k := ⟨_, rfl⟩
  have k0 : 1 ≤ k := by omega
  have k1 : k ≤ 2000 := by omega
  have a0 : 0 ≤ c % (t + 1) := Int.emod_nonneg _ (by omega)
  have a1 : c % (t + 1) < t + 1 := Int.emod_lt_of_pos _ (by omega)
  obtain ⟨m, hm⟩ : ∃ m, c % (t + 1) = m := ⟨_, rfl⟩
  rw [hm] at a0 a1
  have b0 : 0 ≤ d % (t - m + 1) := Int.emod_nonneg _ (by omega)
  have b1 : d % (t - m + 1) < t - m + 1 := Int.emod_lt_of_pos _ (by omega)
  obtain ⟨n, hn⟩ : ∃ n, m + d % (t - m + 1) = n := ⟨_, rfl⟩
  have n0 : m ≤ n := by omega
  have n1 : n ≤ t := by omega
  have c0 : m ≤ t := by omega
  obtain ⟨p1, p2, p3, p4, p5, p6, p7, p8, p9, p10⟩ := often_plain t0 t1 k0 k1 a0 n0 n1
  go_enter Try.func6, Try.ntmps6
  go_wp2_with fail
  refine (alive_any _).mono ?_
  rintro e w1 ⟨rfl, hb1⟩
  have q0 : w1.cell? ⟨w.heap.size, 0, none⟩ = some (.int .u32 a) := (hb1.cell (by simp)).trans (by simp)
  have q1 : w1.cell? ⟨w.heap.size, 1, none⟩ = some (.int .u32 b) := (hb1.cell (by simp)).trans (by simp)
  have q2 : w1.cell? ⟨w.heap.size, 2, none⟩ = some (.int .u32 c) := (hb1.cell (by simp)).trans (by simp)
  have q3 : w1.cell? ⟨w.heap.size, 3, none⟩ = some (.int .u32 d) := (hb1.cell (by simp)).trans (by simp)
  replace HB := HB.trans (hb1.mono HB.size)
  clear hb1
  go_wp2_with fail
  go_quiet (fail)
  replace HB := bdrew HB nq
  clear q0 q1 q2 q3
  go_wp2_with (go_at_call 13; refine (cost_any _ _ _ _).mono ?_; rintro e w' ⟨rfl, hb⟩; replace HB := bthen HB hb; clear hb)
  go_ret
  exact ⟨rfl, HB⟩
end Go.Proofs.Ytechbpcbccjppaa
