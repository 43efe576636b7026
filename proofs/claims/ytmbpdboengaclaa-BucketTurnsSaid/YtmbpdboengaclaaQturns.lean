/- The walk of the law BucketTurns. -/
import Derived.Test.YtmbpdboengaclaaQh
namespace Go.Proofs.Ytmbpdboengaclaa
set_option linter.unusedVariables false
set_option linter.unusedSimpArgs false
open Go.RowKit
set_option maxRecDepth 100000 in
set_option maxHeartbeats 1000000 in
theorem turns_law (a : Option Addr) (len cap : Nat) (zs : List Int) (a2 : Option Addr) (len2 cap2 : Nat) (ys : List Int) (w : World) (hz : IsRow .u16 w a len cap zs) (hy : IsRow .u16 w a2 len2 cap2 ys) :
    Calls Try.prog 4 #[.slice a len cap, .slice a2 len2 cap2] w fun e w' => e = .returned (.bool true) ∧ Below w.heap.size w w' := by
  have HB := hid (Below.refl w.heap.size w)
  have HZ := hid hz
  have HY := hid hy
  have hl1 := hz.le
  have hl2 := hy.le
  clear hz hy
  go_enter Try.func4, Try.ntmps4
  go_wp2_with (first
    | (go_at_call 9; refine (alive_any _).mono ?_; rintro e w1 ⟨rfl, hb⟩; replace HB := hid hb; clear hb)
    | (go_at_call 10; refine (new_l _ _).mono ?_; rintro e w2 ⟨-, hp⟩; obtain ⟨rfl, hq, hb⟩ := hp (by decide) (by decide); have HN := hid hb.size; have HQ := hid hq; have HW := hid HB.out.size; replace HB := hid (bthen HB.out hb); clear hp hq hb))
  · go_ret
    exact ⟨rfl, HB.out⟩
  rotate_left
  · go_ret
    exact ⟨rfl, HB.out⟩
  have hl3 : len ≤ 200 ∧ len2 ≤ 200 := by omega
  have HF : Hid (∀ k, w1.heap.size ≤ k → w.heap.size ≤ k) := hid fun k hk => Nat.le_trans HW.out hk
  go_loopw [31] (fun iv wr => ∃ (i : Nat) (L : List (Int × Int)), i ≤ len ∧ iv = .int .i64 (i : Int) ∧ Hid (QL (fun k => w1.heap.size ≤ k) wr w1.heap.size L 4351 0) ∧ L.length ≤ i ∧ Hid (Below w.heap.size w wr) ∧ Hid (w1.heap.size ≤ wr.heap.size)) (fun iv _ => len - (intOf iv).toNat)
  case atStart => exact ⟨0, [], by omega, rfl, HQ, Nat.le_refl _, HB, HN⟩
  case round =>
    obtain ⟨i, L, hi, rfl, HQ2, hL, HB2, HN2⟩ := hrel
    by_cases hlt : i < len
    · obtain ⟨x, rfl, hc, hz0, hz1⟩ := HZ.out.get HB2.out hlt
      have hlt2 : (i : Int) < (len : Int) := by omega
      go_wp2_with fail
      refine (push_l HQ2.out (fun k hk => Nat.le_trans HN2.out hk) (by omega) _ _).mono ?_
      rintro e w3 ⟨-, hp2⟩
      obtain ⟨rfl, hq, ht⟩ := hp2 (by omega) (by omega)
      have hL2 := ins_length (el zs i % 4351) (i : Int) L
      go_wp2
      go_roundw
      case rel => exact ⟨i + 1, _, by omega, by simp, hid hq, by omega, hid (ht.below HB2.out HF.out), hid (Nat.le_trans HN2.out ht.size)⟩
      case measure => simp [intOf]; omega
    · obtain rfl : i = len := by omega
      go_wp2
      go_loopw [45, 9] (fun iv nv wr => ∃ (i2 : Nat) (L : List (Int × Int)) (now : Int), i2 ≤ len2 ∧ iv = .int .i64 (i2 : Int) ∧ nv = .int .i64 now ∧ Hid (QL (fun k => w1.heap.size ≤ k) wr w1.heap.size L 4351 now) ∧ L.length ≤ 200 + i2 ∧ 0 ≤ now ∧ Hid (Below w.heap.size w wr) ∧ Hid (w1.heap.size ≤ wr.heap.size)) (fun iv _ _ => len2 - (intOf iv).toNat)
      case atStart => exact ⟨0, L, 0, by omega, rfl, rfl, HQ2, by omega, Int.le_refl _, HB2, HN2⟩
      case round =>
        obtain ⟨i2, L2, now, hi2, rfl, rfl, HQ3, hL3, hn0, HB3, HN3⟩ := hrel
        by_cases hlt2 : i2 < len2
        · obtain ⟨x, rfl, hc, hz0, hz1⟩ := HY.out.get HB3.out hlt2
          have hlt3 : (i2 : Int) < (len2 : Int) := by omega
          go_wp2_with fail
          refine (pop_l HQ3.out (by omega)).mono ?_
          rintro e w3 ⟨ht, hp0, hp1⟩
          have HB3' := ht.below HB3.out HF.out
          have HN3' := Nat.le_trans HN3.out ht.size
          cases L2 with
          | nil =>
            obtain ⟨rfl, hq⟩ := hp0 rfl
            obtain ⟨L4, hL4⟩ : ∃ L4 : List (Int × Int), L4 = [] := ⟨_, rfl⟩
            rw [← hL4] at hq
            have hL4' : L4.length ≤ 200 + i2 := by rw [hL4]; simp
            have HQ4 := hid (hq.below (balloc (Below.refl _ w3) (.cells #[.int .i64 0, .int .i64 0] 31)))
            have HB4 := hid (balloc HB3' (.cells #[.int .i64 0, .int .i64 0] 31))
            have HN4 : Hid (w1.heap.size ≤ (w3.alloc (.cells #[.int .i64 0, .int .i64 0] 31)).heap.size) := hid (by simp; omega)
            clear hp0 hp1 ht hq hL4 HB3' HN3'
            go_wp2_with fail
            refine (push_l HQ4.out (fun k hk => Nat.le_trans HN4.out hk) (by omega) _ _).mono ?_
            rintro e w5 ⟨hq1, hq2⟩
            by_cases hc5 : now ≤ el ys i2 ∧ el ys i2 ≤ 4351
            · obtain ⟨rfl, hq5, ht5⟩ := hq2 hc5.1 hc5.2
              have hl5 := ins_length (el ys i2) (1000 + (i2 : Int)) L4
              have HQ5 := hid hq5
              have HB5 := hid (ht5.below HB4.out HF.out)
              have HN5 := hid (Nat.le_trans HN4.out ht5.size)
              clear hq1 hq2 hq5 ht5
              by_cases hpos : 0 < now
              · go_wp2_with fail
                refine (push_l HQ5.out (fun k hk => Nat.le_trans HN5.out hk) (by omega) _ _).mono ?_
                rintro e w6 ⟨hq1, -⟩
                obtain ⟨rfl, rfl⟩ := hq1 (by omega)
                go_wp2_with fail
                go_roundw
                case rel => exact ⟨i2 + 1, _, now, by omega, by simp, rfl, HQ5, by omega, by omega, HB5, HN5⟩
                case measure => simp [intOf]; omega
              · go_wp2_with fail
                go_roundw
                case rel => exact ⟨i2 + 1, _, now, by omega, by simp, rfl, HQ5, by omega, by omega, HB5, HN5⟩
                case measure => simp [intOf]; omega
            · obtain ⟨rfl, rfl⟩ := hq1 (by omega)
              clear hq1 hq2
              have hnow1 := HQ4.out.now1
              rcases (by omega : el ys i2 < now ∨ 4351 < el ys i2) with h5 | h5
              all_goals
                clear hc5
                by_cases hpos : 0 < now
                · go_wp2_with fail
                  refine (push_l HQ4.out (fun k hk => Nat.le_trans HN4.out hk) (by omega) _ _).mono ?_
                  rintro e w6 ⟨hq1, -⟩
                  obtain ⟨rfl, rfl⟩ := hq1 (by omega)
                  go_wp2_with fail
                  go_roundw
                  case rel => exact ⟨i2 + 1, _, now, by omega, by simp, rfl, HQ4, by omega, by omega, HB4, HN4⟩
                  case measure => simp [intOf]; omega
                · first
                  | (exfalso; omega)
                  | (go_wp2_with fail
                     go_roundw
                     case rel => exact ⟨i2 + 1, _, now, by omega, by simp, rfl, HQ4, by omega, by omega, HB4, HN4⟩
                     case measure => simp [intOf]; omega)
          | cons p L4 =>
            obtain ⟨rfl, hq, hnow⟩ := hp1 p L4 rfl
            have hL4' : L4.length ≤ 200 + i2 := by simp at hL3; omega
            have HQ4 := hid (hq.below (balloc (Below.refl _ w3) (.cells #[.int .i64 p.1, .int .i64 p.2] 31)))
            have HB4 := hid (balloc HB3' (.cells #[.int .i64 p.1, .int .i64 p.2] 31))
            have HN4 : Hid (w1.heap.size ≤ (w3.alloc (.cells #[.int .i64 p.1, .int .i64 p.2] 31)).heap.size) := hid (by simp; omega)
            have hp00 : 0 ≤ p.1 := by omega
            clear hp0 hp1 ht hq HB3' HN3'
            go_wp2_with fail
            refine (push_l HQ4.out (fun k hk => Nat.le_trans HN4.out hk) (by omega) _ _).mono ?_
            rintro e w5 ⟨hq1, hq2⟩
            by_cases hc5 : p.1 ≤ el ys i2 ∧ el ys i2 ≤ 4351
            · obtain ⟨rfl, hq5, ht5⟩ := hq2 hc5.1 hc5.2
              have hl5 := ins_length (el ys i2) (1000 + (i2 : Int)) L4
              have HQ5 := hid hq5
              have HB5 := hid (ht5.below HB4.out HF.out)
              have HN5 := hid (Nat.le_trans HN4.out ht5.size)
              clear hq1 hq2 hq5 ht5
              by_cases hpos : 0 < p.1
              · go_wp2_with fail
                refine (push_l HQ5.out (fun k hk => Nat.le_trans HN5.out hk) (by omega) _ _).mono ?_
                rintro e w6 ⟨hq1, -⟩
                obtain ⟨rfl, rfl⟩ := hq1 (by omega)
                go_wp2_with fail
                go_roundw
                case rel => exact ⟨i2 + 1, _, p.1, by omega, by simp, rfl, HQ5, by omega, by omega, HB5, HN5⟩
                case measure => simp [intOf]; omega
              · go_wp2_with fail
                go_roundw
                case rel => exact ⟨i2 + 1, _, p.1, by omega, by simp, rfl, HQ5, by omega, by omega, HB5, HN5⟩
                case measure => simp [intOf]; omega
            · obtain ⟨rfl, rfl⟩ := hq1 (by omega)
              clear hq1 hq2
              have hnow1 := HQ4.out.now1
              rcases (by omega : el ys i2 < p.1 ∨ 4351 < el ys i2) with h5 | h5
              all_goals
                clear hc5
                by_cases hpos : 0 < p.1
                · go_wp2_with fail
                  refine (push_l HQ4.out (fun k hk => Nat.le_trans HN4.out hk) (by omega) _ _).mono ?_
                  rintro e w6 ⟨hq1, -⟩
                  obtain ⟨rfl, rfl⟩ := hq1 (by omega)
                  go_wp2_with fail
                  go_roundw
                  case rel => exact ⟨i2 + 1, _, p.1, by omega, by simp, rfl, HQ4, by omega, by omega, HB4, HN4⟩
                  case measure => simp [intOf]; omega
                · first
                  | (exfalso; omega)
                  | (go_wp2_with fail
                     go_roundw
                     case rel => exact ⟨i2 + 1, _, p.1, by omega, by simp, rfl, HQ4, by omega, by omega, HB4, HN4⟩
                     case measure => simp [intOf]; omega)
        · obtain rfl : i2 = len2 := by omega
          go_wp2_with (go_at_call 13; refine (now_l HQ3.out).mono ?_; rintro e w2 ⟨rfl, rfl⟩)
          go_ret
          exact ⟨rfl, HB3.out⟩
end Go.Proofs.Ytmbpdboengaclaa
