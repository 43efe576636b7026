/- BinSums: the law's own function, walked. -/
import Derived.Test.YtlonmjmjmnondaaBp
namespace Go.Proofs.Ytlonmjmjmnondaa
set_option linter.unusedVariables false
set_option linter.unusedSimpArgs false
open Go.RowKit
attribute [local go_sem ↓] Go.wp_at_zero Go.wp_at_succ
theorem sealB_length (xs : List Int) : (sealB xs).length = xs.length + 4 := by rw [sealB, List.length_append]; rfl
/-- what is opened: the bytes, the error -/
def openV (xs : List Int) : List Int × Int := if xs.length < 4 then ([], 9) else if sealB (headB xs) = xs then (headB xs, 0) else ([], 8)
def OpenR (ys : List Int) (err : Int) (w : World) (e : Ending) (w' : World) : Prop :=
  ∃ A c, e = .returned (.tuple #[.slice A ys.length c, .int .i64 err]) ∧ RB w' (.slice A ys.length c) ys ∧ Below w.heap.size w w'
theorem open_r {w : World} {v : Value} {xs ys : List Int} {err : Int} (h : RB w v xs) (hx : Bytes xs) (hl : xs.length ≤ 10000000) (hv : openV xs = (ys, err)) : Calls Try.prog 22 #[v] w (OpenR ys err w) := by
  refine (open_any h hx hl).mono fun e w' ⟨h1, h2, h3⟩ => ?_
  unfold openV at hv
  split at hv
  · rename_i h4
    obtain ⟨rfl, rfl⟩ := h1 h4
    obtain ⟨rfl, rfl⟩ := Prod.mk.inj hv
    exact ⟨none, 0, rfl, RB.nil _, Below.refl _ _⟩
  · rename_i h4
    split at hv
    · rename_i h5
      obtain ⟨A, c, he, hb, ho, hw⟩ := h3 (by omega) h5
      obtain ⟨rfl, rfl⟩ := Prod.mk.inj hv
      exact ⟨A, c, he, hb.rb, hw⟩
    · rename_i h5
      obtain ⟨rfl, hw⟩ := h2 (by omega) h5
      obtain ⟨rfl, rfl⟩ := Prod.mk.inj hv
      exact ⟨none, 0, rfl, RB.nil _, hw⟩
theorem open_rd {w : World} {v : Value} {xs ys : List Int} {err : Int} (h : RB w v xs) (hx : Bytes xs) (hl : xs.length ≤ 10000000) (hv : openV xs = (ys, err)) : Calls Try.prog 23 #[v] w (OpenR ys err w) := by
  refine (open_d h hx hl).mono fun e w' ⟨h1, h2, h3⟩ => ?_
  unfold openV at hv
  split at hv
  · rename_i h4
    obtain ⟨rfl, rfl⟩ := h1 h4
    obtain ⟨rfl, rfl⟩ := Prod.mk.inj hv
    exact ⟨none, 0, rfl, RB.nil _, Below.refl _ _⟩
  · rename_i h4
    split at hv
    · rename_i h5
      obtain ⟨A, c, he, hb, hw⟩ := h3 (by omega) h5
      obtain ⟨rfl, rfl⟩ := Prod.mk.inj hv
      exact ⟨A, c, he, hb, hw⟩
    · rename_i h5
      obtain ⟨rfl, hw⟩ := h2 (by omega) h5
      obtain ⟨rfl, rfl⟩ := Prod.mk.inj hv
      exact ⟨none, 0, rfl, RB.nil _, hw⟩
theorem openV_bytes {xs ys : List Int} {err : Int} (hx : Bytes xs) (hv : openV xs = (ys, err)) : Bytes ys := by
  unfold openV at hv
  split at hv
  · obtain ⟨rfl, rfl⟩ := Prod.mk.inj hv
    exact bytes_nil
  · split at hv
    · obtain ⟨rfl, rfl⟩ := Prod.mk.inj hv
      exact hx.head
    · obtain ⟨rfl, rfl⟩ := Prod.mk.inj hv
      exact bytes_nil
set_option maxRecDepth 100000 in
set_option maxHeartbeats 4000000 in
theorem sums_rb {w : World} {v : Value} {xs : List Int} (h : RB w v xs) (hx : Bytes xs) : Calls Try.prog 5 #[v] w fun e w' => e = .returned (.bool true) ∧ Below w.heap.size w w' := by
  obtain ⟨A, c, rfl, hc⟩ := h.form
  have hle := h.le
  have HS := hid h
  have HX := hid hx
  clear h hx
  by_cases hbig : (5000 : Int) < (xs.length : Int)
  · go_enter Try.func5, Try.ntmps5
    go_wp2_with (go_at_call 10; refine (alive_any _).mono ?_; rintro e w1 ⟨rfl, hb1⟩; have HB1 := hid hb1; clear hb1)
    go_ret
    exact ⟨rfl, HB1.out⟩
  · have hl : xs.length ≤ 10000000 := by omega
    obtain ⟨⟨ys, err⟩, hv⟩ : ∃ r, openV xs = r := ⟨_, rfl⟩
    have HV := hid hv
    have HY := hid (openV_bytes HX.out hv)
    have hl2 : (sealB xs).length ≤ 10000004 := by rw [sealB_length]; omega
    obtain ⟨zs, hzs⟩ : ∃ zs, sealB xs = zs := ⟨_, rfl⟩
    have HZ := hid hzs
    have HZB : Hid (Bytes zs) := hid (by rw [← hzs]; exact HX.out.sealed)
    clear hv hl2 hzs
    go_enter Try.func5, Try.ntmps5
    go_wp2_with (first
      | (go_at_call 10; refine (alive_any _).mono ?_; rintro e w1 ⟨rfl, hb1⟩; have HB1 := hid hb1; have HS1 := hid (HS.out.below hb1); clear hb1)
      | (go_at_call 22; refine (open_r HS1.out HX.out hl HV.out).mono ?_; rintro e w2 ⟨A2, c2, rfl, hb2, hw2⟩; have HB2 := hid hb2; have HW2 := hid (bthen HB1.out hw2); have HS2 := hid (HS.out.below HW2.out); clear hb2 hw2)
      | (go_at_call 23; refine (open_rd HS2.out HX.out hl HV.out).mono ?_; rintro e w3 ⟨A3, c3, rfl, hb3, hw3⟩; have HB3 := hid hb3; have HC3 := hid (HB2.out.below hw3); have HW3 := hid (bthen HW2.out hw3); have HS3 := hid (HS.out.below HW3.out); clear hb3 hw3)
      | (go_at_call 24; refine (sum_any HS3.out HX.out).mono ?_; rintro e w4 ⟨rfl, hw4⟩; have HB4 := hid (HB3.out.below hw4); have HC4 := hid (HC3.out.below hw4); have HW4 := hid (bthen HW3.out hw4); have HS4 := hid (HS.out.below HW4.out); clear hw4)
      | (go_at_call 25; refine (sum_d HS4.out HX.out).mono ?_; rintro e w5 ⟨rfl, rfl⟩)
      | (go_at_call 26; refine (seal_any HS4.out HX.out hl).mono ?_; rw [HZ.out]; rintro e w6 ⟨A6, c6, rfl, hb6, ho6, hw6⟩; have HD6 := hid hb6; have HB6 := hid (HB4.out.below hw6); have HC6 := hid (HC4.out.below hw6); have HW6 := hid (bthen HW4.out hw6); have HS6 := hid (HS.out.below HW6.out); clear hb6 ho6 hw6)
      | (go_at_call 27; refine (seal_d HS6.out HX.out hl).mono ?_; rw [HZ.out]; rintro e w7 ⟨A7, c7, rfl, hb7, ho7, hw7⟩; have HE7 := hid hb7; have HD7 := hid (HD6.out.below hw7); have HB7 := hid (HB6.out.below hw7); have HC7 := hid (HC6.out.below hw7); have HW7 := hid (bthen HW6.out hw7); clear hb7 ho7 hw7)
      | (have _hs := HSAME; go_at_call 17; refine (same_any HC7.out HB7.out HY.out HY.out).mono ?_; rintro e w9 ⟨rfl, rfl⟩; clear _hs; rw [eqB_self])
      | (go_at_call 17; refine (same_any HD7.out.rb HE7.out.rb HZB.out HZB.out).mono ?_; rintro e w8 ⟨rfl, rfl⟩; rw [eqB_self]; have HSAME : Hid True := hid trivial))
    go_ret
    exact ⟨rfl, HW7.out⟩
theorem sums_law (a : Option Addr) (len cap : Nat) (zs : List Int) (w : World) (hz : IsRow .u8 w a len cap zs) :
    Calls Try.prog 5 #[.slice a len cap] w fun e w' => e = .returned (.bool true) ∧ Below w.heap.size w w' := by
  obtain ⟨xs, rfl, hx, h⟩ := hz.rb
  exact sums_rb h hx
end Go.Proofs.Ytlonmjmjmnondaa
