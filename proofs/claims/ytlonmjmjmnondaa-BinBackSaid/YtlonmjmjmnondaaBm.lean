/- The document's Seal and Open, walked. -/
import Derived.Test.YtlonmjmjmnondaaBl
namespace Go.Proofs.Ytlonmjmjmnondaa
set_option linter.unusedVariables false
set_option linter.unusedSimpArgs false
open Go.RowKit
attribute [local go_sem ↓] Go.wp_at_zero Go.wp_at_succ
theorem by8_le4 (n : Nat) : by8 (le4 n) = [.int .u8 ((n : Int) % 256), .int .u8 ((n : Int) / 256 % 256), .int .u8 ((n : Int) / 65536 % 256), .int .u8 ((n : Int) / 16777216 % 256)] := by
  simp [by8, le4]
def lit4 (N : Nat) : Array Value := #[.int .u8 ((N : Int) % 256), .int .u8 ((N : Int) / 256 % 256), .int .u8 ((N : Int) / 65536 % 256), .int .u8 ((N : Int) / 16777216 % 256)]
theorem sr_lit4 (w : World) (N : Nat) : SR (w.alloc (.cells #[.int .u8 ((N : Int) % 256), .int .u8 ((N : Int) / 256 % 256), .int .u8 ((N : Int) / 65536 % 256), .int .u8 ((N : Int) / 16777216 % 256)] 5)) (.slice (some ⟨w.heap.size, 0, none⟩) 4 4) 4 (by8 (le4 N)) := by
  rw [by8_le4]
  exact SR.of_SL (SL.lit w 5 1 4 (lit4 N) rfl (by simp [maxLen]))
set_option maxRecDepth 100000 in
set_option maxHeartbeats 2000000 in
theorem seal_d {w : World} {v : Value} {xs : List Int} (h : RB w v xs) (hx : Bytes xs) (hl : xs.length ≤ 10000000) : Calls Try.prog 27 #[v] w (NewB (sealB xs) w) := by
  obtain ⟨A, c, rfl, hc⟩ := h.form
  have HS := hid h
  have HX := hid hx
  obtain ⟨i0, hi0, hz0, hz1, hz2⟩ := info_parts info5
  have HNl : Hid (sumN xs < 4294967296) := hid (sumN_lt hx)
  obtain ⟨N, hN⟩ : ∃ N, sumN xs = N := ⟨_, rfl⟩
  have HN := hid hN
  obtain ⟨zs, hzs⟩ : ∃ zs, sealB xs = zs := ⟨_, rfl⟩
  have HLn : Hid (xs.length + 4 = zs.length) := hid (by rw [← hzs, sealB, List.length_append]; rfl)
  have HBn : Hid (by8 xs ++ by8 (le4 N) = by8 zs) := hid (by rw [← hzs, ← by8_append, sealB, hN])
  rw [hzs]
  have hall := hid (SR.below h (balloc (Below.refl _ w) (.cells #[] 5)))
  have hlit : Hid (SL (w.alloc (.cells #[] 5)) 5 1 (.slice (some ⟨w.heap.size, 0, none⟩) 0 0) 0 []) := hid (SL.lit w 5 1 0 #[] rfl (by simp [maxLen]))
  have HF := hid (balloc (Below.refl _ w) (.cells #[] 5))
  have hone := by8_one xs
  have hone4 := by8_one (le4 N)
  have h63 : xs.length ≤ maxLen := by simp only [maxLen]; omega
  have hbytes : xs.length * 1 ≤ 140737488355328 := by omega
  have h63b : zs.length ≤ maxLen := by have := HLn.out; simp only [maxLen]; omega
  have hbytesb : zs.length * 1 ≤ 140737488355328 := by have := HLn.out; omega
  have HN0 := hid (Nat.zero_add xs.length)
  clear h hx hN hzs
  go_enter Try.func27, Try.ntmps27
  go_wp2_with (first
    | (go_at_call 25; refine (sum_d HS.out HX.out).mono ?_; rintro e w2 ⟨rfl, rfl⟩; rw [HN.out])
    | (at_builtin; refine wpList_append_SRs rfl _ _ _ rfl 5 i0 _ 1 Try.underlying25 hi0 hz0 hz1 hz2 rfl (.slice A1 xs.length c1) xs.length (by8 xs) rfl (SL.alloc HS1.out _) _ 4 (by8 (le4 N)) rfl (sr_lit4 w1 N) hone4 zs.length (by8 zs) HLn.out HBn.out h63b hbytesb ?_; intro A3 c3 w3 hs3 hg3 ho3; have HS3 := hid hs3; have HG3 := hid hg3; have HO3 := hid ho3; clear hs3 hg3 ho3)
    | (at_builtin; refine wpList_append_SRs rfl _ _ _ rfl 5 i0 _ 1 Try.underlying25 hi0 hz0 hz1 hz2 rfl (.slice (some ⟨w.heap.size, 0, none⟩) 0 0) 0 [] rfl hlit.out _ xs.length (by8 xs) rfl hall.out hone xs.length (by8 xs) HN0.out rfl h63 hbytes ?_; intro A1 c1 w1 hs1 hg1 ho1; have HS1 := hid hs1; have HG1 := hid hg1; have HO1 := hid ho1; clear hs1 hg1 ho1))
  go_ret
  have hb1 : Below w.heap.size w w1 := HF.out.grown HG1.out (by rw [World.size_alloc]; omega) lit_own
  have ho1 : ∀ k, (Value.slice A1 xs.length c1).ownBlock = some k → w.heap.size ≤ k := fun k hk => by
    rcases HO1.out k hk with h | h
    · exact lit_own k h
    · rw [World.size_alloc] at h; omega
  exact newb_append (balloc hb1 _) HG3.out ho1 HO3.out HS3.out
def OpenD (v : Value) (xs : List Int) (w : World) (e : Ending) (w' : World) : Prop :=
  (xs.length < 4 → e = .returned (.tuple #[.slice none 0 0, .int .i64 9]) ∧ w = w') ∧
  (4 ≤ xs.length → sealB (headB xs) ≠ xs → e = .returned (.tuple #[.slice none 0 0, .int .i64 8]) ∧ Below w.heap.size w w') ∧
  (4 ≤ xs.length → sealB (headB xs) = xs → ∃ A c, e = .returned (.tuple #[.slice A (headB xs).length c, .int .i64 0]) ∧ RB w' (.slice A (headB xs).length c) (headB xs) ∧ Below w.heap.size w w')
set_option maxRecDepth 100000 in
set_option maxHeartbeats 2000000 in
theorem open_d {w : World} {v : Value} {xs : List Int} (h : RB w v xs) (hx : Bytes xs) (hl : xs.length ≤ 10000000) : Calls Try.prog 23 #[v] w (OpenD v xs w) := by
  obtain ⟨A, c, rfl, hc⟩ := h.form
  have HS := hid h
  have HX := hid hx
  by_cases h4 : xs.length < 4
  · have h42 : (xs.length : Int) < 4 := by omega
    clear h hx
    go_enter Try.func23, Try.ntmps23
    go_wp2
    go_ret2
    exact ⟨fun _ => ⟨rfl, rfl⟩, fun h => by omega, fun h => by omega⟩
  · have h42 : ¬ (xs.length : Int) < 4 := by omega
    obtain ⟨m, hm⟩ : ∃ m, xs.length - 4 = m := ⟨_, rfl⟩
    have hm4 : (xs.length : Int) - 4 = (m : Int) := by omega
    have hmc : (m : Int) ≤ (c : Int) := by omega
    have hm0 : (0 : Int) ≤ (m : Int) := by omega
    have htk : RB w (.slice A m c) (xs.take m) := h.take (by omega)
    have hhd : headB xs = xs.take m := by rw [headB, hm]
    have hml : m ≤ 10000000 := by omega
    obtain ⟨ys, hys⟩ : ∃ ys, xs.take m = ys := ⟨_, rfl⟩
    have hyl : ys.length = m := by rw [← hys, List.length_take]; omega
    rw [hys] at htk hhd
    have HTK := hid htk
    have HHD := hid hhd
    have HYX : Hid (Bytes ys) := hid (fun x hx => HX.out x (List.mem_of_mem_take (by rw [hys]; exact hx)))
    have HSX : Hid (Bytes (sealB ys)) := hid (fun x hx => by
      rw [sealB, List.mem_append] at hx
      rcases hx with h | h
      · exact HYX.out x h
      · exact le4_bytes _ x h)
    have hl3 : ys.length ≤ 10000000 := by omega
    have HYL := hid hyl
    unfold OpenD
    rw [hhd]
    clear h hx htk hhd hm hys hyl
    cases hE : eqB (sealB ys) xs
    all_goals
      have HE := hid hE
      clear hE
      go_enter Try.func23, Try.ntmps23
      go_wp2_with (first
        | (go_at_call 27; refine (seal_d HTK.out HYX.out hl3).mono ?_; rintro e w3 ⟨A3, c3, rfl, hb3, ho3, hw3⟩; have HB3 := hid hb3; have HW3 := hid hw3; clear hb3 ho3 hw3)
        | (go_at_call 17; refine (same_any HB3.out.rb (HS.out.below HW3.out) HSX.out HX.out).mono ?_; rintro e w4 ⟨he, rfl⟩; rw [HE.out] at he; subst he))
      go_ret2
    · have hne : sealB ys ≠ xs := of_decide_eq_false HE.out
      exact ⟨fun h => by omega, fun _ _ => ⟨rfl, HW3.out⟩, fun _ h => absurd h hne⟩
    · have heq : sealB ys = xs := of_decide_eq_true HE.out
      exact ⟨fun h => by omega, fun _ h => absurd heq h, fun _ _ => ⟨A, c, by rw [HYL.out]; rfl, by rw [HYL.out]; exact HTK.out.below HW3.out, HW3.out⟩⟩
end Go.Proofs.Ytlonmjmjmnondaa
