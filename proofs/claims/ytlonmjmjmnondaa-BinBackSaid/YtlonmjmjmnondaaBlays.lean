/- BinLays: the law's own function, walked. -/
import Derived.Test.YtlonmjmjmnondaaAe
namespace Go.Proofs.Ytlonmjmjmnondaa
set_option linter.unusedVariables false
set_option linter.unusedSimpArgs false
open Go.RowKit
attribute [local go_sem ↓] Go.wp_at_zero Go.wp_at_succ
set_option maxRecDepth 100000 in
set_option maxHeartbeats 4000000 in
theorem lays_law (a : Option Addr) (len cap : Nat) (acts : Nat → Act1) (w : World) (h : IsActs w a len cap acts) :
    Calls Try.prog 3 #[.slice a len cap] w fun e w' => e = .returned (.bool true) ∧ Below w.heap.size w w' := by
  have HZ := hid h
  have hle := h.le
  clear h
  cases hg : greatB acts len
  case true =>
    have HG := hid hg
    clear hg
    go_enter Try.func3, Try.ntmps3
    go_wp2_with (first
      | (go_at_call 10; refine (alive_any _).mono ?_; rintro e w1 ⟨rfl, hb1⟩; have HB1 := hid hb1; have HZ1 : Hid (IsActs w1 a len cap acts) := hid (HZ.out.below hb1); clear hb1)
      | (go_at_call 11; refine (great_any HZ1.out).mono ?_; rintro e w2 ⟨he, hb2⟩; rw [HG.out] at he; subst he; have HB2 := hid (bthen HB1.out hb2); clear hb2))
    go_ret
    exact ⟨rfl, HB2.out⟩
  case false =>
    have HG := hid hg
    have hl2 : len ≤ 200 ∧ sumA acts len ≤ 20000 := by
      rw [greatB, Bool.or_eq_false_iff, decide_eq_false_iff_not, decide_eq_false_iff_not] at hg
      omega
    have HL2 := hid hl2
    clear hg hl2
    obtain ⟨i0, hin0, hz0, hz1, hz2⟩ := info_parts info5
    go_enter Try.func3, Try.ntmps3
    go_wp2_with (first
      | (go_at_call 10; refine (alive_any _).mono ?_; rintro e w1 ⟨rfl, hb1⟩; have HB1 := hid hb1; have HZ1 : Hid (IsActs w1 a len cap acts) := hid (HZ.out.below hb1); clear hb1)
      | (go_at_call 11; refine (great_any HZ1.out).mono ?_; rintro e w2 ⟨he, hb2⟩; rw [HG.out] at he; subst he; have HB2 := hid (bthen HB1.out hb2); clear hb2))
    have HB3 := hid (balloc HB2.out (.cells #[.slice none 0 0] 27))
    have HM3 : Hid (Mid w.heap.size (w2.alloc (.cells #[.slice none 0 0] 27)) w2.heap.size (.slice none 0 0) [] []) := hid ⟨fun k => k = w2.heap.size, WL.fresh w2 _ rfl, BS.nil _, fun k hk => by (rw [World.size_alloc]; have := HB2.out.size; omega), fun k hk => by simp [Value.ownBlock] at hk⟩
    go_loopw [4, 15] (fun bv iv wr => ∃ (i c0 : Nat) (A0 : Option Addr) (zs : List Int), i ≤ len ∧ bv = .slice A0 zs.length c0 ∧ iv = .int .i64 (i : Int) ∧ Hid (Mid w.heap.size wr w2.heap.size (.slice A0 zs.length c0) zs zs) ∧ Hid (Bytes zs) ∧ Hid (zs.length ≤ 5 * i + sumA acts i) ∧ Hid (Below w.heap.size w wr)) (fun _ iv _ => len - (intOf iv).toNat)
    case atStart => exact ⟨0, 0, none, [], by omega, rfl, rfl, HM3, hid bytes_nil, hid (by simp), HB3⟩
    case round =>
      obtain ⟨i, c0, A0, zs, hi, rfl, rfl, HM, HZB, HZL, HBw⟩ := hrel
      by_cases hlt : i < len
      · have hlt2 : (i : Int) < (len : Int) := by omega
        have hi0 : (0 : Int) ≤ (i : Int) := by omega
        obtain ⟨x, kd, n, s, A, c, xs, rfl, hac, a0, a1, a2, a3, hrb, hby, hs, hxl⟩ := HZ.out.get HBw.out hlt
        have hba := balloc (Below.refl _ wr) (.cells #[.int .i64 kd, .int .i64 n, .string s, .slice A xs.length c] 29)
        have HBn := hid (bthen HBw.out hba)
        have HMn := hid (HM.out.below hba)
        have HRn := hid (hrb.below HBn.out)
        have HRn0 := hid hrb
        have hsz := HBn.out.size
        have hsum := sumA_mono acts (show i + 1 ≤ len by omega)
        have hsx : sumA acts (i + 1) = sumA acts i + ((if s.size ≤ 1048576 then s.size else 0) + xs.length) := by rw [sumA, actSize, hac]
        have hzl : zs.length ≤ 21000 - xs.length - (if s.size ≤ 1048576 then s.size else 0) := by have := HZL.out; have := HL2.out; omega
        have HSX := hid hsx
        have HSUM := hid hsum
        have HBY := hid hby
        clear hac hrb hby hba hsum hsx
        by_cases hk1 : kd = 1
        · subst hk1
          by_cases hst : 1048576 < s.size
          · skip
            have hsti : (1048576 : Int) < (s.size : Int) := by omega
            obtain ⟨F', hwF, hF', hFB, hmid⟩ := HM.out.call' HBw.out.size (.cells #[.int .i64 1, .int .i64 n, .string s, .slice A xs.length c] 29)
            have HWF := hid hwF
            have HF' := hid hF'
            have hzl9 : zs.length ≤ 90000000 := by omega
            have HST := hid hst
            clear hwF hF' hFB hmid hzl hst
            go_wp2_with (go_at_call 12; refine (text_w HWF.out HF'.out hzl9 s hs).mono ?_; rintro e w3 ⟨hp, -⟩; obtain ⟨rfl, rfl⟩ := hp HST.out; clear hp)
            exact ⟨⟨i + 1, c0, A0, zs, by omega, rfl, by simp, HMn, HZB, hid (by have h1 := HZL.out; have h2 := HSX.out; omega), HBn⟩, by simp [intOf]; omega⟩
          · skip
            have hsti : ¬ (1048576 : Int) < (s.size : Int) := by omega
            have hst' : s.size ≤ 1048576 := by omega
            rw [if_pos hst'] at hzl
            have hsx2 := HSX.out
            rw [if_pos hst'] at hsx2
            have HSX := hid hsx2
            clear hsx2
            obtain ⟨ys, hys⟩ : ∃ ys, encN s.size ++ bytesS s = ys := ⟨_, rfl⟩
            have hyl : ys.length ≤ 5 + s.size := by rw [← hys, List.length_append, bytesS_length]; have := encN_five (n := s.size) (by omega); omega
            have HYB : Hid (Bytes ys) := hid (by rw [← hys]; exact (enc_bytes (by omega)).append (bytesS_bytes s))
            obtain ⟨zs2, hz2'⟩ : ∃ zs2, zs ++ ys = zs2 := ⟨_, rfl⟩
            have HZ2 := hid hz2'
            have HYS := hid hys
            have HLn : Hid (zs.length + ys.length = zs2.length) := hid (by rw [← hz2', List.length_append])
            have HBn' : Hid (by8 zs ++ by8 ys = by8 zs2) := hid (by rw [← hz2', by8_append])
            have HZL2 : Hid (zs2.length ≤ 5 * (i + 1) + sumA acts (i + 1)) := hid (by have h1 := HZL.out; have h2 := HSX.out; have h3 := HLn.out; omega)
            have hz2l : zs2.length ≤ 21000 := by have h1 := HZL2.out; have h2 := HL2.out; have h3 := HSUM.out; omega
            have h63 : zs2.length ≤ maxLen := by simp only [maxLen]; omega
            have hby1 : zs2.length * 1 ≤ 140737488355328 := by omega
            have hone := by8_one ys
            have HZB2 : Hid (Bytes zs2) := hid (by rw [← hz2']; exact HZB.out.append HYB.out)
            obtain ⟨F', hwF, hF', hFB, hmid⟩ := HM.out.call' HBw.out.size (.cells #[.int .i64 1, .int .i64 n, .string s, .slice A xs.length c] 29)
            have HWF := hid hwF
            have HF' := hid hF'
            have HFB := hid hFB
            have HMID := hid hmid
            have hzl9 : zs.length ≤ 90000000 := by omega
            have hzl10 : zs.length ≤ 100000000 := by omega
            clear hwF hF' hFB hmid hys hz2' hyl hz2l
            have HST := hid hst'
            have HZ3 : Hid (zs ++ encN s.size ++ bytesS s = zs2) := hid (by rw [List.append_assoc, HYS.out, HZ2.out])
            clear hst hst' hzl
            go_wp2_with (first
              | (go_at_call 12; refine (text_w HWF.out HF'.out hzl9 s hs).mono ?_; rintro e w3 ⟨-, hp⟩; obtain ⟨rfl, hw3, ht3⟩ := hp HST.out; rw [HZ3.out] at hw3; obtain ⟨hm3, hc3⟩ := HMID.out _ _ hw3 ht3; have HC3 := hid hc3; have e1 : w3.cell? ⟨wr.heap.size, 1, none⟩ = some (.int .i64 n) := (by rw [cell_of_row _ _ 1 _ _ _ HC3.out]; rfl); have e2 : w3.cell? ⟨wr.heap.size, 2, none⟩ = some (.string s) := (by rw [cell_of_row _ _ 2 _ _ _ HC3.out]; rfl); have e3 : w3.cell? ⟨wr.heap.size, 3, none⟩ = some (.slice A xs.length c) := (by rw [cell_of_row _ _ 3 _ _ _ HC3.out]; rfl); have HM3 := hid hm3; have HB3' := hid (ht3.below HBn.out HFB.out); clear hp hw3 ht3 hm3 hc3)
              | (go_at_call 13; refine (text_d s HST.out _).mono ?_; rw [HYS.out]; rintro e w5 ⟨A5, c5, rfl, hb5, ho5, hw5⟩; have HY5 := hid hb5; have HM5 := hid (HM3.out.below hw5); have HB5 := hid (bthen HB3'.out hw5); clear hb5 ho5 hw5)
              | (at_builtin; refine wpList_append_SRs rfl _ _ _ rfl 5 i0 _ 1 Try.underlying25 hin0 hz0 hz1 hz2 rfl (.slice A0 zs.length c0) zs.length (by8 zs) rfl HM5.out.bs _ ys.length (by8 ys) rfl HY5.out.rb hone zs2.length (by8 zs2) HLn.out HBn'.out h63 hby1 ?_; intro A6 c6 w6 hs6 hg6 ho6; have HM6 := hid (HM5.out.push HB5.out.size hs6 hg6 ho6); have HB6 := hid (HB5.out.grown hg6 HB5.out.size HM5.out.own); clear hs6 hg6 ho6))
            exact ⟨⟨i + 1, c6, A6, zs2, by omega, rfl, by simp, HM6, HZB2, HZL2, HB6⟩, by simp [intOf]; omega⟩
        · by_cases hk2 : kd = 2
          · subst hk2
            clear hk1
            obtain ⟨ys, hys⟩ : ∃ ys, xs = ys := ⟨_, rfl⟩
            have hyl : ys.length ≤ xs.length := by rw [hys]; exact Nat.le_refl _
            have HYB : Hid (Bytes ys) := hid (by rw [← hys]; exact HBY.out)
            obtain ⟨zs2, hz2'⟩ : ∃ zs2, zs ++ ys = zs2 := ⟨_, rfl⟩
            have HZ2 := hid hz2'
            have HYS := hid hys
            have HLn : Hid (zs.length + ys.length = zs2.length) := hid (by rw [← hz2', List.length_append])
            have HBn' : Hid (by8 zs ++ by8 ys = by8 zs2) := hid (by rw [← hz2', by8_append])
            have HZL2 : Hid (zs2.length ≤ 5 * (i + 1) + sumA acts (i + 1)) := hid (by have h1 := HZL.out; have h2 := HSX.out; have h3 := HLn.out; omega)
            have hz2l : zs2.length ≤ 21000 := by have h1 := HZL2.out; have h2 := HL2.out; have h3 := HSUM.out; omega
            have h63 : zs2.length ≤ maxLen := by simp only [maxLen]; omega
            have hby1 : zs2.length * 1 ≤ 140737488355328 := by omega
            have hone := by8_one ys
            have HZB2 : Hid (Bytes zs2) := hid (by rw [← hz2']; exact HZB.out.append HYB.out)
            obtain ⟨F', hwF, hF', hFB, hmid⟩ := HM.out.call' HBw.out.size (.cells #[.int .i64 2, .int .i64 n, .string s, .slice A xs.length c] 29)
            have HWF := hid hwF
            have HF' := hid hF'
            have HFB := hid hFB
            have HMID := hid hmid
            have hzl9 : zs.length ≤ 90000000 := by omega
            have hzl10 : zs.length ≤ 100000000 := by omega
            have hxl8 : ys.length ≤ 100000000 := by have h1 := HLn.out; omega
            clear hwF hF' hFB hmid hz2' hyl hz2l
            subst hys
            clear hzl hxl
            go_wp2_with (first
              | (go_at_call 14; refine (raw_w HWF.out HF'.out hzl10 HRn.out hxl8).mono ?_; rintro e w5 ⟨rfl, hw3, ht3⟩; rw [HZ2.out] at hw3; obtain ⟨hm3, hc3⟩ := HMID.out _ _ hw3 ht3; have HC3 := hid hc3; have e1 : w5.cell? ⟨wr.heap.size, 1, none⟩ = some (.int .i64 n) := (by rw [cell_of_row _ _ 1 _ _ _ HC3.out]; rfl); have e2 : w5.cell? ⟨wr.heap.size, 2, none⟩ = some (.string s) := (by rw [cell_of_row _ _ 2 _ _ _ HC3.out]; rfl); have e3 : w5.cell? ⟨wr.heap.size, 3, none⟩ = some (.slice A xs.length c) := (by rw [cell_of_row _ _ 3 _ _ _ HC3.out]; rfl); have HM5 := hid hm3; have HB5 := hid (ht3.below HBn.out HFB.out); have HR5 := hid (HRn0.out.below HB5.out); clear hw3 ht3 hm3 hc3)
              | (at_builtin; refine wpList_append_SRs rfl _ _ _ rfl 5 i0 _ 1 Try.underlying25 hin0 hz0 hz1 hz2 rfl (.slice A0 zs.length c0) zs.length (by8 zs) rfl HM5.out.bs _ xs.length (by8 xs) rfl HR5.out hone zs2.length (by8 zs2) HLn.out HBn'.out h63 hby1 ?_; intro A6 c6 w6 hs6 hg6 ho6; have HM6 := hid (HM5.out.push HB5.out.size hs6 hg6 ho6); have HB6 := hid (HB5.out.grown hg6 HB5.out.size HM5.out.own); clear hs6 hg6 ho6))
            exact ⟨⟨i + 1, c6, A6, zs2, by omega, rfl, by simp, HM6, HZB2, HZL2, HB6⟩, by simp [intOf]; omega⟩
          · by_cases hn : n < 0 ∨ 1073741824 < n
            · skip
              have HN := hid hn
              obtain ⟨F', hwF, hF', hFB, hmid⟩ := HM.out.call' HBw.out.size (.cells #[.int .i64 kd, .int .i64 n, .string s, .slice A xs.length c] 29)
              have HWF := hid hwF
              have HF' := hid hF'
              have hzl10 : zs.length ≤ 100000000 := by omega
              clear hwF hF' hFB hmid hzl
              rcases hn with hn | hn
              all_goals
                go_wp2_with (go_at_call 15; refine (num_w HWF.out HF'.out hzl10 n).mono ?_; rintro e w3 ⟨hp, -⟩; obtain ⟨rfl, rfl⟩ := hp HN.out; clear hp)
                exact ⟨⟨i + 1, c0, A0, zs, by omega, rfl, by simp, HMn, HZB, hid (by have h1 := HZL.out; have h2 := HSX.out; omega), HBn⟩, by simp [intOf]; omega⟩
            · skip
              obtain ⟨m, rfl⟩ : ∃ m : Nat, n = m := ⟨n.toNat, by omega⟩
              have hm : m ≤ 1073741824 := by omega
              have hmi : (m : Int) ≤ 1073741824 := by omega
              have hm0 : (0 : Int) ≤ (m : Int) := by omega
              obtain ⟨ys, hys⟩ : ∃ ys, encN m = ys := ⟨_, rfl⟩
              have hyl : ys.length ≤ 5 := by rw [← hys]; exact encN_five hm
              have HYB : Hid (Bytes ys) := hid (by rw [← hys]; exact enc_bytes hm)
              obtain ⟨zs2, hz2'⟩ : ∃ zs2, zs ++ ys = zs2 := ⟨_, rfl⟩
              have HZ2 := hid hz2'
              have HYS := hid hys
              have HLn : Hid (zs.length + ys.length = zs2.length) := hid (by rw [← hz2', List.length_append])
              have HBn' : Hid (by8 zs ++ by8 ys = by8 zs2) := hid (by rw [← hz2', by8_append])
              have HZL2 : Hid (zs2.length ≤ 5 * (i + 1) + sumA acts (i + 1)) := hid (by have h1 := HZL.out; have h2 := HSX.out; have h3 := HLn.out; omega)
              have hz2l : zs2.length ≤ 21000 := by have h1 := HZL2.out; have h2 := HL2.out; have h3 := HSUM.out; omega
              have h63 : zs2.length ≤ maxLen := by simp only [maxLen]; omega
              have hby1 : zs2.length * 1 ≤ 140737488355328 := by omega
              have hone := by8_one ys
              have HZB2 : Hid (Bytes zs2) := hid (by rw [← hz2']; exact HZB.out.append HYB.out)
              obtain ⟨F', hwF, hF', hFB, hmid⟩ := HM.out.call' HBw.out.size (.cells #[.int .i64 kd, .int .i64 (m : Int), .string s, .slice A xs.length c] 29)
              have HWF := hid hwF
              have HF' := hid hF'
              have HFB := hid hFB
              have HMID := hid hmid
              have hzl9 : zs.length ≤ 90000000 := by omega
              have hzl10 : zs.length ≤ 100000000 := by omega
              clear hwF hF' hFB hmid hys hz2' hyl hz2l
              have HNUM := hid (num_d (m + 1) m (by omega) hm)
              clear hn hzl
              go_wp2_with (first
                | (go_at_call 15; refine (num_w HWF.out HF'.out hzl10 _).mono ?_; rintro e w3 ⟨-, hp⟩; obtain ⟨rfl, hw3, ht3⟩ := hp hm0 hmi; rw [Int.toNat_natCast, HYS.out, HZ2.out] at hw3; obtain ⟨hm3, hc3⟩ := HMID.out _ _ hw3 ht3; have HC3 := hid hc3; have e1 : w3.cell? ⟨wr.heap.size, 1, none⟩ = some (.int .i64 (m : Int)) := (by rw [cell_of_row _ _ 1 _ _ _ HC3.out]; rfl); have e2 : w3.cell? ⟨wr.heap.size, 2, none⟩ = some (.string s) := (by rw [cell_of_row _ _ 2 _ _ _ HC3.out]; rfl); have e3 : w3.cell? ⟨wr.heap.size, 3, none⟩ = some (.slice A xs.length c) := (by rw [cell_of_row _ _ 3 _ _ _ HC3.out]; rfl); have HM3 := hid hm3; have HB3' := hid (ht3.below HBn.out HFB.out); clear hp hw3 ht3 hm3 hc3)
                | (go_at_call 16; refine (HNUM.out _).mono ?_; rw [HYS.out]; rintro e w5 ⟨A5, c5, rfl, hb5, ho5, hw5⟩; have HY5 := hid hb5; have HM5 := hid (HM3.out.below hw5); have HB5 := hid (bthen HB3'.out hw5); clear hb5 ho5 hw5)
                | (at_builtin; refine wpList_append_SRs rfl _ _ _ rfl 5 i0 _ 1 Try.underlying25 hin0 hz0 hz1 hz2 rfl (.slice A0 zs.length c0) zs.length (by8 zs) rfl HM5.out.bs _ ys.length (by8 ys) rfl HY5.out.rb hone zs2.length (by8 zs2) HLn.out HBn'.out h63 hby1 ?_; intro A6 c6 w6 hs6 hg6 ho6; have HM6 := hid (HM5.out.push HB5.out.size hs6 hg6 ho6); have HB6 := hid (HB5.out.grown hg6 HB5.out.size HM5.out.own); clear hs6 hg6 ho6))
              exact ⟨⟨i + 1, c6, A6, zs2, by omega, rfl, by simp, HM6, HZB2, HZL2, HB6⟩, by simp [intOf]; omega⟩
      · obtain rfl : i = len := by omega
        obtain ⟨F, hw, hs, hf, hv⟩ := HM.out
        have HW := hid hw
        have HS := hid hs
        have hzl : zs.length ≤ 140737488351232 := by have := HZL.out; have := HL2.out; omega
        clear hw hs hf hv
        go_wp2_with (first
          | (go_at_call 18; refine (bytes_w HW.out hzl).mono ?_; rintro e w8 ⟨A8, c8, rfl, hb8, ho8, hw8⟩; have HY8 := hid hb8; have HS8 := hid (HS.out.below hw8); have HB8 := hid (bthen HBw.out hw8); clear hb8 ho8 hw8)
          | (go_at_call 17; refine (same_any HY8.out.rb HS8.out.rb HZB.out HZB.out).mono ?_; rintro e w9 ⟨rfl, rfl⟩; rw [eqB_self]))
        go_ret
        exact ⟨rfl, HB8.out⟩
end Go.Proofs.Ytlonmjmjmnondaa
