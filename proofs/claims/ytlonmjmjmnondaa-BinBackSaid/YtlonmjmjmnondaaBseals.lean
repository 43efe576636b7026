/- BinSeals: the law's own function, walked. -/
import Derived.Test.YtlonmjmjmnondaaBq
namespace Go.Proofs.Ytlonmjmjmnondaa
set_option linter.unusedVariables false
set_option linter.unusedSimpArgs false
open Go.RowKit
attribute [local go_sem ↓] Go.wp_at_zero Go.wp_at_succ
theorem BS.item' {w : World} {g off n c : Nat} {xs : List Int} (h : BS w (.slice (some ⟨g, off, none⟩) n c) xs) (hn : xs.length = n) {i : Nat} (hi : i < n) :
    w.cell? ⟨g, off + i, none⟩ = some (.int .u8 (xs.getD i 0)) ∧ (∀ k, w.frozen? ⟨g, k, none⟩ = false) ∧ ∀ x : Int, BS (w.setCell ⟨g, off + i, none⟩ (.int .u8 x)) (.slice (some ⟨g, off, none⟩) n c) (xs.set i x) := by
  subst hn
  obtain ⟨g', off', e, h1, h2, h3⟩ := h.item hi
  simp only [Option.some.injEq, Addr.mk.injEq, and_true] at e
  obtain ⟨rfl, rfl⟩ := e
  refine ⟨by rw [h1, List.getD_eq_getElem?_getD, List.getElem?_eq_getElem hi]; rfl, h2, fun x => ?_⟩
  have := SL.set_ h (j := i) (by omega) (.int .u8 x)
  rw [← by8_set] at this
  unfold BS
  rw [List.length_set]
  exact this
theorem BS.place {w : World} {A : Option Addr} {c : Nat} {xs : List Int} (h : BS w (.slice A xs.length c) xs) (hn : 0 < xs.length) : ∃ g off, A = some ⟨g, off, none⟩ := by
  obtain ⟨g, off, e, _⟩ := h.item hn
  exact ⟨g, off, e⟩
theorem shr_byte (t i : Nat) : (t : Int) / 2 ^ (8 * i) % 256 = ((t / 256 ^ i % 256 : Nat) : Int) := by
  rw [show (256 : Nat) ^ i = 2 ^ (8 * i) by rw [Nat.pow_mul]]
  simp
theorem openV_seal (xs : List Int) : openV (sealB xs) = (xs, 0) := by
  have h1 : headB (sealB xs) = xs := by rw [headB, sealB_length, Nat.add_sub_cancel, sealB, List.take_left]
  rw [openV, if_neg (by rw [sealB_length]; omega), h1, if_pos rfl]
set_option maxRecDepth 100000 in
set_option maxHeartbeats 4000000 in
theorem seals_rb {w : World} {v : Value} {xs : List Int} (h : RB w v xs) (hx : Bytes xs) (p t : Nat) (hp : p < 65536) (ht : t < 4294967296) :
    Calls Try.prog 6 #[v, .int .u16 (p : Int), .int .u32 (t : Int)] w fun e w' => e = .returned (.bool true) ∧ Below w.heap.size w w' := by
  obtain ⟨A, c, rfl, hc⟩ := h.form
  have hle := h.le
  have HS := hid h
  have HX := hid hx
  clear h hx
  by_cases hbig : (5000 : Int) < (xs.length : Int)
  · go_enter Try.func6, Try.ntmps6
    go_wp2_with (go_at_call 10; refine (alive_any _).mono ?_; rintro e w1 ⟨rfl, hb1⟩; have HB1 := hid hb1; clear hb1)
    go_ret
    exact ⟨rfl, HB1.out⟩
  · have hl : xs.length ≤ 10000000 := by omega
    obtain ⟨zs, hzs⟩ : ∃ zs, sealB xs = zs := ⟨_, rfl⟩
    have HZ := hid hzs
    have HZB : Hid (Bytes zs) := hid (by rw [← hzs]; exact HX.out.sealed)
    have HV : Hid (openV zs = (xs, 0)) := hid (by rw [← hzs]; exact openV_seal xs)
    have hzl : zs.length = xs.length + 4 := by rw [← hzs, sealB_length]
    have hzi : ((zs.length : Int) != (xs.length : Int) + 4) = false := by
      have : (zs.length : Int) = (xs.length : Int) + 4 := by omega
      rw [this]; simp
    have hl2 : zs.length ≤ 10000000 := by omega
    have HZL := hid hzl
    obtain ⟨m, hm⟩ : ∃ m, xs.length + 1 = m := ⟨_, rfl⟩
    have hz3 : (zs.length : Int) - 3 = (m : Int) := by omega
    have hm0 : (0 : Int) < (m : Int) := by omega
    obtain ⟨k, hk⟩ : ∃ k, p % m = k := ⟨_, rfl⟩
    have hkm : k < m := by rw [← hk]; exact Nat.mod_lt _ (by omega)
    have hk2 : (p : Int) % (m : Int) = (k : Int) := by rw [← hk]; rfl
    have hk4 : k + 4 ≤ zs.length := by omega
    have HK4 := hid hk4
    have hm5 : m ≤ 10000000 := by omega
    have HREG : Hid (regN allOnes zs = stps 32 allOnes) := hid (by rw [← hzs]; exact sealed_reg HX.out)
    clear hzs hzl hm hk hk4
    go_enter Try.func6, Try.ntmps6
    go_wp2_with (first
      | (go_at_call 10; refine (alive_any _).mono ?_; rintro e w1 ⟨rfl, hb1⟩; have HB1 := hid hb1; have HS1 := hid (HS.out.below hb1); clear hb1)
      | (go_at_call 26; refine (seal_any HS1.out HX.out hl).mono ?_; rw [HZ.out]; rintro e w2 ⟨A2, c2, rfl, hb2, ho2, hw2⟩; have HB2 := hid hb2; have HO2 : Hid (∀ k, (Value.slice A2 zs.length c2).ownBlock = some k → w.heap.size ≤ k) := hid (fun k hk => Nat.le_trans HB1.out.size (ho2 k hk)); have HW2 := hid (bthen HB1.out hw2); clear hb2 ho2 hw2)
      | (go_at_call 22; refine (open_r HB2.out.rb HZB.out hl2 HV.out).mono ?_; rintro e w3 ⟨A3, c3, rfl, hb3, hw3⟩; have HB3 := hid hb3; have HC3 := hid (HB2.out.below hw3); have HW3 := hid (bthen HW2.out hw3); have HS3 := hid (HS.out.below HW3.out); clear hb3 hw3)
      | (go_at_call 17; refine (same_any HB3.out HS3.out HX.out HX.out).mono ?_; rintro e w8 ⟨rfl, rfl⟩; rw [eqB_self]))
    rw [hk2]
    obtain ⟨g, off, rfl⟩ := HC3.out.place (by have := HZL.out; omega)
    have hg0 : Hid (w.heap.size ≤ g) := hid (HO2.out g rfl)
    clear hz3 hm0 hkm hk2 hm5 hp
    go_loopw [48] (fun iv wr => ∃ i : Nat, i ≤ 4 ∧ iv = .int .i64 (i : Int) ∧ Hid (BS wr (.slice (some ⟨g, off, none⟩) zs.length c2) (xwin zs k t i)) ∧ Hid (Below w.heap.size w wr)) (fun iv _ => 4 - (intOf iv).toNat)
    case atStart => exact ⟨0, by omega, rfl, HC3, HW3⟩
    case round =>
      obtain ⟨i, hi, rfl, HBw, HWw⟩ := hrel
      by_cases hlt : i < 4
      · have hlt2 : (i : Int) < 4 := by omega
        obtain ⟨j, hj⟩ : ∃ j, k + i = j := ⟨_, rfl⟩
        have hji : (k : Int) + (i : Int) = (j : Int) := by omega
        have hjl : j < zs.length := by have := HK4.out; omega
        have hjl2 : (j : Int) < (zs.length : Int) := by omega
        have hj0 : (0 : Int) ≤ (j : Int) := by omega
        obtain ⟨e1, f1, hput⟩ := HBw.out.item' (xwin_length _ _ _ _) hjl
        have HPUT := hid hput
        have hby := xwin_bytes HZB.out k t i
        obtain ⟨b, hb⟩ : ∃ b : Nat, (xwin zs k t i).getD j 0 = (b : Int) ∧ b < 256 := by
          have hjx : j < (xwin zs k t i).length := by rw [xwin_length]; exact hjl
          have h1 := hby _ (List.getElem_mem hjx)
          refine ⟨((xwin zs k t i)[j]).toNat, ?_, by omega⟩
          rw [List.getD_eq_getElem?_getD, List.getElem?_eq_getElem hjx]
          simp only [Option.getD_some]
          omega
        have HNX : Hid (xwin zs k t (i + 1) = (xwin zs k t i).set j ((b ^^^ (t / 256 ^ i % 256) : Nat) : Int)) := hid (by rw [xwin, hj, hb.1, Int.toNat_natCast])
        rw [hb.1] at e1
        have hb2 := hb.2
        have HXR : Hid (bits .xor .u8 (b : Int) ((t : Int) / 2 ^ (8 * i) % 256) = ((b ^^^ (t / 256 ^ i % 256) : Nat) : Int)) := hid (by rw [shr_byte]; exact xor_u8 hb.2 (Nat.mod_lt _ (by decide)))
        clear hput hby hb hj
        go_wp2
        rw [HXR.out]
        refine ⟨⟨i + 1, by omega, by simp, hid (by rw [HNX.out]; exact HPUT.out _), hid (HWw.out.setCell (p := ⟨g, off + j, none⟩) hg0.out _)⟩, ?_⟩
        simp [intOf]; omega
      · obtain rfl : i = 4 := by omega
        have HZ4 := hid (xwin_bytes HZB.out k t 4)
        have hsl : (xwin zs k t 4).length = zs.length := xwin_length _ _ _ _
        by_cases h0 : t = 0
        · have HOV : Hid (openV (xwin zs k t 4) = (xs, 0)) := hid (by rw [h0, xwin_none HK4.out HZB.out]; exact HV.out)
          obtain ⟨ss, hss⟩ : ∃ ss, xwin zs k t 4 = ss := ⟨_, rfl⟩
          rw [hss] at HOV HZ4 HBw hsl
          have hl4 : ss.length ≤ 10000000 := by omega
          subst h0
          clear hss hsl
          go_wp2_with (go_at_call 22; refine (open_r HBw.out.rb HZ4.out hl4 HOV.out).mono ?_; rintro e w5 ⟨A5, c5, rfl, hb5, hw5⟩; have HW5 := hid (bthen HWw.out hw5); clear hb5 hw5)
          go_ret
          exact ⟨rfl, HW5.out⟩
        · have HOV : Hid (openV (xwin zs k t 4) = ([], 8)) := hid (by
            have h4 := HK4.out
            rw [openV, if_neg (by omega), if_neg (xwin_told h4 HZB.out ht h0 HREG.out)])
          obtain ⟨ss, hss⟩ : ∃ ss, xwin zs k t 4 = ss := ⟨_, rfl⟩
          rw [hss] at HOV HZ4 HBw hsl
          have hl4 : ss.length ≤ 10000000 := by omega
          have ht0 : ((t : Int) == 0) = false := by simp; omega
          clear hss hsl h0
          go_wp2_with (go_at_call 22; refine (open_r HBw.out.rb HZ4.out hl4 HOV.out).mono ?_; rintro e w5 ⟨A5, c5, rfl, hb5, hw5⟩; have HW5 := hid (bthen HWw.out hw5); clear hb5 hw5)
          go_ret
          exact ⟨rfl, HW5.out⟩
theorem seals_law (a : Option Addr) (len cap : Nat) (zs : List Int) (p t : Int) (w : World) (hz : IsRow .u8 w a len cap zs) (hp : (Lit.int .u16 p).wf = true) (ht : (Lit.int .u32 t).wf = true) :
    Calls Try.prog 6 #[.slice a len cap, .int .u16 p, .int .u32 t] w fun e w' => e = .returned (.bool true) ∧ Below w.heap.size w w' := by
  obtain ⟨xs, rfl, hx, h⟩ := hz.rb
  have h1 : (decide (IntKind.u16.min ≤ p) && decide (p ≤ IntKind.u16.max)) = true := hp
  have h2 : (decide (IntKind.u32.min ≤ t) && decide (t ≤ IntKind.u32.max)) = true := ht
  rw [Bool.and_eq_true, decide_eq_true_eq, decide_eq_true_eq] at h1 h2
  have e1 : IntKind.u16.min = 0 ∧ IntKind.u16.max = 65535 := by decide
  have e2 : IntKind.u32.min = 0 ∧ IntKind.u32.max = 4294967295 := by decide
  obtain ⟨p, rfl⟩ : ∃ n : Nat, p = n := ⟨p.toNat, by omega⟩
  obtain ⟨t, rfl⟩ : ∃ n : Nat, t = n := ⟨t.toNat, by omega⟩
  exact seals_rb h hx p t (by omega) (by omega)
end Go.Proofs.Ytlonmjmjmnondaa
