/- BinReads: the law's own function, walked. -/
import Derived.Test.YtlonmjmjmnondaaBforms
namespace Go.Proofs.Ytlonmjmjmnondaa
set_option linter.unusedVariables false
set_option linter.unusedSimpArgs false
open Go.RowKit
attribute [local go_sem ↓] Go.wp_at_zero Go.wp_at_succ
theorem num_r2 {F : Nat → Prop} {w : World} {q : Nat} {xs : List Int} (h : WL 67 F w q xs) (hx : Bytes xs) {N er : Int} {k : Nat} (hf : fst 0 0 xs = (N, (k : Int), er)) :
    Calls Try.prog 20 #[.pointer (some ⟨q, 0, none⟩)] w fun e w' => e = .returned (.tuple #[.int .i64 N, .int .i64 er]) ∧ WL 67 F w' q (xs.drop k) ∧ Touch F w w' := by
  refine (num_r h hx).mono fun e w' ⟨h1, h2⟩ => ?_
  rw [hf] at h1 h2
  by_cases he : er = 0
  · subst he
    obtain ⟨he, hw, ht⟩ := h2 rfl
    rw [Int.toNat_natCast] at hw
    exact ⟨he, hw, ht⟩
  · obtain ⟨he2, rfl⟩ := h1 he
    have hnk : N = 0 ∧ k = 0 := by
      rcases fst_facts xs 0 0 with h | h | h
      · rw [hf] at h; exact absurd h.1 he
      · rw [hf] at h; simp at h; exact ⟨h.1, h.2.1⟩
      · rw [hf] at h; simp at h; exact ⟨h.1, h.2.1⟩
    obtain ⟨rfl, rfl⟩ := hnk
    exact ⟨he2, h, Touch.refl _ _⟩
theorem fst_nat (xs : List Int) : ∃ N er, ∃ k : Nat, fst 0 0 xs = (N, (k : Int), er) ∧ k ≤ xs.length := by
  rcases fst_facts xs 0 0 with h | h | h
  · refine ⟨(fst 0 0 xs).1, (fst 0 0 xs).2.2, (fst 0 0 xs).2.1.toNat, ?_, by omega⟩
    rw [Int.toNat_of_nonneg (by omega)]
  · exact ⟨0, 7, 0, h, by omega⟩
  · exact ⟨0, 9, 0, h, by omega⟩
theorem fstT_nat (xs : List Int) : ∃ s er, ∃ k : Nat, fstT xs = (s, (k : Int), er) ∧ k ≤ xs.length := by
  unfold fstT
  split
  · exact ⟨_, _, 0, rfl, Nat.zero_le _⟩
  · split
    · exact ⟨_, _, 0, rfl, Nat.zero_le _⟩
    · split
      · exact ⟨_, _, 0, rfl, Nat.zero_le _⟩
      · rename_i h0 h1 h2
        rcases fst_facts xs 0 0 with h | h | h
        · refine ⟨strOfNums ((xs.drop (fst 0 0 xs).2.1.toNat).take (fst 0 0 xs).1.toNat), 0, ((fst 0 0 xs).2.1 + (fst 0 0 xs).1).toNat, ?_, by omega⟩
          rw [Int.toNat_of_nonneg (by omega)]
        · rw [h] at h0; simp at h0
        · rw [h] at h0; simp at h0
theorem text_r2 {F : Nat → Prop} {w : World} {q : Nat} {xs : List Int} (h : WL 67 F w q xs) (hx : Bytes xs) {s : ByteArray} {er : Int} {k : Nat} (hf : fstT xs = (s, (k : Int), er)) :
    Calls Try.prog 30 #[.pointer (some ⟨q, 0, none⟩)] w fun e w' => e = .returned (.tuple #[.string s, .int .i64 er]) ∧ WL 67 F w' q (xs.drop k) ∧ Touch F w w' := by
  refine (text_r h hx).mono fun e w' ⟨h1, h2, h3, h4⟩ => ?_
  unfold fstT at hf
  split at hf
  · rename_i g0
    obtain ⟨rfl, hf2⟩ := Prod.mk.inj hf
    obtain ⟨hk, rfl⟩ := Prod.mk.inj hf2
    obtain rfl : k = 0 := by omega
    obtain ⟨he, rfl⟩ := h1 g0
    exact ⟨he, h, Touch.refl _ _⟩
  · rename_i g0
    have g0' : (fst 0 0 xs).2.2 = 0 := by simpa using g0
    split at hf
    · rename_i g1
      obtain ⟨rfl, hf2⟩ := Prod.mk.inj hf
      obtain ⟨hk, rfl⟩ := Prod.mk.inj hf2
      obtain rfl : k = 0 := by omega
      obtain ⟨he, rfl⟩ := h2 g0' g1
      exact ⟨he, h, Touch.refl _ _⟩
    · rename_i g1
      split at hf
      · rename_i g2
        obtain ⟨rfl, hf2⟩ := Prod.mk.inj hf
        obtain ⟨hk, rfl⟩ := Prod.mk.inj hf2
        obtain rfl : k = 0 := by omega
        obtain ⟨he, rfl⟩ := h3 g0' (by omega) (by omega)
        exact ⟨he, h, Touch.refl _ _⟩
      · rename_i g2
        obtain ⟨rfl, hf2⟩ := Prod.mk.inj hf
        obtain ⟨hk, rfl⟩ := Prod.mk.inj hf2
        obtain ⟨he, hw, ht⟩ := h4 g0' (by omega) (by omega)
        have hff : 0 ≤ (fst 0 0 xs).2.1 ∧ 0 ≤ (fst 0 0 xs).1 := by
          rcases fst_facts xs 0 0 with h | h | h
          · omega
          · rw [h] at g0'; simp at g0'
          · rw [h] at g0'; simp at g0'
        have e2 : (fst 0 0 xs).2.1.toNat + (fst 0 0 xs).1.toNat = k := by omega
        rw [e2] at hw
        exact ⟨he, hw, ht⟩
theorem cut_rb {w : World} {A : Option Addr} {c k : Nat} {xs : List Int} (h : RB w (.slice A xs.length c) xs) (hk : k ≤ xs.length) : ∃ A2 c2, (∀ W, (Instr.slice 25 (.slice A xs.length c) (some (.int .i64 (k : Int))) none none).run Try.prog W = .ok (.slice A2 (xs.drop k).length c2) W) ∧
    RB w (.slice A2 (xs.drop k).length c2) (xs.drop k) := by
  obtain ⟨A2, h1, h2⟩ := cut_tail A xs.length c k (k : Int) rfl hk
  refine ⟨A2, c - k, fun W => by rw [List.length_drop]; exact h1 W, ?_⟩
  have := h.drop hk
  rw [← h2] at this
  rw [List.length_drop]
  exact this
set_option maxRecDepth 100000 in
set_option maxHeartbeats 4000000 in
theorem reads_rb {w : World} {v v2 : Value} {xs ks : List Int} (h : RB w v xs) (hx : Bytes xs) (h2 : RB w v2 ks) (hks : Bytes ks) (n : Int) :
    Calls Try.prog 8 #[v, v2, .int .i64 n] w fun e w' => e = .returned (.bool true) ∧ Below w.heap.size w w' := by
  obtain ⟨A, c, rfl, hc⟩ := h.form
  obtain ⟨B, d, rfl, hd⟩ := h2.form
  have hle := h.le
  have hle2 := h2.le
  have HS := hid h
  have HX := hid hx
  have HK := hid h2
  have HKB := hid hks
  clear h hx h2 hks
  by_cases hbig : (5000 : Int) < (xs.length : Int)
  · go_enter Try.func8, Try.ntmps8
    go_wp2_with (go_at_call 10; refine (alive_any _).mono ?_; rintro e w1 ⟨rfl, hb1⟩; have HB1 := hid hb1; clear hb1)
    go_ret
    exact ⟨rfl, HB1.out⟩
  by_cases hbig2 : (500 : Int) < (ks.length : Int)
  · go_enter Try.func8, Try.ntmps8
    go_wp2_with (go_at_call 10; refine (alive_any _).mono ?_; rintro e w1 ⟨rfl, hb1⟩; have HB1 := hid hb1; clear hb1)
    go_ret
    exact ⟨rfl, HB1.out⟩
  · have hl : xs.length ≤ 140737488351232 := by omega
    go_enter Try.func8, Try.ntmps8
    go_wp2_with (first
      | (go_at_call 10; refine (alive_any _).mono ?_; rintro e w1 ⟨rfl, hb1⟩; have HB1 := hid hb1; have HS1 := hid (HS.out.below hb1); clear hb1)
      | (go_at_call 19; refine (read_any HS1.out hl).mono ?_; rintro e w2 ⟨q, rfl, hr2, hw2⟩; have HR2 := hid hr2; have HW2 := hid (bthen HB1.out hw2); clear hr2 hw2))
    have hl5 : xs.length ≤ 5000 := by omega
    go_loopw [0, 37] (fun bv iv wr => ∃ (i c0 : Nat) (A0 : Option Addr) (ys : List Int), i ≤ ks.length ∧ bv = .slice A0 ys.length c0 ∧ iv = .int .i64 (i : Int) ∧ Hid (RB w (.slice A0 ys.length c0) ys) ∧ Hid (Bytes ys) ∧ ys.length ≤ 5000 ∧ Hid (WL 67 (fun k => w1.heap.size ≤ k) wr q ys) ∧ Hid (Below w.heap.size w wr)) (fun _ iv _ => ks.length - (intOf iv).toNat)
    case atStart => exact ⟨0, c, A, xs, by omega, rfl, rfl, HS, HX, hl5, HR2, HW2⟩
    case round =>
      obtain ⟨i, c0, A0, ys, hi, rfl, rfl, HY, HYB, hy5, HR, HW⟩ := hrel
      by_cases hlt : i < ks.length
      · have hlt2 : (i : Int) < (ks.length : Int) := by omega
        have hi0 : (0 : Int) ≤ (i : Int) := by omega
        have HKw := hid (HK.out.below HW.out)
        have HYw := hid (HY.out.below HW.out)
        obtain ⟨x0, rfl, k1⟩ := HKw.out.item hlt
        have hxb := HKB.out ks[i] (List.getElem_mem hlt)
        obtain ⟨b, hb⟩ : ∃ b : Nat, ks[i] = (b : Int) := ⟨ks[i].toNat, by omega⟩
        rw [hb] at k1 hxb
        clear hb
        have hyl : ys.length ≤ 10000000 := by omega
        have HF : Hid (∀ k, w1.heap.size ≤ k → w.heap.size ≤ k) := hid (fun k hk => Nat.le_trans HB1.out.size hk)
        rcases (by omega : b % 3 = 0 ∨ b % 3 = 1 ∨ b % 3 = 2) with h3 | h3 | h3
        · have h3i : (b : Int) % 3 = 0 := by omega
          obtain ⟨N, er, k, hf, hk⟩ := fst_nat ys
          obtain ⟨A2, c2, hcut, hrb⟩ := cut_rb HY.out hk
          have HFs := hid hf
          have HRB := hid hrb
          have HB2 : Hid (Bytes (ys.drop k)) := hid (fun x hx => HYB.out x (List.mem_of_mem_drop hx))
          have HNUM := hid (num_r2 HR.out HYB.out hf)
          have hrl : (ys.drop k).length ≤ 5000 := by rw [List.length_drop]; omega
          obtain ⟨rs, hrs⟩ : ∃ rs, ys.drop k = rs := ⟨_, rfl⟩
          rw [hrs] at hcut HRB HB2 HNUM hrl
          clear hf hrb hrs h3
          go_wp2_with (first
            | (go_at_call 20; refine HNUM.out.mono ?_; rintro e w3 ⟨rfl, hr3, ht3⟩; have HR3 := hid hr3; have HW3 := hid (ht3.below HW.out HF.out); have HY3 := hid (HY.out.below HW3.out); clear hr3 ht3)
            | (go_at_call 29; refine (first_d HY3.out HYB.out).mono ?_; rintro e w4 ⟨he, hw4⟩; rw [HFs.out] at he; subst he; have HR4 := hid (HR3.out.below hw4); have HW4 := hid (bthen HW3.out hw4); clear hw4)
            | (go_at_call 21; refine (left_r HR4.out).mono ?_; rintro e w5 ⟨rfl, rfl⟩))
          exact ⟨⟨i + 1, c2, A2, rs, by omega, rfl, by simp, HRB, HB2, hrl, HR4, HW4⟩, by simp [intOf]; omega⟩
        · have h3i : (b : Int) % 3 = 1 := by omega
          obtain ⟨str, er, k, hf, hk⟩ := fstT_nat ys
          obtain ⟨A2, c2, hcut, hrb⟩ := cut_rb HY.out hk
          have HFs := hid hf
          have HRB := hid hrb
          have HB2 : Hid (Bytes (ys.drop k)) := hid (fun x hx => HYB.out x (List.mem_of_mem_drop hx))
          have HNUM := hid (text_r2 HR.out HYB.out hf)
          have hrl : (ys.drop k).length ≤ 5000 := by rw [List.length_drop]; omega
          obtain ⟨rs, hrs⟩ : ∃ rs, ys.drop k = rs := ⟨_, rfl⟩
          rw [hrs] at hcut HRB HB2 HNUM hrl
          clear hf hrb hrs h3
          go_wp2_with (first
            | (go_at_call 30; refine HNUM.out.mono ?_; rintro e w3 ⟨rfl, hr3, ht3⟩; have HR3 := hid hr3; have HW3 := hid (ht3.below HW.out HF.out); have HY3 := hid (HY.out.below HW3.out); clear hr3 ht3)
            | (go_at_call 31; refine (firstT_d HY3.out HYB.out hyl).mono ?_; rintro e w4 ⟨he, hw4⟩; rw [HFs.out] at he; subst he; have HR4 := hid (HR3.out.below hw4); have HW4 := hid (bthen HW3.out hw4); clear hw4)
            | (go_at_call 21; refine (left_r HR4.out).mono ?_; rintro e w5 ⟨rfl, rfl⟩))
          exact ⟨⟨i + 1, c2, A2, rs, by omega, rfl, by simp, HRB, HB2, hrl, HR4, HW4⟩, by simp [intOf]; omega⟩
        · have h3i : (b : Int) % 3 = 2 := by omega
          clear h3
          have hyl2 : ys.length ≤ 140737488351232 := by omega
          have HRAW := hid (raw_r HR.out hyl2 n)
          by_cases hn0 : n < 0
          · go_wp2_with (first
              | (go_at_call 28; refine HRAW.out.mono ?_; rintro e w3 ⟨hp, -, -⟩; obtain ⟨rfl, rfl⟩ := hp hn0; clear hp)
              | (go_at_call 21; refine (left_r HR.out).mono ?_; rintro e w5 ⟨rfl, rfl⟩))
            exact ⟨⟨i + 1, c0, A0, ys, by omega, rfl, by simp, HY, HYB, hy5, HR, HW⟩, by simp [intOf]; omega⟩
          by_cases hnl : (ys.length : Int) < n
          · go_wp2_with (first
              | (go_at_call 28; refine HRAW.out.mono ?_; rintro e w3 ⟨-, hp, -⟩; obtain ⟨rfl, rfl⟩ := hp hnl; clear hp)
              | (go_at_call 21; refine (left_r HR.out).mono ?_; rintro e w5 ⟨rfl, rfl⟩))
            exact ⟨⟨i + 1, c0, A0, ys, by omega, rfl, by simp, HY, HYB, hy5, HR, HW⟩, by simp [intOf]; omega⟩
          · obtain ⟨m, rfl⟩ : ∃ m : Nat, n = m := ⟨n.toNat, by omega⟩
            have hml : m ≤ ys.length := by omega
            have hmc0 : ys.length ≤ c0 := by
              obtain ⟨A', c', e, h⟩ := HY.out.form
              simp only [Value.slice.injEq, true_and] at e
              omega
            have hmci : (m : Int) ≤ (c0 : Int) := by omega
            have hmli : (m : Int) ≤ (ys.length : Int) := by omega
            have hm0i : (0 : Int) ≤ (m : Int) := by omega
            obtain ⟨A2, c2, hcut, hrb⟩ := cut_rb HY.out hml
            have HRB := hid hrb
            have HTK := hid (HY.out.take hml)
            have HTB : Hid (Bytes (ys.take m)) := hid (fun x hx => HYB.out x (List.mem_of_mem_take hx))
            have HB2 : Hid (Bytes (ys.drop m)) := hid (fun x hx => HYB.out x (List.mem_of_mem_drop hx))
            have hrl : (ys.drop m).length ≤ 5000 := by rw [List.length_drop]; omega
            obtain ⟨rs, hrs⟩ : ∃ rs, ys.drop m = rs := ⟨_, rfl⟩
            obtain ⟨ts, hts⟩ : ∃ ts, ys.take m = ts := ⟨_, rfl⟩
            have HRS := hid hrs
            have HTS := hid hts
            rw [hrs] at hcut HRB HB2 hrl
            rw [hts] at HTK HTB
            clear hrb hrs hts hmc0 hn0 hnl
            go_wp2_with (first
              | (go_at_call 28; refine HRAW.out.mono ?_; rintro e w3 ⟨-, -, hp⟩; obtain ⟨A3, c3, he, hb3, ho3, hr3, ht3⟩ := hp hm0i hmli; rw [Int.toNat_natCast, HTS.out] at hb3; rw [Int.toNat_natCast, HRS.out] at hr3; rw [Int.toNat_natCast] at he; subst he; have HB3 := hid hb3; have HR3 := hid hr3; have HW3 := hid (ht3.below HW.out HF.out); have HT3 := hid (HTK.out.below HW3.out); clear hp hb3 ho3 hr3 ht3)
              | (go_at_call 17; refine (same_any HB3.out.rb HT3.out HTB.out HTB.out).mono ?_; rintro e w7 ⟨rfl, rfl⟩; rw [eqB_self])
              | (go_at_call 21; refine (left_r HR3.out).mono ?_; rintro e w5 ⟨rfl, rfl⟩))
            exact ⟨⟨i + 1, c2, A2, rs, by omega, rfl, by simp, HRB, HB2, hrl, HR3, HW3⟩, by simp [intOf]; omega⟩
      · obtain rfl : i = ks.length := by omega
        go_wp2
        go_ret
        exact ⟨rfl, HW.out⟩
theorem reads_law (a : Option Addr) (len cap : Nat) (zs : List Int) (a2 : Option Addr) (len2 cap2 : Nat) (zs2 : List Int) (n : Int) (w : World) (hz : IsRow .u8 w a len cap zs) (hz2 : IsRow .u8 w a2 len2 cap2 zs2) (hn : (Lit.int .i64 n).wf = true) :
    Calls Try.prog 8 #[.slice a len cap, .slice a2 len2 cap2, .int .i64 n] w fun e w' => e = .returned (.bool true) ∧ Below w.heap.size w w' := by
  obtain ⟨xs, rfl, hx, h⟩ := hz.rb
  obtain ⟨ks, rfl, hk, h2⟩ := hz2.rb
  exact reads_rb h hx h2 hk n
end Go.Proofs.Ytlonmjmjmnondaa
