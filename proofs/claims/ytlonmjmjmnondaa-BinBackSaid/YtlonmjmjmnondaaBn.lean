/- The document's First and FirstText, walked. -/
import Derived.Test.YtlonmjmjmnondaaBm
namespace Go.Proofs.Ytlonmjmjmnondaa
set_option linter.unusedVariables false
set_option linter.unusedSimpArgs false
open Go.RowKit
attribute [local go_sem ↓] Go.wp_at_zero Go.wp_at_succ
theorem encN_long : ∀ (i n : Nat), 128 ^ (i + 1) ≤ n → i + 2 ≤ (encN n).length
  | 0, n, h => by
    rw [encN_ge (by omega), List.length_cons]
    have := encN_pos (n / 128)
    omega
  | i + 1, n, h => by
    have h1 : 128 ≤ 128 ^ (i + 1 + 1) := by
      have : 128 ^ 1 ≤ 128 ^ (i + 1 + 1) := Nat.pow_le_pow_right (by decide) (by omega)
      exact this
    have h2 := Nat.le_trans h1 h
    rw [encN_ge (by omega), List.length_cons]
    have := encN_long i (n / 128) (by rw [Nat.pow_succ] at h; omega)
    omega
/-- the length says whether the last byte was nought -/
theorem encN_last {i m b : Nat} (hm : m < 128 ^ i) (hb : b < 128) : (encN (m + b * 128 ^ i)).length = i + 1 ↔ ¬ (0 < i ∧ b = 0) := by
  rcases Nat.eq_zero_or_pos i with rfl | hi
  · have : m = 0 := by simpa using hm
    subst this
    rw [encN_lt (by omega)]
    simp
  · by_cases h0 : b = 0
    · subst h0
      have := encN_length i m hm hi
      rw [Nat.zero_mul, Nat.add_zero]
      exact iff_of_false (by omega) (fun h => h ⟨hi, rfl⟩)
    · have h1 : 128 ^ i ≤ b * 128 ^ i := Nat.le_mul_of_pos_left _ (by omega)
      have h2 : b * 128 ^ i + 128 ^ i ≤ 128 * 128 ^ i := by rw [← Nat.succ_mul]; exact Nat.mul_le_mul_right _ (by omega)
      obtain ⟨j, rfl⟩ : ∃ j, i = j + 1 := ⟨i - 1, by omega⟩
      have h3 := encN_long j (m + b * 128 ^ (j + 1)) (by omega)
      have h4 := encN_length (j + 2) (m + b * 128 ^ (j + 1)) (by rw [Nat.pow_succ 128 (j + 1)]; omega) (by omega)
      simp only [h0, and_false, not_false_eq_true, iff_true]
      omega
def FirstD (xs : List Int) (w : World) (e : Ending) (w' : World) : Prop := e = .returned (.tuple #[.int .i64 (fst 0 0 xs).1, .int .i64 (fst 0 0 xs).2.1, .int .i64 (fst 0 0 xs).2.2]) ∧ Below w.heap.size w w'
set_option maxRecDepth 100000 in
set_option maxHeartbeats 2000000 in
theorem first_d {w : World} {v : Value} {xs : List Int} (h : RB w v xs) (hx : Bytes xs) : Calls Try.prog 29 #[v] w (FirstD xs w) := by
  obtain ⟨A, c, rfl, hc⟩ := h.form
  have hle := h.le
  have HS := hid h
  have HX := hid hx
  clear h hx
  go_enter Try.func29, Try.ntmps29
  go_wp2
  go_loopw [5, 6, 11] (fun nv yv iv wr => ∃ (i m : Nat), i ≤ xs.length ∧ i ≤ 5 ∧ nv = .int .i64 (m : Int) ∧ yv = .int .i64 ((128 ^ i : Nat) : Int) ∧ iv = .int .i64 (i : Int) ∧ wr = w ∧ m < 128 ^ i ∧ Hid (i ≤ 4 → fst i m (xs.drop i) = fst 0 0 xs) ∧ Hid (i = 5 → fst 0 0 xs = (0, 0, 7))) (fun _ _ iv _ => xs.length - (intOf iv).toNat)
  case atStart => exact ⟨0, 0, by omega, by omega, rfl, rfl, rfl, rfl, by simp, hid (fun _ => rfl), hid (fun h => by omega)⟩
  case round =>
    obtain ⟨i, m, hi, hi5, rfl, rfl, rfl, rfl, hm, HE, HE5⟩ := hrel
    by_cases hlt : i < xs.length
    · have hlt2 : (i : Int) < (xs.length : Int) := by omega
      have hi0 : (0 : Int) ≤ (i : Int) := by omega
      obtain ⟨x0, rfl, k1⟩ := HS.out.item hlt
      by_cases hi4 : 4 < i
      · have hi42 : (4 : Int) < (i : Int) := by omega
        obtain ⟨B, hB⟩ : ∃ B, 128 ^ i = B := ⟨_, rfl⟩
        rw [hB]
        clear hm hB
        go_wp2
        go_ret3
        exact ⟨by rw [HE5.out (by omega)]; rfl, Below.refl _ _⟩
      · have hi42 : ¬ (4 : Int) < (i : Int) := by omega
        have hxb := HX.out xs[i] (List.getElem_mem hlt)
        have hdr := List.drop_eq_getElem_cons hlt
        obtain ⟨b, hb⟩ : ∃ b : Nat, xs[i] = (b : Int) := ⟨xs[i].toNat, by omega⟩
        rw [hb] at k1 hxb hdr
        have HD := hid hdr
        have hb2 : b < 256 := by omega
        have hp := pow_le4 (i := i) (by omega)
        have HP : Hid (128 ^ (i + 1) = 128 ^ i * 128) := hid (Nat.pow_succ _ _)
        have HEi := hid (HE.out (by omega))
        have HG : Hid (128 ≤ b → i + 1 < 5 → fst 0 0 xs = fst (i + 1) (m + b % 128 * 128 ^ i) (xs.drop (i + 1))) := hid (fun h0 h1 => by rw [← HEi.out, HD.out, fst_go h0 h1])
        have HFo : Hid ((128 ≤ b ∧ i = 4) ∨ (b < 128 ∧ ((0 < i ∧ b = 0) ∨ 1073741824 < m + b % 128 * 128 ^ i)) → fst 0 0 xs = (0, 0, 7)) := hid (fun h => by rw [← HEi.out, HD.out, fst_form h])
        have HO : Hid (b < 128 → ¬ (0 < i ∧ b = 0) → m + b % 128 * 128 ^ i ≤ 1073741824 → fst 0 0 xs = (((m + b % 128 * 128 ^ i : Nat) : Int), ((i + 1 : Nat) : Int), 0)) := hid (fun h0 h1 h2 => by rw [← HEi.out, HD.out, fst_ok h0 h1 h2])
        have HL : Hid (b < 128 → ((encN (m + b % 128 * 128 ^ i)).length = i + 1 ↔ ¬ (0 < i ∧ b = 0))) := hid (fun h => by rw [Nat.mod_eq_of_lt h]; exact encN_last hm h)
        have hDl : b % 128 * 128 ^ i ≤ 127 * 268435456 := Nat.mul_le_mul (by omega) hp.2
        have HN : Hid (m + b % 128 * 128 ^ i < 128 ^ (i + 1)) := hid (by
          have : b % 128 * 128 ^ i + 128 ^ i ≤ 128 * 128 ^ i := by rw [← Nat.succ_mul]; exact Nat.mul_le_mul_right _ (by omega)
          rw [Nat.pow_succ]; omega)
        obtain ⟨d, hd⟩ : ∃ d, b % 128 = d := ⟨_, rfl⟩
        have hd2 : (b : Int) % 128 = (d : Int) := by omega
        obtain ⟨B, hB⟩ : ∃ B, 128 ^ i = B := ⟨_, rfl⟩
        rw [hB] at hp HP HG HFo HO HL HN hDl ⊢
        rw [hd] at HG HFo HO HL HN hDl
        have hmB : m ≤ 268435456 := by omega
        have hBp := hp.1
        have hBl := hp.2
        obtain ⟨D, hD⟩ : ∃ D, d * B = D := ⟨_, rfl⟩
        have hD2 : (d : Int) * (B : Int) = (D : Int) := by rw [← hD]; simp
        rw [hD] at HG HFo HO HL HN hDl
        clear hdr hb hd hD hp hB hm
        by_cases h128 : 128 ≤ b
        · have h1282 : (128 : Int) ≤ (b : Int) := by omega
          go_wp2
          refine ⟨⟨i + 1, m + D, by omega, by omega, by simp, by rw [HP.out]; simp, by simp, trivial, HN.out, hid (fun h => (HG.out h128 (by omega)).symm), hid (fun h => HFo.out (.inl ⟨h128, by omega⟩))⟩, ?_⟩
          simp [intOf]; omega
        · have h1282 : ¬ (128 : Int) ≤ (b : Int) := by omega
          obtain ⟨N, hN⟩ : ∃ N, m + D = N := ⟨_, rfl⟩
          have hN2 : (m : Int) + (D : Int) = (N : Int) := by omega
          rw [hN] at HG HFo HO HN HL
          clear hN
          by_cases hbig : 1073741824 < N
          · have hbig2 : (1073741824 : Int) < (N : Int) := by omega
            go_wp2
            go_ret3
            exact ⟨by rw [HFo.out (.inr ⟨by omega, .inr hbig⟩)]; rfl, Below.refl _ _⟩
          · have hbig2 : ¬ (1073741824 : Int) < (N : Int) := by omega
            have HNUM := hid (num_d (N + 1) N (by omega) (by omega))
            have hLb := HL.out (by omega)
            obtain ⟨ys, hys⟩ : ∃ ys, encN N = ys := ⟨_, rfl⟩
            rw [hys] at HNUM hLb
            by_cases hz : 0 < i ∧ b = 0
            · have hln : ¬ (ys.length : Int) = (i : Int) + 1 := by
                have : ¬ ys.length = i + 1 := fun h => (hLb.1 h) hz
                omega
              have HZ := hid hz
              clear hLb hys hz
              go_wp2_with (go_at_call 16; refine (HNUM.out _).mono ?_; rintro e w2 ⟨A2, c2, rfl, hb2, ho2, hw2⟩; have HW2 := hid hw2; clear hb2 ho2 hw2)
              go_ret3
              exact ⟨by rw [HFo.out (.inr ⟨by omega, .inl HZ.out⟩)]; rfl, HW2.out⟩
            · have hln : (ys.length : Int) = (i : Int) + 1 := by
                have : ys.length = i + 1 := hLb.2 hz
                omega
              have HZ := hid hz
              clear hLb hys hz
              go_wp2_with (go_at_call 16; refine (HNUM.out _).mono ?_; rintro e w2 ⟨A2, c2, rfl, hb2, ho2, hw2⟩; have HW2 := hid hw2; clear hb2 ho2 hw2)
              go_ret3
              exact ⟨by rw [HO.out (by omega) HZ.out (by omega)]; rfl, HW2.out⟩
    · obtain rfl : i = xs.length := by omega
      obtain ⟨B, hB⟩ : ∃ B, 128 ^ xs.length = B := ⟨_, rfl⟩
      rw [hB]
      clear hm hB
      by_cases h5 : 4 < xs.length
      · have h52 : (4 : Int) < (xs.length : Int) := by omega
        go_wp2
        go_ret3
        exact ⟨by rw [HE5.out (by omega)]; rfl, Below.refl _ _⟩
      · have h52 : ¬ (4 : Int) < (xs.length : Int) := by omega
        go_wp2
        go_ret3
        have := HE.out (by omega)
        rw [List.drop_length] at this
        exact ⟨by rw [← this]; rfl, Below.refl _ _⟩
/-- the text that bytes begin with: the text, how many bytes it has, the error -/
def fstT (xs : List Int) : ByteArray × Int × Int :=
  if (fst 0 0 xs).2.2 ≠ 0 then (⟨#[]⟩, 0, (fst 0 0 xs).2.2)
  else if 1048576 < (fst 0 0 xs).1 then (⟨#[]⟩, 0, 5)
  else if (xs.length : Int) < (fst 0 0 xs).2.1 + (fst 0 0 xs).1 then (⟨#[]⟩, 0, 9)
  else (strOfNums ((xs.drop (fst 0 0 xs).2.1.toNat).take (fst 0 0 xs).1.toNat), (fst 0 0 xs).2.1 + (fst 0 0 xs).1, 0)
def FirstTD (xs : List Int) (w : World) (e : Ending) (w' : World) : Prop := e = .returned (.tuple #[.string (fstT xs).1, .int .i64 (fstT xs).2.1, .int .i64 (fstT xs).2.2]) ∧ Below w.heap.size w w'
set_option maxRecDepth 100000 in
set_option maxHeartbeats 2000000 in
theorem firstT_d {w : World} {v : Value} {xs : List Int} (h : RB w v xs) (hx : Bytes xs) (hl : xs.length ≤ 10000000) : Calls Try.prog 31 #[v] w (FirstTD xs w) := by
  obtain ⟨A, c, rfl, hc⟩ := h.form
  have hle := h.le
  have HH := hid h
  have HX := hid hx
  rcases fst_facts xs 0 0 with ⟨h0, hk1, hk2, hm0, hm1⟩ | h | h
  · obtain ⟨⟨mi, ki, ei⟩, hf⟩ : ∃ r, fst 0 0 xs = r := ⟨_, rfl⟩
    rw [hf] at h0 hk1 hk2 hm0 hm1
    dsimp only at h0 hk1 hk2 hm0 hm1
    subst h0
    obtain ⟨m, rfl⟩ : ∃ m : Nat, mi = m := ⟨mi.toNat, by omega⟩
    obtain ⟨k, rfl⟩ : ∃ k : Nat, ki = k := ⟨ki.toNat, by omega⟩
    have HR : Hid (fst 0 0 xs = ((m : Int), (k : Int), 0)) := hid hf
    have hT : fstT xs = if 1048576 < (m : Int) then (⟨#[]⟩, 0, 5) else if (xs.length : Int) < (k : Int) + (m : Int) then (⟨#[]⟩, 0, 9) else (strOfNums ((xs.drop k).take m), (k : Int) + (m : Int), 0) := by
      rw [fstT, hf]; simp
    have HT1 : Hid (1048576 < m → fstT xs = (⟨#[]⟩, 0, 5)) := hid (fun h => by rw [hT, if_pos (by omega)])
    have HT2 : Hid (¬ 1048576 < m → xs.length < k + m → fstT xs = (⟨#[]⟩, 0, 9)) := hid (fun h h2 => by rw [hT, if_neg (by omega), if_pos (by omega)])
    have HT3 : Hid (¬ 1048576 < m → ¬ xs.length < k + m → fstT xs = (strOfNums ((xs.drop k).take m), (k : Int) + (m : Int), 0)) := hid (fun h h2 => by rw [hT, if_neg (by omega), if_neg (by omega)])
    have hk3 : k ≤ xs.length := by omega
    have hk0 : (0 : Int) ≤ (k : Int) := by omega
    clear hf h hx hk1 hk2 hT
    by_cases hbig : (1048576 : Int) < (m : Int)
    · go_enter Try.func31, Try.ntmps31
      go_wp2_with (go_at_call 29; refine (first_d HH.out HX.out).mono ?_; rintro e w2 ⟨he, hw2⟩; rw [HR.out] at he; subst he; have HW2 := hid hw2; clear hw2)
      go_ret3
      exact ⟨by rw [HT1.out (by omega)]; rfl, HW2.out⟩
    · by_cases hsh : (xs.length : Int) < (k : Int) + (m : Int)
      · go_enter Try.func31, Try.ntmps31
        go_wp2_with (go_at_call 29; refine (first_d HH.out HX.out).mono ?_; rintro e w2 ⟨he, hw2⟩; rw [HR.out] at he; subst he; have HW2 := hid hw2; clear hw2)
        go_ret3
        exact ⟨by rw [HT2.out (by omega) (by omega)]; rfl, HW2.out⟩
      · have hkm : k + m ≤ xs.length := by omega
        obtain ⟨A1, hr1, hb1⟩ := cut_mid A xs.length c k m (k : Int) ((k : Int) + (m : Int)) rfl (by simp) (by omega)
        have hstr : ∀ w2, Below w.heap.size w w2 → (convert 25 9 (.slice A1 m (c - k))).run Try.prog w2 = .ok (.string (strOfNums ((xs.drop k).take m))) w2 := fun w2 hw => (hb1 w2 xs rfl (HH.out.below hw) hkm).str (by rw [List.length_take, List.length_drop]; omega)
        have HSTR := hid hstr
        clear hb1 hstr
        go_enter Try.func31, Try.ntmps31
        go_wp2_with (go_at_call 29; refine (first_d HH.out HX.out).mono ?_; rintro e w2 ⟨he, hw2⟩; rw [HR.out] at he; subst he; have hstr := HSTR.out w2 hw2; have HW2 := hid hw2; clear hw2)
        go_ret3
        exact ⟨by rw [HT3.out (by omega) (by omega)]; rfl, HW2.out⟩
  all_goals
    have HR := hid h
    have HT : Hid (fstT xs = (⟨#[]⟩, 0, (fst 0 0 xs).2.2)) := hid (by rw [fstT, h]; rfl)
    clear h hx
    go_enter Try.func31, Try.ntmps31
    go_wp2_with (go_at_call 29; refine (first_d HH.out HX.out).mono ?_; rintro e w2 ⟨he, hw2⟩; rw [HR.out] at he; subst he; have HW2 := hid hw2; clear hw2)
    go_ret3
    exact ⟨by rw [HT.out, HR.out]; rfl, HW2.out⟩
end Go.Proofs.Ytlonmjmjmnondaa
