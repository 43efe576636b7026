/- The number that bytes begin with. -/
import Derived.Test.YtlonmjmjmnondaaBf
import Derived.Laws.BitsLemmas
import Derived.Scope
namespace Go.Proofs.Ytlonmjmjmnondaa
set_option linter.unusedVariables false
set_option linter.unusedSimpArgs false
open Go.RowKit
attribute [local go_sem ↓] Go.wp_at_zero Go.wp_at_succ
/-- what some bytes begin with, i of them read as n: the number, how many bytes it has, the error -/
def fst (i n : Nat) : List Int → Int × Int × Int
  | [] => (0, 0, 9)
  | x :: r =>
    if 128 ≤ x ∧ i + 1 < 5 then fst (i + 1) (n + (x.toNat % 128) * 128 ^ i) r
    else if 128 ≤ x ∨ (0 < i ∧ x = 0) ∨ 1073741824 < n + (x.toNat % 128) * 128 ^ i then (0, 0, 7)
    else (((n + (x.toNat % 128) * 128 ^ i : Nat) : Int), (i + 1 : Nat), 0)
theorem wraps_i64 (n : Int) (h₀ : 0 ≤ n) (h₁ : n < 2 ^ 63) : IntKind.i64.wrap n = n := by rw [IntKind.wrap_i64]; omega
theorem and127 (b : Nat) (hb : b < 256) : bits .and .u8 (b : Int) 127 = ((b % 128 : Nat) : Int) := by
  have h := bits_mask .u8 8 (by decide) wraps_u8 7 (by decide) (b : Int) (by omega) (by omega)
  have e : (2 : Int) ^ 7 - 1 = 127 := by decide
  rw [e] at h
  rw [h]
  omega
theorem and128_lo (b : Nat) (hb : b < 128) : bits .and .u8 (b : Int) 128 = 0 := by
  have key : ∀ x : Fin 128, bits BinOp.and IntKind.u8 ((x.val : Nat) : Int) 128 = 0 := by decide +kernel
  exact key ⟨b, hb⟩
theorem and128_hi (b : Nat) (h0 : 128 ≤ b) (hb : b < 256) : bits .and .u8 (b : Int) 128 = 128 := by
  have key : ∀ x : Fin 256, 128 ≤ x.val → bits BinOp.and IntKind.u8 ((x.val : Nat) : Int) 128 = 128 := by decide +kernel
  exact key ⟨b, hb⟩ h0
theorem pow_le4 {i : Nat} (hi : i ≤ 4) : 0 < 128 ^ i ∧ 128 ^ i ≤ 268435456 := by
  rcases (by omega : i = 0 ∨ i = 1 ∨ i = 2 ∨ i = 3 ∨ i = 4) with rfl | rfl | rfl | rfl | rfl <;> decide
theorem or_low {i m d : Nat} (hi : i ≤ 4) (hm : m < 128 ^ i) (hd : d < 128) : bits .or .i64 (m : Int) ((d * 128 ^ i : Nat) : Int) = ((m + d * 128 ^ i : Nat) : Int) := by
  have hp := pow_le4 hi
  have hD : d * 128 ^ i ≤ 127 * 268435456 := Nat.mul_le_mul (by omega) hp.2
  have h := (bits_nat .i64 63 (by decide) wraps_i64 m (d * 128 ^ i) (by omega) (by omega)).2
  rw [h]
  have e : (128 : Nat) ^ i = 2 ^ (7 * i) := by rw [Nat.pow_mul]
  have h2 := Nat.shiftLeft_add_eq_or_of_lt (b := m) (i := 7 * i) (by rw [← e]; exact hm) d
  rw [Nat.shiftLeft_eq, ← e] at h2
  rw [Nat.or_comm, ← h2, Nat.add_comm]
theorem shl_low {i d : Nat} (hi : i ≤ 4) (hd : d < 128) : wrap64 ((d : Int) * 2 ^ (7 * i)) = ((d * 128 ^ i : Nat) : Int) := by
  have hp := pow_le4 hi
  have hD : d * 128 ^ i ≤ 127 * 268435456 := Nat.mul_le_mul (by omega) hp.2
  have e : ((d : Int) * 2 ^ (7 * i)) = ((d * 128 ^ i : Nat) : Int) := by
    have h2 : (2 : Int) ^ (7 * i) = ((2 ^ (7 * i) : Nat) : Int) := by simp
    rw [h2, Nat.pow_mul, Int.natCast_mul]
  rw [e]
  unfold wrap64
  omega
theorem fst_go {i m b : Nat} {r : List Int} (h0 : 128 ≤ b) (hi : i + 1 < 5) : fst i m ((b : Int) :: r) = fst (i + 1) (m + b % 128 * 128 ^ i) r := by
  rw [fst, if_pos ⟨by omega, hi⟩, Int.toNat_natCast]
theorem fst_form {i m b : Nat} {r : List Int} (h : (128 ≤ b ∧ i = 4) ∨ (b < 128 ∧ ((0 < i ∧ b = 0) ∨ 1073741824 < m + b % 128 * 128 ^ i))) : fst i m ((b : Int) :: r) = (0, 0, 7) := by
  rw [fst, if_neg (by omega), if_pos (by rw [Int.toNat_natCast]; omega)]
theorem fst_ok {i m b : Nat} {r : List Int} (h0 : b < 128) (h1 : ¬ (0 < i ∧ b = 0)) (h2 : m + b % 128 * 128 ^ i ≤ 1073741824) : fst i m ((b : Int) :: r) = (((m + b % 128 * 128 ^ i : Nat) : Int), ((i + 1 : Nat) : Int), 0) := by
  rw [fst, if_neg (by omega), if_neg (by rw [Int.toNat_natCast]; omega), Int.toNat_natCast]
def FirstP (xs : List Int) (w : World) (e : Ending) (w' : World) : Prop := e = .returned (.tuple #[.int .i64 (fst 0 0 xs).1, .int .i64 (fst 0 0 xs).2.1, .int .i64 (fst 0 0 xs).2.2]) ∧ w = w'
set_option maxRecDepth 100000 in
set_option maxHeartbeats 2000000 in
theorem first_any {w : World} {v : Value} {xs : List Int} (h : RB w v xs) (hx : ∀ x ∈ xs, 0 ≤ x ∧ x ≤ 255) : Calls Try.prog 35 #[v] w (FirstP xs w) := by
  obtain ⟨A, c, rfl, hc⟩ := h.form
  have hle := h.le
  have HS := hid h
  have HX := hid hx
  clear h hx
  go_enter Try.func35, Try.ntmps35
  go_wp2
  refine wp_scope_straight ?_
  go_wp2
  refine wp_label ?_
  go_wp2
  go_loopw [2, 4, 9] (fun nv ev iv wr => ∃ (i m : Nat), i ≤ xs.length ∧ i ≤ 4 ∧ nv = .int .i64 (m : Int) ∧ ev = .int .i64 9 ∧ iv = .int .i64 (i : Int) ∧ wr = w ∧ m < 128 ^ i ∧ Hid (fst i m (xs.drop i) = fst 0 0 xs)) (fun _ _ iv _ => xs.length - (intOf iv).toNat)
  case atStart => exact ⟨0, 0, by omega, by omega, rfl, rfl, rfl, rfl, by simp, hid rfl⟩
  case round =>
    obtain ⟨i, m, hi, hi4, rfl, rfl, rfl, rfl, hm, HE⟩ := hrel
    by_cases hlt : i < xs.length
    · have hlt2 : (i : Int) < (xs.length : Int) := by omega
      have hi0 : (0 : Int) ≤ (i : Int) := by omega
      obtain ⟨x0, rfl, k1⟩ := HS.out.item hlt
      have hxb := HX.out xs[i] (List.getElem_mem hlt)
      have hdr := List.drop_eq_getElem_cons hlt
      obtain ⟨b, hb⟩ : ∃ b : Nat, xs[i] = (b : Int) := ⟨xs[i].toNat, by omega⟩
      rw [hb] at k1 hxb hdr
      have HD := hid hdr
      have hb2 : b < 256 := by omega
      obtain ⟨d, hd⟩ : ∃ d, b % 128 = d := ⟨_, rfl⟩
      have hd1 : d < 128 := by omega
      have hp := pow_le4 hi4
      have hDl : d * 128 ^ i ≤ 127 * 268435456 := Nat.mul_le_mul (by omega) hp.2
      have hp2 : d * 128 ^ i + m < 128 * 128 ^ i := by
        have : d * 128 ^ i + 128 ^ i ≤ 128 * 128 ^ i := by rw [← Nat.succ_mul]; exact Nat.mul_le_mul_right _ (by omega)
        omega
      have A1 : Hid (bits .and .u8 (b : Int) 127 = (d : Int)) := hid (by rw [and127 b hb2, hd])
      have HG : Hid (128 ≤ b → i + 1 < 5 → fst 0 0 xs = fst (i + 1) (m + d * 128 ^ i) (xs.drop (i + 1))) := hid (fun h0 h1 => by rw [← HE.out, HD.out, fst_go h0 h1, hd])
      have HFo : Hid ((128 ≤ b ∧ i = 4) ∨ (b < 128 ∧ ((0 < i ∧ b = 0) ∨ 1073741824 < m + d * 128 ^ i)) → fst 0 0 xs = (0, 0, 7)) := hid (fun h => by rw [← HE.out, HD.out, fst_form (by rw [hd]; exact h)])
      have HO : Hid (b < 128 → ¬ (0 < i ∧ b = 0) → m + d * 128 ^ i ≤ 1073741824 → fst 0 0 xs = (((m + d * 128 ^ i : Nat) : Int), ((i + 1 : Nat) : Int), 0)) := hid (fun h0 h1 h2 => by rw [← HE.out, HD.out, fst_ok h0 h1 (by rw [hd]; exact h2), hd])
      have A3 := hid (shl_low hi4 hd1)
      have A4 := hid (or_low hi4 hm hd1)
      have HN : Hid (m + d * 128 ^ i < 128 ^ (i + 1)) := hid (by rw [Nat.pow_succ]; omega)
      obtain ⟨D, hD⟩ : ∃ D, d * 128 ^ i = D := ⟨_, rfl⟩
      rw [hD] at A3 A4 HG HFo HO HN hDl
      have hml : m ≤ 268435456 := by omega
      obtain ⟨N, hN⟩ : ∃ N, m + D = N := ⟨_, rfl⟩
      rw [hN] at A4 HG HFo HO HN
      have hNl : N ≤ 100000000000 := by omega
      clear hdr hb hd hD hN hp2 hp hDl hml
      have a1 := A1.out
      have a3 := A3.out
      have a4 := A4.out
      by_cases h128 : 128 ≤ b
      · have b1 := and128_hi b h128 hb2
        by_cases hi5 : i + 1 < 5
        · have hi6 : (i : Int) + 1 < 5 := by omega
          go_wp2
          go_roundw
          case rel => exact ⟨i + 1, N, by omega, by omega, rfl, rfl, by simp, trivial, HN.out, hid (HG.out h128 hi5).symm⟩
          case measure => simp [intOf]; omega
        · have hi6 : ¬ (i : Int) + 1 < 5 := by omega
          go_wp2
          try rw [Exit.noGoto_ret]
          go_ret3
          have := HFo.out (.inl ⟨h128, by omega⟩)
          exact ⟨by rw [this]; rfl, rfl⟩
      · have b1 := and128_lo b (by omega)
        by_cases hz : 0 < i ∧ b = 0
        · obtain ⟨hz1, rfl⟩ := hz
          go_wp2
          try rw [Exit.noGoto_ret]
          go_ret3
          have := HFo.out (.inr ⟨by omega, .inl ⟨hz1, by trivial⟩⟩)
          exact ⟨by rw [this]; rfl, rfl⟩
        · have hzb : (i = 0 ∧ decide (0 < i) = false) ∨ (0 < i ∧ ((b : Int) == 0) = false) := by
            rcases Nat.eq_zero_or_pos i with h | h
            · exact .inl ⟨h, by simp; omega⟩
            · refine .inr ⟨h, ?_⟩
              simp
              omega
          have HZ := hid hz
          clear hz
          by_cases hbig : 1073741824 < N
          · have hbig2 : (1073741824 : Int) < (N : Int) := by omega
            have := HFo.out (.inr ⟨by omega, .inr hbig⟩)
            have HR := hid this
            clear this
            rcases hzb with ⟨-, hz2⟩ | ⟨hz1, hz2⟩
            all_goals
              go_wp2
              try rw [Exit.noGoto_ret]
              go_ret3
              exact ⟨by rw [HR.out]; rfl, rfl⟩
          · have hbig2 : (N : Int) ≤ 1073741824 := by omega
            have := HO.out (by omega) HZ.out (by omega)
            have HR := hid this
            clear this
            rcases hzb with ⟨-, hz2⟩ | ⟨hz1, hz2⟩
            all_goals
              go_wp2
              try rw [Exit.noGoto_ret]
              go_ret3
              exact ⟨by rw [HR.out]; rfl, rfl⟩
    · obtain rfl : i = xs.length := by omega
      have hend : fst xs.length m (xs.drop xs.length) = (0, 0, 9) := by rw [List.drop_length, fst]
      rw [HE.out] at hend
      have HR := hid hend
      clear hend
      go_wp2
      try rw [Exit.noGoto_ret]
      go_ret3
      exact ⟨by rw [HR.out]; rfl, rfl⟩
end Go.Proofs.Ytlonmjmjmnondaa
