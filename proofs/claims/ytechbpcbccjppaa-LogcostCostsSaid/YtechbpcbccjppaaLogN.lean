/- Plain numbers: what the two loops of a ratio come to. No program in sight. -/
import Derived.Test.YtechbpcbccjppaaLogM
namespace Go.Proofs.Ytechbpcbccjppaa
open Go.RowKit
/-- what holds between two doublings -/
def Whole (a b : Int) (k : Nat) (ys : List Int) : Prop := InR B64 ys ∧ valTo B64 ys 9 = b * 2 ^ k ∧ b * 2 ^ k ≤ a
/-- what holds of the rest, before round i -/
def Rest (a b : Int) (i : Nat) (k : Int) (xs ys : List Int) : Prop :=
  InR B64 xs ∧ InR B64 ys ∧ valTo B64 xs 9 = a ^ (2 ^ i) ∧ 0 ≤ k ∧ valTo B64 ys 9 = b ^ (2 ^ i) * 2 ^ k.toNat ∧ b ^ (2 ^ i) * 2 ^ k.toNat ≤ a ^ (2 ^ i) ∧ a ^ (2 ^ i) < b ^ (2 ^ i) * 2 ^ (k.toNat + 1)
/-- what Ratio tells -/
def IsRatio (a b k : Int) : Prop := 0 ≤ k ∧ b ^ 16 * 2 ^ k.toNat ≤ a ^ 16 ∧ a ^ 16 < b ^ 16 * 2 ^ (k.toNat + 1)
theorem B64_pos : (0 : Int) < B64 := by simp only [B64]; omega
theorem pow1 (a : Int) : a ^ 2 ^ 0 = a := by rw [show 2 ^ 0 = 0 + 1 from rfl, Int.pow_succ, Int.pow_zero, Int.one_mul]
theorem valTo_one (a : Int) : valTo B64 [a, 0, 0, 0, 0, 0, 0, 0, 0] 9 = a := by simp [valTo, dg]
theorem inR_one {a : Int} (h0 : 0 ≤ a) (h1 : a < B64) : InR B64 [a, 0, 0, 0, 0, 0, 0, 0, 0] := by
  refine ⟨rfl, fun j => ?_⟩
  have hp := B64_pos
  match j with
  | 0 => exact ⟨h0, h1⟩
  | 1 | 2 | 3 | 4 | 5 | 6 | 7 | 8 => exact ⟨by simp [dg], by simpa [dg] using hp⟩
  | n + 9 => exact ⟨by simp [dg], by simpa [dg] using hp⟩
theorem two_pow_mono {m n : Nat} (h : m ≤ n) : (2 : Int) ^ m ≤ 2 ^ n := by
  have := Nat.pow_le_pow_right (show 0 < 2 by omega) h
  exact_mod_cast this
theorem two_pow_lt {m n : Nat} (h : (2 : Int) ^ m < 2 ^ n) : m < n := by
  rcases Nat.lt_or_ge m n with h1 | h1
  · exact h1
  · have := two_pow_mono h1; omega
theorem two_pow_pos (n : Nat) : (0 : Int) < 2 ^ n := Int.pow_pos (by omega)
theorem B64_9 : B64 ^ 9 = 2 ^ 576 := by decide +kernel
/-- a double, where it fits -/
theorem dbl_spec {ys zs : List Int} (h : InR B64 ys) (hl : zs.length = 9) (hd : ∀ j, j < 9 → dg zs j = dblD ys j) (hf : 2 * valTo B64 ys 9 < B64 ^ 9) : InR B64 zs ∧ valTo B64 zs 9 = 2 * valTo B64 ys 9 := by
  have hz : InR B64 zs := by
    refine ⟨hl, fun j => ?_⟩
    by_cases hj : j < 9
    · rw [hd j hj, dblD_eq h j]
      have := dblC_bit h j
      have := h.2 j
      simp only [B64] at *
      omega
    · have : dg zs j = 0 := by unfold dg; rw [List.getD_eq_getElem?_getD, List.getElem?_eq_none (by omega)]; rfl
      rw [this]
      exact ⟨by omega, B64_pos⟩
  refine ⟨hz, ?_⟩
  have e := dbl_val h hd 9 (by omega)
  have h2 := valTo_nonneg B64_pos hz 9
  have hc := dblC_bit h 9
  generalize dblC ys 9 = c at *
  generalize B64 ^ 9 = p at *
  rcases hc with rfl | rfl
  · omega
  · omega
theorem pow_bound {a : Int} (h0 : 0 ≤ a) (h3 : a ≤ 2147483648) (n : Nat) : a ^ n ≤ 2 ^ (31 * n) := by
  rw [Int.pow_mul]
  have : (2 : Int) ^ 31 = 2147483648 := by decide +kernel
  rw [this]
  induction n with
  | zero => simp
  | succ n ih =>
    rw [Int.pow_succ, Int.pow_succ]
    exact Int.mul_le_mul ih h3 h0 (Int.le_of_lt (Int.pow_pos (by omega)))
theorem whole_zero {a b : Int} (h1 : 1 ≤ b) (h2 : b ≤ a) (h3 : a ≤ 2147483648) : Whole a b 0 [b, 0, 0, 0, 0, 0, 0, 0, 0] :=
  ⟨inR_one (by omega) (by simp only [B64]; omega), by rw [valTo_one]; simp, by simpa using h2⟩
theorem whole_lt {a b : Int} {k : Nat} {ys : List Int} (h1 : 1 ≤ b) (h3 : a ≤ 2147483648) (h : Whole a b k ys) : (k : Int) < 32 := by
  obtain ⟨-, -, h⟩ := h
  have hp := two_pow_pos k
  have h4 : 1 * 2 ^ k ≤ b * 2 ^ k := Int.mul_le_mul_of_nonneg_right h1 (by omega)
  have h5 : (2 : Int) ^ 32 = 4294967296 := by decide +kernel
  have := two_pow_lt (m := k) (n := 32) (by omega)
  omega
/-- the doubled number -/
theorem whole_dbl {a b : Int} {k : Nat} {ys zs : List Int} (h3 : a ≤ 2147483648) (h : Whole a b k ys) (hl : zs.length = 9) (hd : ∀ j, j < 9 → dg zs j = dblD ys j) : InR B64 zs ∧ valTo B64 zs 9 = b * 2 ^ (k + 1) := by
  obtain ⟨hr, hv, hle⟩ := h
  have h5 : (2 : Int) ^ 576 = 2 ^ 33 * 2 ^ 543 := by rw [← Int.pow_add]
  have h6 : (2 : Int) ^ 33 = 8589934592 := by decide +kernel
  have h7 := two_pow_pos 543
  obtain ⟨hz, e⟩ := dbl_spec hr hl hd (by rw [B64_9, hv, h5, h6]; generalize b * 2 ^ k = m at *; generalize (2 : Int) ^ 543 = q at *; omega)
  exact ⟨hz, by rw [e, hv, Int.pow_succ]; generalize (2 : Int) ^ k = q; grind⟩
theorem whole_less {a b : Int} {k : Nat} {zs : List Int} (h1 : 1 ≤ b) (h2 : b ≤ a) (h3 : a ≤ 2147483648) (h : InR B64 zs ∧ valTo B64 zs 9 = b * 2 ^ (k + 1)) : lessTo [a, 0, 0, 0, 0, 0, 0, 0, 0] zs 9 = decide (a < b * 2 ^ (k + 1)) := by
  rw [lessTo_iff B64_pos (inR_one (by omega) (by simp only [B64]; omega)) h.1, valTo_one, h.2]
theorem whole_next {a b : Int} {k : Nat} {zs : List Int} (hz : InR B64 zs ∧ valTo B64 zs 9 = b * 2 ^ (k + 1)) (hle : ¬ a < b * 2 ^ (k + 1)) : Whole a b (k + 1) zs := ⟨hz.1, hz.2, by omega⟩
theorem rest_zero {a b : Int} {k : Nat} {ys : List Int} (h1 : 1 ≤ b) (h2 : b ≤ a) (h3 : a ≤ 2147483648) (h : Whole a b k ys) (hle : a < b * 2 ^ (k + 1)) : Rest a b 0 k [a, 0, 0, 0, 0, 0, 0, 0, 0] ys :=
  ⟨inR_one (by omega) (by simp only [B64]; omega), h.1, by rw [valTo_one, pow1], by omega, by rw [h.2.1, pow1]; simp, by rw [pow1, pow1]; simpa using h.2.2, by rw [pow1, pow1]; simpa using hle⟩
/-- both squared -/
def Squared (a b : Int) (i : Nat) (kk : Int) (xs ys : List Int) : Prop :=
  InR B64 xs ∧ InR B64 ys ∧ valTo B64 xs 9 = a ^ (2 ^ (i + 1)) ∧ 0 ≤ kk ∧ valTo B64 ys 9 = b ^ (2 ^ (i + 1)) * 2 ^ (kk * 2).toNat ∧ valTo B64 ys 9 ≤ valTo B64 xs 9 ∧ valTo B64 xs 9 < valTo B64 ys 9 * 4 ∧ valTo B64 xs 9 ≤ 2 ^ 500
theorem rest_sq {a b kk : Int} {i : Nat} {xs ys xs' ys' : List Int} (h1 : 1 ≤ b) (h2 : b ≤ a) (h3 : a ≤ 2147483648) (h4 : i < 4) (h : Rest a b i kk xs ys) (hx : SqOut xs 9 xs') (hy : SqOut ys 9 ys') : Squared a b i kk xs' ys' := by
  obtain ⟨rx, ry, vx, hk, vy, hle, hlt⟩ := h
  have hX : valTo B64 xs 9 ≤ 2 ^ 248 := by
    rw [vx]
    refine Int.le_trans (pow_bound (by omega) h3 _) (two_pow_mono ?_)
    have : 2 ^ i ≤ 2 ^ 3 := Nat.pow_le_pow_right (by omega) (by omega)
    omega
  have hx0 := valTo_nonneg B64_pos rx 9
  have hy0 := valTo_nonneg B64_pos ry 9
  have h8 : (2 : Int) ^ 248 * 2 ^ 248 = 2 ^ 496 := by rw [← Int.pow_add]
  have h9 : (2 : Int) ^ 496 < 2 ^ 576 := by decide +kernel
  have h10 : (2 : Int) ^ 496 ≤ 2 ^ 500 := by decide +kernel
  have hyx : valTo B64 ys 9 ≤ valTo B64 xs 9 := by rw [vx, vy]; exact hle
  have hxy : valTo B64 xs 9 < 2 * valTo B64 ys 9 := by
    rw [vx, vy]
    rw [Int.pow_succ] at hlt
    generalize b ^ 2 ^ i = p at *
    generalize (2 : Int) ^ kk.toNat = q at *
    grind
  have sX : valTo B64 xs 9 * valTo B64 xs 9 ≤ 2 ^ 248 * 2 ^ 248 := Int.mul_le_mul hX hX hx0 (Int.le_of_lt (two_pow_pos _))
  have sY : valTo B64 ys 9 * valTo B64 ys 9 ≤ valTo B64 xs 9 * valTo B64 xs 9 := Int.mul_le_mul hyx hyx hy0 hx0
  have s4 : valTo B64 xs 9 * valTo B64 xs 9 < (2 * valTo B64 ys 9) * (2 * valTo B64 ys 9) :=
    Int.lt_of_le_of_lt (Int.mul_le_mul_of_nonneg_left (Int.le_of_lt hxy) hx0) (Int.mul_lt_mul_of_pos_right hxy (by omega))
  have eX := sq_val rx hx (by rw [B64_9]; omega)
  have eY := sq_val ry hy (by rw [B64_9]; omega)
  refine ⟨hx.1, hy.1, ?_, hk, ?_, ?_, ?_, ?_⟩
  · rw [eX, vx, ← Int.pow_add, Nat.pow_succ, Nat.mul_two]
  · rw [eY, vy, show (kk * 2).toNat = kk.toNat + kk.toNat by omega, Int.pow_add, Nat.pow_succ, Nat.mul_two, Int.pow_add]
    generalize b ^ 2 ^ i = p
    generalize (2 : Int) ^ kk.toNat = q
    grind
  · rw [eX, eY]; exact sY
  · rw [eX, eY]; generalize valTo B64 ys 9 = y at *; generalize valTo B64 xs 9 = x at *; grind
  · rw [eX]; omega
theorem rest_lt {a b kk : Int} {i : Nat} {xs ys : List Int} (h1 : 1 ≤ b) (h2 : b ≤ a) (h3 : a ≤ 2147483648) (h4 : i < 4) (h : Rest a b i kk xs ys) : kk < 1000 := by
  obtain ⟨rx, ry, vx, hk, vy, hle, hlt⟩ := h
  have hX : a ^ 2 ^ i ≤ 2 ^ 248 := by
    refine Int.le_trans (pow_bound (by omega) h3 _) (two_pow_mono ?_)
    have : 2 ^ i ≤ 2 ^ 3 := Nat.pow_le_pow_right (by omega) (by omega)
    omega
  have hb : 1 ≤ b ^ 2 ^ i := by have : 0 < b ^ 2 ^ i := Int.pow_pos (by omega); omega
  have hp := two_pow_pos kk.toNat
  have h5 : 1 * 2 ^ kk.toNat ≤ b ^ 2 ^ i * 2 ^ kk.toNat := Int.mul_le_mul_of_nonneg_right hb (by omega)
  have h9 : (2 : Int) ^ 248 < 2 ^ 1000 := by decide +kernel
  have := two_pow_lt (m := kk.toNat) (n := 1000) (by omega)
  omega
theorem rest_dbl {a b kk : Int} {i : Nat} {xs ys zs : List Int} (h : Squared a b i kk xs ys) (hl : zs.length = 9) (hd : ∀ j, j < 9 → dg zs j = dblD ys j) : InR B64 zs ∧ valTo B64 zs 9 = 2 * valTo B64 ys 9 := by
  obtain ⟨-, hr, -, -, -, hle, -, hb⟩ := h
  have h9 : (2 : Int) * 2 ^ 500 < 2 ^ 576 := by decide +kernel
  exact dbl_spec hr hl hd (by rw [B64_9]; omega)
theorem rest_no {a b kk : Int} {i : Nat} {xs ys zs : List Int} (h : Squared a b i kk xs ys) (hz : InR B64 zs ∧ valTo B64 zs 9 = 2 * valTo B64 ys 9) (hle : valTo B64 xs 9 < valTo B64 zs 9) : Rest a b (i + 1) (kk * 2) xs ys := by
  obtain ⟨rx, ry, vx, hk, vy, h1, h2, -⟩ := h
  refine ⟨rx, ry, vx, by omega, vy, by rw [← vx, ← vy]; exact h1, ?_⟩
  rw [hz.2] at hle
  rw [← vx, Int.pow_succ, ← Int.mul_assoc, ← vy]
  omega
theorem rest_yes {a b kk : Int} {i : Nat} {xs ys zs : List Int} (h : Squared a b i kk xs ys) (hz : InR B64 zs ∧ valTo B64 zs 9 = 2 * valTo B64 ys 9) (hle : ¬ valTo B64 xs 9 < valTo B64 zs 9) : Rest a b (i + 1) (kk * 2 + 1) xs zs := by
  obtain ⟨rx, ry, vx, hk, vy, h1, h2, -⟩ := h
  have e : (kk * 2 + 1).toNat = (kk * 2).toNat + 1 := by omega
  have vz : valTo B64 zs 9 = b ^ 2 ^ (i + 1) * 2 ^ (kk * 2 + 1).toNat := by
    rw [hz.2, vy, e, Int.pow_succ, Int.mul_comm 2, Int.mul_assoc]
  refine ⟨rx, hz.1, vx, by omega, vz, by rw [← vx, ← vz]; omega, ?_⟩
  rw [← vx, Int.pow_succ, ← Int.mul_assoc, ← vz, hz.2]
  omega
theorem ratio_end {a b kk : Int} {xs ys : List Int} (h : Rest a b 4 kk xs ys) : IsRatio a b kk := ⟨h.2.2.2.1, h.2.2.2.2.2.1, h.2.2.2.2.2.2⟩
end Go.Proofs.Ytechbpcbccjppaa
