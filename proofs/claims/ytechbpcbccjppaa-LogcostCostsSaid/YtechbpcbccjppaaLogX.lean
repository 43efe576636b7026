/- Plain numbers: what the reference's long numbers come to: digits of 10000, products, comparisons, and the ratio of two numbers. No program in sight: the functions are the printed ones. -/
import Derived.Test.YtechbpcbccjppaaLogQ
import Derived.Test.YtechbpcbccjppaaPLogcostRatiosx
namespace Go.Proofs.Ytechbpcbccjppaa
open Go.RowKit Go.Proofs.YtechbpcbccjppaaW.PrintWords Go.Proofs.Ytechbpcbccjppaa.PLogcostRatios
theorem rd_dg (xs : List Int) (i : Nat) : rd xs (i : Int) = dg xs i := rfl
theorem w64 {n : Int} (h0 : -9223372036854775808 ≤ n) (h1 : n ≤ 9223372036854775807) : wrap64 n = n := by unfold wrap64; omega
abbrev TT : Int := 10000
/-- the list of the digits of v, the lowest first, none too many -/
def NumL (xs : List Int) (v : Int) : Prop := (∀ j, 0 ≤ dg xs j ∧ dg xs j < TT) ∧ valTo TT xs xs.length = v ∧ (0 < xs.length → dg xs (xs.length - 1) ≠ 0)
theorem dg_past (xs : List Int) (j : Nat) (h : xs.length ≤ j) : dg xs j = 0 := by
  unfold dg; rw [List.getD_eq_getElem?_getD, List.getElem?_eq_none h]; rfl
theorem TT_pow_pos (n : Nat) : (0 : Int) < TT ^ n := Int.pow_pos (by decide)
/-! ### of -/
def digs (n : Nat) : List Int := if h : n = 0 then [] else ((n % 10000 : Nat) : Int) :: digs (n / 10000)
termination_by n
decreasing_by omega
theorem digs_zero : digs 0 = [] := by rw [digs]; rfl
theorem digs_pos {n : Nat} (h : n ≠ 0) : digs n = ((n % 10000 : Nat) : Int) :: digs (n / 10000) := by rw [digs, dif_neg h]
theorem of_l0 : ∀ (k n : Nat) (acc : List Int), n < k → acc.length + n < 17592186044416 → errataref03_of.l0 k (n : Int) acc = some (acc ++ digs n)
  | 0, _, _, h, _ => by omega
  | k + 1, n, acc, h, h2 => by
    simp only [errataref03_of.l0]
    by_cases h0 : n = 0
    · subst h0
      rw [if_neg (by omega), digs_zero, List.append_nil]
    · have e1 : wrap64 (Int.tdiv (n : Int) 10000) = ((n / 10000 : Nat) : Int) := by
        rw [Int.tdiv_eq_ediv_of_nonneg (by omega), w64 (by omega) (by omega)]; omega
      have e2 : Int.tmod (n : Int) 10000 = ((n % 10000 : Nat) : Int) := by
        rw [Int.tmod_eq_emod_of_nonneg (by omega)]; omega
      rw [if_pos (by omega), if_pos (by omega), e1, e2, of_l0 k (n / 10000) _ (by omega) (by simp; omega), digs_pos h0]
      simp
theorem dg_cons_zero (x : Int) (xs : List Int) : dg (x :: xs) 0 = x := rfl
theorem dg_cons_succ (x : Int) (xs : List Int) (j : Nat) : dg (x :: xs) (j + 1) = dg xs j := by simp [dg]
theorem valTo_cons (x : Int) (xs : List Int) : ∀ n, valTo TT (x :: xs) (n + 1) = x + TT * valTo TT xs n
  | 0 => by simp [valTo, dg]
  | n + 1 => by
    rw [valTo_succ TT (x :: xs) (n + 1), valTo_cons x xs n, dg_cons_succ, valTo_succ TT xs n, Int.pow_succ]
    generalize TT ^ n = p
    grind
theorem digs_num (n : Nat) : NumL (digs n) n := by
  induction n using Nat.strongRecOn with
  | _ n ih =>
    by_cases h0 : n = 0
    · subst h0
      rw [digs_zero]
      exact ⟨fun j => by rw [dg_past _ _ (by simp)]; decide, rfl, fun h => by simp at h⟩
    · obtain ⟨i1, i2, i3⟩ := ih (n / 10000) (by omega)
      rw [digs_pos h0]
      refine ⟨fun j => ?_, ?_, fun _ => ?_⟩
      · cases j with
        | zero => rw [dg_cons_zero]; simp only [TT]; omega
        | succ j => rw [dg_cons_succ]; exact i1 j
      · rw [List.length_cons, valTo_cons, i2]; simp only [TT]; omega
      · rw [List.length_cons, Nat.add_sub_cancel]
        by_cases h1 : n / 10000 = 0
        · rw [h1, digs_zero]
          show dg [((n % 10000 : Nat) : Int)] 0 ≠ 0
          rw [dg_cons_zero]; omega
        · have hp : 0 < (digs (n / 10000)).length := by rw [digs_pos h1]; simp
          have := i3 hp
          rw [show (digs (n / 10000)).length = (digs (n / 10000)).length - 1 + 1 by omega, dg_cons_succ]
          exact this
/-! ### more -/
theorem lt_pow {xs : List Int} (h : ∀ j, 0 ≤ dg xs j ∧ dg xs j < TT) : ∀ n, valTo TT xs n < TT ^ n
  | 0 => by simp [valTo]
  | n + 1 => by
    have ih := lt_pow h n
    have h2 : (dg xs n + 1) * TT ^ n ≤ TT * TT ^ n := Int.mul_le_mul_of_nonneg_right (by have := (h n).2; omega) (Int.le_of_lt (TT_pow_pos n))
    rw [valTo_succ, Int.pow_succ, Int.mul_comm _ TT]
    rw [Int.add_mul] at h2
    omega
theorem numL_lt {xs : List Int} {v : Int} (h : NumL xs v) : v < TT ^ xs.length := by
  rw [← h.2.1]
  exact lt_pow h.1 _
theorem numL_nonneg' {xs : List Int} (h : ∀ j, 0 ≤ dg xs j ∧ dg xs j < TT) : ∀ n, 0 ≤ valTo TT xs n
  | 0 => by simp [valTo]
  | n + 1 => by
    have h1 := numL_nonneg' h n
    have h2 := Int.mul_nonneg (h n).1 (Int.le_of_lt (TT_pow_pos n))
    rw [valTo_succ]; omega
theorem numL_ge {xs : List Int} {v : Int} (h : NumL xs v) (hp : 0 < xs.length) : TT ^ (xs.length - 1) ≤ v := by
  obtain ⟨g1, g2, g3⟩ := h
  have g4 := g3 hp
  obtain ⟨m, hm⟩ : ∃ m, xs.length = m + 1 := ⟨xs.length - 1, by omega⟩
  rw [hm] at g2 g4 ⊢
  rw [Nat.add_sub_cancel] at g4 ⊢
  have h2 := g1 m
  have h3 := numL_nonneg' g1 m
  rw [← g2, valTo_succ]
  have h5 : 1 ≤ dg xs m := by omega
  have h4 : 1 * TT ^ m ≤ dg xs m * TT ^ m := Int.mul_le_mul_of_nonneg_right h5 (Int.le_of_lt (TT_pow_pos _))
  generalize TT ^ m = p at *
  generalize dg xs m * p = q at *
  omega
theorem TT_mono {m n : Nat} (h : m ≤ n) : TT ^ m ≤ TT ^ n := by
  obtain ⟨d, rfl⟩ : ∃ d, n = m + d := ⟨n - m, by omega⟩
  rw [Int.pow_add]
  have h1 := TT_pow_pos d
  have h2 : TT ^ m * 1 ≤ TT ^ m * TT ^ d := Int.mul_le_mul_of_nonneg_left (by omega) (Int.le_of_lt (TT_pow_pos m))
  rw [Int.mul_one] at h2
  exact h2
theorem numL_len {xs : List Int} {v : Int} (h : NumL xs v) {n : Nat} (hv : v < TT ^ n) : xs.length ≤ n := by
  rcases Nat.lt_or_ge n xs.length with h1 | h1
  · have h2 := numL_ge h (by omega)
    have h3 := TT_mono (show n ≤ xs.length - 1 by omega)
    omega
  · exact h1
theorem more_l0 {xs ys : List Int} (hx : ∀ j, 0 ≤ dg xs j ∧ dg xs j < TT) (hy : ∀ j, 0 ≤ dg ys j ∧ dg ys j < TT) (hl : xs.length = ys.length) :
    ∀ (n k : Nat), n < k → n ≤ xs.length → n < 1000000 → errataref03_more.l0 k xs ys ((n : Int) - 1) = some (decide (valTo TT ys n < valTo TT xs n))
  | n, 0, h, _, _ => by omega
  | 0, k + 1, _, _, _ => by
    simp only [errataref03_more.l0]
    rw [if_neg (by omega)]; simp [valTo]
  | n + 1, k + 1, h, hn, hb => by
    simp only [errataref03_more.l0]
    have e : ((n + 1 : Nat) : Int) - 1 = (n : Int) := by omega
    have ew : wrap64 ((n : Int) - 1) = (n : Int) - 1 := w64 (by omega) (by omega)
    have bx : valTo TT xs n < TT ^ n ∧ 0 ≤ valTo TT xs n := ⟨lt_pow hx n, numL_nonneg' hx n⟩
    have by_ : valTo TT ys n < TT ^ n ∧ 0 ≤ valTo TT ys n := ⟨lt_pow hy n, numL_nonneg' hy n⟩
    rw [e, if_pos (by omega), if_pos (by omega), if_pos (by omega), if_pos (by omega), rd_dg, rd_dg, ew]
    have st := less_step (p := TT ^ n) (vx := valTo TT ys n) (vy := valTo TT xs n) (a := dg ys n) (b := dg xs n) (TT_pow_pos n) by_.1 bx.1 by_.2 bx.2
    rw [valTo_succ, valTo_succ, ← st]
    by_cases h3 : dg xs n = dg ys n
    · rw [if_pos h3, if_pos h3.symm, more_l0 hx hy hl n k (by omega) (by omega) (by omega)]
    · rw [if_neg h3, if_neg (fun h => h3 h.symm)]
theorem more_f {xs ys : List Int} {vx vy : Int} (hx : NumL xs vx) (hy : NumL ys vy) (k : Nat) (hk : xs.length < k) (hb : xs.length < 1000000) :
    errataref03_more.f k xs ys = some (decide (vy < vx)) := by
  unfold errataref03_more.f
  by_cases h : (xs.length : Int) = (ys.length : Int)
  · have hl : xs.length = ys.length := by omega
    rw [if_pos h, w64 (by omega) (by omega), more_l0 hx.1 hy.1 hl xs.length k hk (Nat.le_refl _) hb, hx.2.1]
    rw [hl, hy.2.1]
  · rw [if_neg h]
    congr 1
    rw [decide_eq_decide]
    have lx := numL_lt hx
    have ly := numL_lt hy
    constructor
    · intro h2
      have := numL_ge hx (by omega)
      have := TT_mono (show ys.length ≤ xs.length - 1 by omega)
      omega
    · intro h2
      rcases Nat.lt_or_ge ys.length xs.length with h3 | h3
      · omega
      · have := numL_ge hy (by omega)
        have := TT_mono (show xs.length ≤ ys.length - 1 by omega)
        omega
/-! ### times -/
/-- the state of the inner round -/
def Row (a b : List Int) (i k : Nat) (out : List Int) : Prop :=
  out.length = a.length + b.length + 1 ∧ (∀ j, 0 ≤ dg out j) ∧ (∀ j, j ≠ i + k → dg out j ≤ 10001) ∧ dg out (i + k) ≤ (if k = 0 then 10001 else 20002) ∧ (∀ j, i + b.length < j → dg out j = 0) ∧ dg out (i + b.length) ≤ (if k = b.length then 10001 else 0) ∧
    valTo TT out (a.length + b.length + 1) = valTo TT a i * valTo TT b b.length + dg a i * TT ^ i * valTo TT b k
def stepOut (a b : List Int) (i k : Nat) (out : List Int) : List Int :=
  let o1 := out.set (i + k) (dg out (i + k) + dg a i * dg b k)
  let o2 := o1.set (i + k + 1) (dg o1 (i + k + 1) + dg o1 (i + k) / 10000)
  o2.set (i + k) (dg o2 (i + k) % 10000)
theorem step_dg {a b out : List Int} {i k : Nat} (hl : i + k + 1 < out.length) (j : Nat) :
    dg (stepOut a b i k out) j = if j = i + k then (dg out (i + k) + dg a i * dg b k) % 10000 else if j = i + k + 1 then dg out (i + k + 1) + (dg out (i + k) + dg a i * dg b k) / 10000 else dg out j := by
  unfold stepOut
  simp only [dg_set, List.length_set]
  grind
theorem step_len (a b out : List Int) (i k : Nat) : (stepOut a b i k out).length = out.length := by simp [stepOut]
theorem step_val {a b out : List Int} {i k : Nat} (hl : i + k + 1 < out.length) :
    valTo TT (stepOut a b i k out) out.length = valTo TT out out.length + dg a i * dg b k * TT ^ (i + k) := by
  have e1 := valTo_set (B := TT) out (i + k) (dg out (i + k) + dg a i * dg b k) (by omega) out.length (Nat.le_refl _)
  generalize ho1 : out.set (i + k) (dg out (i + k) + dg a i * dg b k) = o1 at *
  have l1 : o1.length = out.length := by rw [← ho1]; simp
  have d1 : dg o1 (i + k) = dg out (i + k) + dg a i * dg b k := by rw [← ho1, dg_set, if_pos ⟨rfl, by omega⟩]
  have e2 := valTo_set (B := TT) o1 (i + k + 1) (dg o1 (i + k + 1) + dg o1 (i + k) / 10000) (by omega) out.length (by omega)
  generalize ho2 : o1.set (i + k + 1) (dg o1 (i + k + 1) + dg o1 (i + k) / 10000) = o2 at *
  have l2 : o2.length = out.length := by rw [← ho2]; simp [l1]
  have d2 : dg o2 (i + k) = dg o1 (i + k) := by rw [← ho2, dg_set, if_neg (by omega)]
  have e3 := valTo_set (B := TT) o2 (i + k) (dg o2 (i + k) % 10000) (by omega) out.length (by omega)
  rw [if_pos (by omega)] at e1 e2 e3
  have es : stepOut a b i k out = o2.set (i + k) (dg o2 (i + k) % 10000) := by unfold stepOut; simp only [ho1, ho2]
  rw [es]
  rw [e3, e2, e1, d2, d1, Int.pow_succ]
  have hm := Int.emod_add_mul_ediv (dg out (i + k) + dg a i * dg b k) 10000
  have hd : (dg out (i + k) + dg a i * dg b k) - dg out (i + k) = dg a i * dg b k := by omega
  rw [hd]
  clear hd es e1 e2 e3 d1 d2 ho1 ho2
  generalize dg out (i + k) + dg a i * dg b k = v at *
  generalize valTo TT out out.length = V at *
  generalize dg o1 (i + k + 1) = u2 at *
  generalize dg a i * dg b k = ab at *
  generalize TT ^ (i + k) = p at *
  generalize v % 10000 = m at *
  generalize v / 10000 = q at *
  subst hm
  simp only [TT]
  grind
theorem row_next {a b out : List Int} {i k : Nat} (ha : ∀ j, 0 ≤ dg a j ∧ dg a j < TT) (hb : ∀ j, 0 ≤ dg b j ∧ dg b j < TT) (hi : i < a.length) (hk : k < b.length) (h : Row a b i k out) : Row a b i (k + 1) (stepOut a b i k out) := by
  obtain ⟨hl, h0, h1, h2, h3, h4, h5⟩ := h
  have hin : i + k + 1 < out.length := by omega
  have h2 : dg out (i + k) ≤ 20002 := by split at h2 <;> omega
  have hab0 : 0 ≤ dg a i * dg b k := Int.mul_nonneg (ha i).1 (hb k).1
  have hab1 : dg a i * dg b k ≤ 9999 * 9999 := Int.mul_le_mul (by have := (ha i).2; simp only [TT] at this; omega) (by have := (hb k).2; simp only [TT] at this; omega) (hb k).1 (by omega)
  have hv := step_val (a := a) (b := b) (out := out) (i := i) (k := k) hin
  have hd := fun j => step_dg (a := a) (b := b) (out := out) (i := i) (k := k) hin j
  have g0 := h0 (i + k)
  have g1 := h0 (i + k + 1)
  have g2 := h1 (i + k + 1) (by omega)
  have q0 : 0 ≤ (dg out (i + k) + dg a i * dg b k) / 10000 := by omega
  have q1 : (dg out (i + k) + dg a i * dg b k) / 10000 ≤ 10000 := by omega
  refine ⟨by rw [step_len, hl], fun j => ?_, fun j hj => ?_, ?_, fun j hj => ?_, ?_, ?_⟩
  · rw [hd]
    split
    · omega
    · split
      · omega
      · exact h0 j
  · rw [hd]
    split
    · omega
    · split
      · omega
      · rename_i n1 n2; exact h1 j n1
  · rw [hd, if_neg (by omega), if_pos (by omega), if_neg (by omega)]; omega
  · rw [hd, if_neg (by omega), if_neg (by omega)]; exact h3 j hj
  · rw [hd]
    by_cases hkk : k + 1 = b.length
    · rw [if_neg (by omega), if_pos (by omega), if_pos hkk]
      have h4' : dg out (i + k + 1) ≤ 0 := by rw [show i + k + 1 = i + b.length by omega]; rw [if_neg (by omega)] at h4; exact h4
      omega
    · rw [if_neg (by omega), if_neg (by omega), if_neg hkk]; rw [if_neg (by omega)] at h4; exact h4
  · rw [← hl, hv, hl, h5, valTo_succ TT b k, Int.pow_add]
    generalize valTo TT a i * valTo TT b b.length = X
    generalize dg a i = x
    generalize dg b k = y
    generalize TT ^ i = p
    generalize TT ^ k = q
    generalize valTo TT b k = z
    grind
theorem row_line {a b out : List Int} {i : Nat} (h : Row a b i b.length out) : Row a b (i + 1) 0 out := by
  obtain ⟨hl, h0, h1, h2, h3, h4, h5⟩ := h
  rw [if_pos rfl] at h4
  refine ⟨hl, h0, fun j hj => ?_, ?_, fun j hj => h3 j (by omega), ?_, ?_⟩
  · by_cases hj2 : j = i + b.length
    · rw [hj2]; exact h4
    · exact h1 j hj2
  · rw [if_pos rfl]
    by_cases hj2 : i + 1 + 0 = i + b.length
    · rw [hj2]; omega
    · have := h1 (i + 1 + 0) hj2; omega
  · rw [h3 _ (by omega)]; split <;> omega
  · rw [h5, valTo_succ TT a i]
    show _ = (valTo TT a i + dg a i * TT ^ i) * valTo TT b b.length + dg a (i + 1) * TT ^ (i + 1) * 0
    rw [Int.add_mul, Int.mul_zero, Int.add_zero]
end Go.Proofs.Ytechbpcbccjppaa
