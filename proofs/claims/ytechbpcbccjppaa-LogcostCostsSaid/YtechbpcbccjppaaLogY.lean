/- Plain numbers: the product of two long numbers, as the printed function makes it. -/
import Derived.Test.YtechbpcbccjppaaLogX
namespace Go.Proofs.Ytechbpcbccjppaa
open Go.RowKit Go.Proofs.YtechbpcbccjppaaW.PrintWords Go.Proofs.Ytechbpcbccjppaa.PLogcostRatios
set_option maxHeartbeats 200000 in
theorem l1_step (M : Nat) {a b out : List Int} {i k : Nat} (hla : a.length < 1000) (hlb : b.length < 1000) (hi : i < a.length) (hk : k < b.length) (hl : out.length = a.length + b.length + 1)
    (hab0 : 0 ≤ dg a i * dg b k) (hab1 : dg a i * dg b k ≤ 99980001) (g0 : 0 ≤ dg out (i + k)) (h2 : dg out (i + k) ≤ 20002) (g1 : 0 ≤ dg out (i + k + 1)) (g2 : dg out (i + k + 1) ≤ 10001) :
    errataref03_times.l1 (M + 1) a b out i a.length i b.length k = errataref03_times.l1 M a b (stepOut a b i k out) i a.length i b.length ((k + 1 : Nat) : Int) := by
  have c1 : (k : Int) < (b.length : Int) := by omega
  have c2 : (0 : Int) ≤ ((i + k : Nat) : Int) := by omega
  have c3 : ((i + k : Nat) : Int) < (out.length : Int) := by omega
  have c4 : (0 : Int) ≤ (i : Int) := by omega
  have c5 : (i : Int) < (a.length : Int) := by omega
  have c6 : (0 : Int) ≤ (k : Int) := by omega
  have c7 : (0 : Int) ≤ ((i + k + 1 : Nat) : Int) := by omega
  have c8 : ((i + k + 1 : Nat) : Int) < (out.length : Int) := by omega
  obtain ⟨o1, ho1⟩ : ∃ o1, out.set (i + k) (dg out (i + k) + dg a i * dg b k) = o1 := ⟨_, rfl⟩
  have y0 : o1.length = out.length := by rw [← ho1]; simp
  have y1 : dg o1 (i + k) = dg out (i + k) + dg a i * dg b k := by rw [← ho1, dg_set, if_pos ⟨rfl, by omega⟩]
  have y2 : dg o1 (i + k + 1) = dg out (i + k + 1) := by rw [← ho1, dg_set, if_neg (by omega)]
  have y3 : dg (o1.set (i + k + 1) (dg o1 (i + k + 1) + dg o1 (i + k) / 10000)) (i + k) = dg o1 (i + k) := by rw [dg_set, if_neg (by omega)]
  have d1 : 0 ≤ dg o1 (i + k) ∧ dg o1 (i + k) ≤ 100000003 := by omega
  have es : stepOut a b i k out = (o1.set (i + k + 1) (dg o1 (i + k + 1) + dg o1 (i + k) / 10000)).set (i + k) (dg o1 (i + k) % 10000) := by
    unfold stepOut; simp only [ho1, y3]
  have w5 : Int.tmod (dg o1 (i + k)) 10000 = dg o1 (i + k) % 10000 := Int.tmod_eq_emod_of_nonneg (by omega)
  have w6 : Int.tdiv (dg o1 (i + k)) 10000 = dg o1 (i + k) / 10000 := Int.tdiv_eq_ediv_of_nonneg (by omega)
  have w1 : wrap64 (dg a i * dg b k) = dg a i * dg b k := w64 (by omega) (by omega)
  have w2 : wrap64 (dg out (i + k) + dg a i * dg b k) = dg out (i + k) + dg a i * dg b k := by clear w1; exact w64 (by omega) (by omega)
  have w3 : wrap64 (dg o1 (i + k) / 10000) = dg o1 (i + k) / 10000 := by clear w1 w2; exact w64 (by omega) (by omega)
  have w4 : wrap64 (dg o1 (i + k + 1) + dg o1 (i + k) / 10000) = dg o1 (i + k + 1) + dg o1 (i + k) / 10000 := by clear w1 w2 w3; exact w64 (by omega) (by omega)
  have e1 : wrap64 ((i : Int) + (k : Int)) = ((i + k : Nat) : Int) := by clear w1 w2 w3 w4; rw [w64 (by omega) (by omega)]; omega
  have e2 : wrap64 (((i + k : Nat) : Int) + 1) = ((i + k + 1 : Nat) : Int) := by clear w1 w2 w3 w4 e1; rw [w64 (by omega) (by omega)]; omega
  have e3 : wrap64 ((k : Int) + 1) = ((k + 1 : Nat) : Int) := by clear w1 w2 w3 w4 e1 e2; rw [w64 (by omega) (by omega)]; omega
  rw [errataref03_times.l1, if_pos c1, e1, e2, e3, if_pos c2, if_pos c3, if_pos c4, if_pos c5, if_pos c6, if_pos c1]
  simp only [Option.bind_some, Int.toNat_natCast, rd_dg]
  rw [w1, w2, ho1, if_pos c7, if_pos c8, w6, w3, w4, y3, w5, es]
theorem times_l1 {a b : List Int} (ha : ∀ j, 0 ≤ dg a j ∧ dg a j < TT) (hb : ∀ j, 0 ≤ dg b j ∧ dg b j < TT) (hla : a.length < 1000) (hlb : b.length < 1000) {i : Nat} (hi : i < a.length) (R : Option (List Int) → Prop) (K : Nat)
    (hend : ∀ out, Row a b (i + 1) 0 out → R (errataref03_times.l0 K a b out a.length ((i + 1 : Nat) : Int))) (d : Nat) :
    ∀ (k : Nat) (out : List Int), k + d = b.length → Row a b i k out → R (errataref03_times.l1 (K + 1 + d) a b out i a.length i b.length k) := by
  induction d with
  | zero =>
    intro k out hd h
    obtain rfl : k = b.length := by omega
    have e : wrap64 ((i : Int) + 1) = ((i + 1 : Nat) : Int) := by rw [w64 (by omega) (by omega)]; omega
    rw [Nat.add_zero, errataref03_times.l1, if_neg (Int.lt_irrefl _), e]
    exact hend out (row_line h)
  | succ d ih =>
    intro k out hd h
    have hk : k < b.length := by omega
    have hn := row_next ha hb hi hk h
    have hl := h.1
    obtain ⟨-, h0, h1, h2, -⟩ := h
    have hab0 : 0 ≤ dg a i * dg b k := Int.mul_nonneg (ha i).1 (hb k).1
    have hab1 : dg a i * dg b k ≤ 9999 * 9999 := Int.mul_le_mul (by have := (ha i).2; simp only [TT] at this; omega) (by have := (hb k).2; simp only [TT] at this; omega) (hb k).1 (by omega)
    rw [show K + 1 + (d + 1) = (K + 1 + d) + 1 by omega, l1_step (K + 1 + d) hla hlb hi hk hl hab0 (by omega) (h0 (i + k)) (by split at h2 <;> omega) (h0 (i + k + 1)) (h1 (i + k + 1) (by omega))]
    exact ih (k + 1) (stepOut a b i k out) (by omega) hn
theorem times_l0 {a b : List Int} (ha : ∀ j, 0 ≤ dg a j ∧ dg a j < TT) (hb : ∀ j, 0 ≤ dg b j ∧ dg b j < TT) (hla : a.length < 1000) (hlb : b.length < 1000) (R : Option (List Int) → Prop) (K : Nat)
    (hend : ∀ out, Row a b a.length 0 out → R (errataref03_times.l2 K out 0)) (d : Nat) :
    ∀ (i : Nat) (out : List Int), i + d = a.length → Row a b i 0 out → R (errataref03_times.l0 (K + 1 + d * (b.length + 2)) a b out a.length i) := by
  induction d with
  | zero =>
    intro i out hd h
    obtain rfl : i = a.length := by omega
    rw [Nat.zero_mul, Nat.add_zero, errataref03_times.l0, if_neg (Int.lt_irrefl _)]
    exact hend out h
  | succ d ih =>
    intro i out hd h
    have c : (i : Int) < (a.length : Int) := by omega
    rw [show K + 1 + (d + 1) * (b.length + 2) = (K + 1 + d * (b.length + 2) + 1 + b.length) + 1 by rw [Nat.add_mul]; omega, errataref03_times.l0, if_pos c]
    exact times_l1 ha hb hla hlb (i := i) (by omega) R (K + 1 + d * (b.length + 2)) (fun o ho => ih (i + 1) o (by omega) ho) b.length 0 out (by omega) h
/-! the last two rounds: digits carried on, zeros above struck -/
/-- the state of the round that carries -/
def Carry (L j : Nat) (V : Int) (out : List Int) : Prop :=
  out.length = L ∧ (∀ m, 0 ≤ dg out m) ∧ (∀ m, m < j → dg out m < TT) ∧ dg out j ≤ 10003 ∧ (∀ m, j < m → dg out m ≤ 10001) ∧ valTo TT out L = V
theorem l2_step (M : Nat) {L j : Nat} {V : Int} {out : List Int} (hL : L < 3000) (hj : j + 1 < L) (h : Carry L j V out) :
    ∃ out', errataref03_times.l2 (M + 1) out j = errataref03_times.l2 M out' ((j + 1 : Nat) : Int) ∧ Carry L (j + 1) V out' := by
  obtain ⟨hl, h0, h1, h2, h3, h4⟩ := h
  have g0 := h0 j
  have g1 := h0 (j + 1)
  have g2 := h3 (j + 1) (by omega)
  have c1 : ((j + 1 : Nat) : Int) < (out.length : Int) := by omega
  have c2 : (0 : Int) ≤ ((j + 1 : Nat) : Int) := by omega
  have c3 : (0 : Int) ≤ (j : Int) := by omega
  have c4 : (j : Int) < (out.length : Int) := by omega
  obtain ⟨o1, ho1⟩ : ∃ o1, out.set (j + 1) (dg out (j + 1) + dg out j / 10000) = o1 := ⟨_, rfl⟩
  have y0 : o1.length = out.length := by rw [← ho1]; simp
  have y1 : dg o1 j = dg out j := by rw [← ho1, dg_set, if_neg (by omega)]
  have hd1 : ∀ m, dg o1 m = if j + 1 = m ∧ m < out.length then dg out (j + 1) + dg out j / 10000 else dg out m := fun m => by rw [← ho1, dg_set]
  have hd2 : ∀ m, dg (o1.set j (dg out j % 10000)) m = if j = m ∧ m < o1.length then dg out j % 10000 else dg o1 m := fun m => by rw [dg_set]
  have v1 := valTo_set (B := TT) out (j + 1) (dg out (j + 1) + dg out j / 10000) (by omega) out.length (Nat.le_refl _)
  have v2 := valTo_set (B := TT) o1 j (dg out j % 10000) (by omega) out.length (by omega)
  rw [ho1, if_pos (by omega)] at v1
  rw [if_pos (by omega), v1, y1] at v2
  refine ⟨o1.set j (dg out j % 10000), ?_, by simp [y0, hl], fun m => ?_, fun m hm => ?_, ?_, fun m hm => ?_, ?_⟩
  · have w5 : Int.tmod (dg out j) 10000 = dg out j % 10000 := Int.tmod_eq_emod_of_nonneg g0
    have w6 : Int.tdiv (dg out j) 10000 = dg out j / 10000 := Int.tdiv_eq_ediv_of_nonneg g0
    have w3 : wrap64 (dg out j / 10000) = dg out j / 10000 := w64 (by omega) (by omega)
    have w4 : wrap64 (dg out (j + 1) + dg out j / 10000) = dg out (j + 1) + dg out j / 10000 := by clear w3; exact w64 (by omega) (by omega)
    have e1 : wrap64 ((j : Int) + 1) = ((j + 1 : Nat) : Int) := by clear w3 w4; rw [w64 (by omega) (by omega)]; omega
    rw [errataref03_times.l2, e1, if_pos c1, if_pos c2, if_pos c3, if_pos c4]
    simp only [Option.bind_some, Int.toNat_natCast, rd_dg]
    rw [w6, w3, w4, ho1, y1, w5]
  · rw [hd2, hd1]; split
    · omega
    · split
      · omega
      · exact h0 m
  · rw [hd2, hd1]; simp only [TT]; split
    · omega
    · split
      · omega
      · have := h1 m (by omega); simp only [TT] at this; exact this
  · rw [hd2, hd1, if_neg (by omega), if_pos (by omega)]; omega
  · rw [hd2, hd1, if_neg (by omega), if_neg (by omega)]; exact h3 m (by omega)
  · rw [← hl, v2, ← h4, hl, Int.pow_succ]
    have hm := Int.emod_add_mul_ediv (dg out j) 10000
    generalize dg out j = v at *
    generalize dg out (j + 1) = u at *
    generalize valTo TT out L = X
    generalize TT ^ j = p
    generalize v % 10000 = m at *
    generalize v / 10000 = q at *
    clear v1 v2 hd1 hd2 h0 h1 h2 h3 g0 g1 g2
    subst hm
    simp only [TT]
    grind
theorem times_l2 {L : Nat} {V : Int} (hL : L < 3000) (hL1 : 1 ≤ L) (hV : V < TT ^ (L - 1)) (R : Option (List Int) → Prop) (K : Nat)
    (hend : ∀ out : List Int, out.length = L → (∀ m, 0 ≤ dg out m ∧ dg out m < TT) → valTo TT out L = V → R (errataref03_times.l3 K out)) (d : Nat) :
    ∀ (j : Nat) (out : List Int), j + d + 1 = L → Carry L j V out → R (errataref03_times.l2 (K + 1 + d) out j) := by
  induction d with
  | zero =>
    intro j out hd h
    obtain ⟨hl, h0, h1, h2, h3, h4⟩ := h
    have c : ¬ ((j + 1 : Nat) : Int) < (out.length : Int) := by omega
    have e1 : wrap64 ((j : Int) + 1) = ((j + 1 : Nat) : Int) := by rw [w64 (by omega) (by omega)]; omega
    rw [Nat.add_zero, errataref03_times.l2, e1, if_neg c]
    clear e1
    have hz : dg out j = 0 := by
      obtain rfl : L = j + 1 := by omega
      rw [Nat.add_sub_cancel] at hV
      rw [valTo_succ] at h4
      have hn : ∀ n, n ≤ j → 0 ≤ valTo TT out n := fun n => by
        induction n with
        | zero => intro _; simp [valTo]
        | succ n ih =>
          intro hn
          have := ih (by omega)
          have := Int.mul_nonneg (h0 n) (Int.le_of_lt (TT_pow_pos n))
          rw [valTo_succ]; omega
      have h5 := hn j (Nat.le_refl _)
      have h6 := h0 j
      have hp := TT_pow_pos j
      generalize TT ^ j = p at *
      generalize dg out j = x at *
      rcases Int.lt_or_le x 1 with hx | hx
      · omega
      · have : 1 * p ≤ x * p := Int.mul_le_mul_of_nonneg_right hx (by omega)
        omega
    refine hend out hl (fun m => ⟨h0 m, ?_⟩) h4
    rcases Nat.lt_trichotomy m j with hm | hm | hm
    · exact h1 m hm
    · rw [hm, hz]; decide
    · rw [dg_past _ _ (by omega)]; decide
  | succ d ih =>
    intro j out hd h
    rw [show K + 1 + (d + 1) = (K + 1 + d) + 1 by omega]
    obtain ⟨out', e, h'⟩ := l2_step (K + 1 + d) hL (by omega) h
    rw [e]
    exact ih (j + 1) out' (by omega) h'
theorem dg_take (xs : List Int) (n j : Nat) : dg (xs.take n) j = if j < n then dg xs j else 0 := by
  unfold dg
  rw [List.getD_eq_getElem?_getD, List.getD_eq_getElem?_getD, List.getElem?_take]
  split <;> rfl
theorem times_l3 {V : Int} (n : Nat) : ∀ (k : Nat) (out : List Int), n < k → out.length = n → n < 3000 → (∀ m, 0 ≤ dg out m ∧ dg out m < TT) → valTo TT out out.length = V →
    ∃ r, errataref03_times.l3 k out = some r ∧ NumL r V := by
  induction n with
  | zero =>
    intro k out hk hl hb h hv
    obtain ⟨k, rfl⟩ : ∃ m, k = m + 1 := ⟨k - 1, by omega⟩
    have c : ¬ (out.length : Int) > 0 := by omega
    refine ⟨out, by rw [errataref03_times.l3, if_neg c], h, hv, fun h => by omega⟩
  | succ n ih =>
    intro k out hk hl hb h hv
    obtain ⟨k, rfl⟩ : ∃ m, k = m + 1 := ⟨k - 1, by omega⟩
    have c : (out.length : Int) > 0 := by omega
    have c2 : (0 : Int) ≤ (n : Int) := by omega
    have c3 : (n : Int) < (out.length : Int) := by omega
    have c4 : (n : Int) ≤ (out.length : Int) := by omega
    have e : wrap64 ((out.length : Int) - 1) = (n : Int) := by rw [w64 (by omega) (by omega)]; omega
    rw [errataref03_times.l3, if_pos c, e, if_pos c2, if_pos c3, rd_dg]
    clear e
    by_cases hz : dg out n = 0
    · rw [if_pos hz, if_pos c4, Int.toNat_natCast]
      refine ih k (out.take n) (by omega) (by simp; omega) (by omega) (fun m => ?_) ?_
      · rw [dg_take]; split
        · exact h m
        · decide
      · rw [show (out.take n).length = n by simp; omega, ← hv, hl, valTo_succ, hz, Int.zero_mul, Int.add_zero]
        exact valTo_congr n (fun j hj => by rw [dg_take, if_pos hj])
    · rw [if_neg hz]
      exact ⟨out, rfl, h, hv, fun _ => by rw [hl, Nat.add_sub_cancel]; exact hz⟩
/-- **times** -/
theorem times_f {a b : List Int} {va vb : Int} (ha : NumL a va) (hb : NumL b vb) (hla : a.length < 1000) (hlb : b.length < 1000) : ∃ K r, (∀ k, K ≤ k → errataref03_times.f k a b = some r) ∧ NumL r (va * vb) := by
  have hz : ∀ j, dg (List.replicate (a.length + b.length + 1) (0 : Int)) j = 0 := fun j => by
    unfold dg
    rw [List.getD_eq_getElem?_getD, List.getElem?_replicate]
    split <;> rfl
  have hvz : ∀ n, valTo TT (List.replicate (a.length + b.length + 1) (0 : Int)) n = 0 := fun n => by
    induction n with
    | zero => rfl
    | succ n ih => rw [valTo_succ, ih, hz, Int.zero_mul]; rfl
  have r0 : Row a b 0 0 (List.replicate (a.length + b.length + 1) 0) := by
    refine ⟨by simp, fun j => by rw [hz]; decide, fun j _ => by rw [hz]; decide, by rw [hz]; decide, fun j _ => hz j, by rw [hz]; split <;> decide, ?_⟩
    rw [hvz]; simp [valTo]
  have na : 0 ≤ va := by rw [← ha.2.1]; exact numL_nonneg' ha.1 _
  have hV : va * vb < TT ^ (a.length + b.length + 1 - 1) := by
    have la := numL_lt ha
    have lb := numL_lt hb
    rw [Nat.add_sub_cancel, Int.pow_add]
    have e1 : va * vb ≤ va * TT ^ b.length := Int.mul_le_mul_of_nonneg_left (Int.le_of_lt lb) na
    have e2 : va * TT ^ b.length < TT ^ a.length * TT ^ b.length := Int.mul_lt_mul_of_pos_right la (TT_pow_pos _)
    exact Int.lt_of_le_of_lt e1 e2
  have h := times_l0 ha.1 hb.1 hla hlb (fun R => ∃ r, R = some r ∧ NumL r (va * vb)) (a.length + b.length + 2 + 1 + (a.length + b.length)) (fun out ho => by
    obtain ⟨hl, h0, h1, h2, h3, h4, h5⟩ := ho
    rw [ha.2.1, hb.2.1, dg_past a _ (Nat.le_refl _)] at h5
    simp only [Int.zero_mul, Int.add_zero] at h5
    rw [if_pos rfl] at h2
    have hc : Carry (a.length + b.length + 1) 0 (va * vb) out := by
      refine ⟨hl, h0, fun m hm => by omega, ?_, fun m hm => ?_, h5⟩
      · by_cases hm : 0 = a.length + 0
        · rw [← hm] at h2; omega
        · have := h1 0 hm; omega
      · by_cases hm2 : m = a.length + 0
        · rw [hm2]; exact h2
        · exact h1 m hm2
    refine times_l2 (by omega) (by omega) hV (fun R => ∃ r, R = some r ∧ NumL r (va * vb)) (a.length + b.length + 2) (fun o hol hod hov => ?_) (a.length + b.length) 0 out (by omega) hc
    exact times_l3 (a.length + b.length + 1) (a.length + b.length + 2) o (by omega) hol (by omega) hod (by rw [hol]; exact hov)) a.length 0 (List.replicate (a.length + b.length + 1) 0) (by omega) r0
  obtain ⟨r, hr, hn⟩ := h
  have c1 : (0 : Int) ≤ ((a.length + b.length + 1 : Nat) : Int) := by omega
  have c2 : ((a.length + b.length + 1 : Nat) : Int).toNat ≤ 35184372088832 := by omega
  have e1 : wrap64 (wrap64 ((a.length : Int) + (b.length : Int)) + 1) = ((a.length + b.length + 1 : Nat) : Int) := by
    rw [w64 (n := (a.length : Int) + (b.length : Int)) (by omega) (by omega), w64 (by omega) (by omega)]; omega
  refine ⟨a.length + b.length + 2 + 1 + (a.length + b.length) + 1 + a.length * (b.length + 2), r, fun k hk => at_rounds (g := fun k => errataref03_times.f k a b) (errataref03_times.mono a b) hk ?_, hn⟩
  show errataref03_times.f _ a b = some r
  unfold errataref03_times.f
  rw [e1, if_pos c1, if_pos c2, Int.toNat_natCast]
  exact hr
/-! ### sixteenth, Ratio -/
theorem two_num : NumL [2] 2 := ⟨fun j => by
    match j with
    | 0 => decide
    | n + 1 => rw [dg_past _ _ (by simp)]; decide, by simp [valTo, dg], fun _ => by simp [dg]⟩
theorem times_ev {a b : List Int} {va vb : Int} (ha : NumL a va) (hb : NumL b vb) (la : va < TT ^ 200) (lb : vb < TT ^ 200) : ∃ r, Ev (fun k => errataref03_times.f k a b) r ∧ NumL r (va * vb) := by
  have l1 := numL_len ha la
  have l2 := numL_len hb lb
  obtain ⟨K, r, h, hn⟩ := times_f ha hb (by omega) (by omega)
  exact ⟨r, ⟨K, h⟩, hn⟩
theorem big_TT : (2 : Int) ^ 500 < TT ^ 200 := by decide +kernel
theorem sixteenth_l0 (d : Nat) : ∀ (i : Nat) (x : List Int) (v : Int), i + d = 4 → NumL x v → v ≤ 2 ^ (31 * 2 ^ i) → ∃ r, Ev (fun k => errataref03_sixteenth.l0 k x (i : Int)) r ∧ NumL r (v ^ 2 ^ d) := by
  induction d with
  | zero =>
    intro i x v hi hx hv
    have c : ¬ ((i : Int) < 4) := by omega
    refine ⟨x, Ev.step (f := fun _ => some x) (fun k => by show errataref03_sixteenth.l0 (k + 1) x (i : Int) = some x; rw [errataref03_sixteenth.l0, if_neg c]) (Ev.now x), ?_⟩
    rw [pow1]; exact hx
  | succ d ih =>
    intro i x v hi hx hv
    have c : (i : Int) < 4 := by omega
    have e : wrap64 ((i : Int) + 1) = ((i + 1 : Nat) : Int) := by rw [w64 (by omega) (by omega)]; omega
    have hp : 31 * 2 ^ i ≤ 500 := by
      have : 2 ^ i ≤ 2 ^ 3 := Nat.pow_le_pow_right (by omega) (by omega)
      omega
    have hv2 : v < TT ^ 200 := Int.lt_of_le_of_lt (Int.le_trans hv (two_pow_mono hp)) big_TT
    have hv0 : 0 ≤ v := by rw [← hx.2.1]; exact numL_nonneg' hx.1 _
    obtain ⟨t, ht, hn⟩ := times_ev hx hx hv2 hv2
    have hvv : v * v ≤ 2 ^ (31 * 2 ^ (i + 1)) := by
      rw [show 31 * 2 ^ (i + 1) = 31 * 2 ^ i + 31 * 2 ^ i by rw [Nat.pow_succ]; omega, Int.pow_add]
      exact Int.mul_le_mul hv hv hv0 (Int.le_of_lt (two_pow_pos _))
    obtain ⟨r, hr, hn2⟩ := ih (i + 1) t (v * v) (by omega) hn hvv
    refine ⟨r, Ev.step (f := fun k => (errataref03_times.f k x x).bind fun t => errataref03_sixteenth.l0 k t ((i + 1 : Nat) : Int)) (fun k => ?_) (Ev.bind (f := fun k t => errataref03_sixteenth.l0 k t ((i + 1 : Nat) : Int)) ht hr), ?_⟩
    · show errataref03_sixteenth.l0 (k + 1) x (i : Int) = _
      rw [errataref03_sixteenth.l0, if_pos c, e]
    · rw [show v ^ 2 ^ (d + 1) = (v * v) ^ 2 ^ d by rw [Nat.pow_succ, Nat.mul_comm, Int.pow_mul, Int.pow_succ, Int.pow_succ, Int.pow_zero, Int.one_mul]]
      exact hn2
theorem sixteenth_f (n : Int) (h0 : 0 ≤ n) (h1 : n ≤ 2147483648) : ∃ r, Ev (fun k => errataref03_sixteenth.f k n) r ∧ NumL r (n ^ 16) := by
  obtain ⟨m, rfl⟩ := Int.eq_ofNat_of_zero_le h0
  have hof : Ev (fun k => errataref03_of.f k (m : Int)) (digs m) := ⟨m + 1, fun k hk => by
    show errataref03_of.f k (m : Int) = _
    unfold errataref03_of.f
    rw [of_l0 k m [] (by omega) (by simp; omega), List.nil_append]⟩
  have h31 : (2 : Int) ^ (31 * 2 ^ 0) = 2147483648 := by decide +kernel
  obtain ⟨r, hr, hn⟩ := sixteenth_l0 4 0 (digs m) (m : Int) rfl (digs_num m) (by rw [h31]; exact h1)
  exact ⟨r, Ev.bind (f := fun k t => errataref03_sixteenth.l0 k t 0) hof hr, hn⟩
theorem ratio_l0 {X : List Int} {vx : Int} (hX : NumL X vx) (hx : vx ≤ 2 ^ 496) (d : Nat) : ∀ (Y : List Int) (vy kk : Int), NumL Y vy → vy ≤ 2 ^ 498 → vx < vy * 2 ^ d → -1 ≤ kk → kk + d < 100000 →
    ∃ m : Nat, m ≤ d ∧ Ev (fun k => errataref03_Ratio.l0 k X Y kk) (kk + m, 0) ∧ vx < vy * 2 ^ m ∧ (m = 0 ∨ vy * 2 ^ (m - 1) ≤ vx) := by
  induction d with
  | zero =>
    intro Y vy kk hY hy hlt h0 h1
    rw [Int.pow_zero, Int.mul_one] at hlt
    have hl := numL_len hY (n := 200) (Int.lt_of_le_of_lt (Int.le_trans hy (two_pow_mono (by omega : 498 ≤ 500))) big_TT)
    refine ⟨0, Nat.le_refl _, ?_, by rw [Int.pow_zero, Int.mul_one]; exact hlt, .inl rfl⟩
    refine Ev.step (f := fun k => (errataref03_more.f k Y X).bind fun t => if t = true then some (kk, 0) else (errataref03_times.f k Y [2]).bind fun t' => errataref03_Ratio.l0 k X t' (wrap64 (kk + 1))) (fun k => ?_) ?_
    · show errataref03_Ratio.l0 (k + 1) X Y kk = _
      rw [errataref03_Ratio.l0]
    · refine Ev.bind (g := fun k => errataref03_more.f k Y X) (f := fun k t => if t = true then some (kk, 0) else (errataref03_times.f k Y [2]).bind fun t' => errataref03_Ratio.l0 k X t' (wrap64 (kk + 1))) (a := true) ⟨Y.length + 1, fun k hk => ?_⟩ ?_
      · show errataref03_more.f k Y X = some true
        rw [more_f hY hX k (by omega) (by omega), decide_eq_true hlt]
      · simp only [if_true, Int.natCast_zero, Int.add_zero]
        exact Ev.now _
  | succ d ih =>
    intro Y vy kk hY hy hlt h0 h1
    have hl := numL_len hY (n := 200) (Int.lt_of_le_of_lt (Int.le_trans hy (two_pow_mono (by omega : 498 ≤ 500))) big_TT)
    have hstep : ∀ k, errataref03_Ratio.l0 (k + 1) X Y kk = (errataref03_more.f k Y X).bind fun t => if t = true then some (kk, 0) else (errataref03_times.f k Y [2]).bind fun t' => errataref03_Ratio.l0 k X t' (wrap64 (kk + 1)) := fun k => by rw [errataref03_Ratio.l0]
    by_cases h : vx < vy
    · refine ⟨0, by omega, ?_, by rw [Int.pow_zero, Int.mul_one]; exact h, .inl rfl⟩
      refine Ev.step (g := fun k => errataref03_Ratio.l0 k X Y kk) hstep ?_
      refine Ev.bind (g := fun k => errataref03_more.f k Y X) (f := fun k t => if t = true then some (kk, 0) else (errataref03_times.f k Y [2]).bind fun t' => errataref03_Ratio.l0 k X t' (wrap64 (kk + 1))) (a := true) ⟨Y.length + 1, fun k hk => ?_⟩ ?_
      · show errataref03_more.f k Y X = some true
        rw [more_f hY hX k (by omega) (by omega), decide_eq_true h]
      · simp only [if_true, Int.natCast_zero, Int.add_zero]
        exact Ev.now _
    · have ht2 : (2 : Int) < TT ^ 200 := by decide +kernel
      obtain ⟨t, ht, hn⟩ := times_ev hY two_num (Int.lt_of_le_of_lt (Int.le_trans hy (two_pow_mono (by omega : 498 ≤ 500))) big_TT) ht2
      have h496 : (2 : Int) ^ 496 * 2 ≤ 2 ^ 498 := by decide +kernel
      obtain ⟨m, hm, he, h3, h4⟩ := ih t (vy * 2) (kk + 1) hn (by omega) (by rw [Int.mul_assoc, Int.mul_comm 2, ← Int.pow_succ]; exact hlt) (by omega) (by omega)
      have e2 : vy * 2 * 2 ^ m = vy * 2 ^ (m + 1) := by rw [Int.mul_assoc, Int.mul_comm 2, ← Int.pow_succ]
      refine ⟨m + 1, by omega, ?_, by rw [← e2]; exact h3, .inr ?_⟩
      · refine Ev.step (g := fun k => errataref03_Ratio.l0 k X Y kk) hstep ?_
        refine Ev.bind (g := fun k => errataref03_more.f k Y X) (f := fun k t => if t = true then some (kk, 0) else (errataref03_times.f k Y [2]).bind fun t' => errataref03_Ratio.l0 k X t' (wrap64 (kk + 1))) (a := false) ⟨Y.length + 1, fun k hk => ?_⟩ ?_
        · show errataref03_more.f k Y X = some false
          rw [more_f hY hX k (by omega) (by omega), decide_eq_false h]
        · have ew : wrap64 (kk + 1) = kk + 1 := w64 (by omega) (by omega)
          simp only [Bool.false_eq_true, if_false, ew]
          have ek : kk + ((m + 1 : Nat) : Int) = kk + 1 + (m : Int) := by clear ew; omega
          rw [ek]
          exact Ev.bind (f := fun k t' => errataref03_Ratio.l0 k X t' (kk + 1)) ht he
      · rw [Nat.add_sub_cancel]
        rcases h4 with h4 | h4
        · subst h4; rw [Int.pow_zero, Int.mul_one]; omega
        · cases m with
          | zero => rw [Int.pow_zero, Int.mul_one]; omega
          | succ q => rw [Nat.add_sub_cancel] at h4; rw [Int.pow_succ, Int.mul_comm (2 ^ q) 2, ← Int.mul_assoc]; exact h4
/-- **the reference's Ratio, as a plain function, is the ratio** -/
theorem refRatio_plain (a b : Int) : ∃ k, errataref03_Ratio.f k a b = some (ratioK a b, ratioE a b) := by
  by_cases h : NoRatio a b
  · rw [ratioK_no h, ratioE_no h]
    refine ⟨1, ?_⟩
    unfold errataref03_Ratio.f
    unfold NoRatio at h
    by_cases h1 : b < 1
    · rw [if_pos h1, errataref03_Ratio.j0, if_pos rfl]
    · rw [if_neg h1]
      by_cases h2 : a < b
      · rw [if_pos h2, errataref03_Ratio.j0, if_pos rfl]
      · rw [if_neg h2, errataref03_Ratio.j0, if_pos (by rw [decide_eq_true_eq]; omega)]
  · have h' := h
    unfold NoRatio at h'
    obtain ⟨X, hXe, hX⟩ := sixteenth_f a (by omega) (by omega)
    obtain ⟨Y, hYe, hY⟩ := sixteenth_f b (by omega) (by omega)
    have hx : a ^ 16 ≤ 2 ^ 496 := pow_bound (by omega) (by omega) 16
    have hab : b ^ 16 ≤ a ^ 16 := pow16_le (by omega) (by omega)
    have hb : (0 : Int) < b ^ 16 := Int.pow_pos (by omega)
    have h498 : (2 : Int) ^ 496 ≤ 2 ^ 498 := by decide +kernel
    have h497 : (2 : Int) ^ 496 < 2 ^ 497 := by decide +kernel
    have hlt : a ^ 16 < b ^ 16 * 2 ^ 497 := by
      have : 1 * 2 ^ 497 ≤ b ^ 16 * 2 ^ 497 := Int.mul_le_mul_of_nonneg_right (by omega) (Int.le_of_lt (two_pow_pos _))
      omega
    obtain ⟨m, hm, he, h3, h4⟩ := ratio_l0 hX hx 497 Y (b ^ 16) (-1) hY (by omega) hlt (by omega) (by omega)
    have hm0 : m ≠ 0 := by
      rintro rfl
      rw [Int.pow_zero, Int.mul_one] at h3; omega
    have h4 : b ^ 16 * 2 ^ (m - 1) ≤ a ^ 16 := by rcases h4 with h4 | h4; · exact absurd h4 hm0
                                                  · exact h4
    have hk : ratioK a b = -1 + (m : Int) := ratioK_of h ⟨by omega, by rw [show (-1 + (m : Int)).toNat = m - 1 by omega]; exact h4, by rw [show (-1 + (m : Int)).toNat + 1 = m by omega]; exact h3⟩
    rw [hk, ratioE_yes h]
    refine Ev.rounds (g := fun k => errataref03_Ratio.f k a b) (Ev.step (f := fun k => (errataref03_sixteenth.f k a).bind fun t => (errataref03_sixteenth.f k b).bind fun t' => errataref03_Ratio.l0 k t t' (-1)) (fun k => ?_) ?_)
    · show errataref03_Ratio.f (k + 1) a b = _
      unfold errataref03_Ratio.f
      rw [if_neg (by omega), if_neg (by omega), errataref03_Ratio.j0, if_neg (by rw [decide_eq_true_eq]; omega)]
    · exact Ev.bind (f := fun k t => (errataref03_sixteenth.f k b).bind fun t' => errataref03_Ratio.l0 k t t' (-1)) hXe (Ev.bind (f := fun k t' => errataref03_Ratio.l0 k X t' (-1)) hYe he)
end Go.Proofs.Ytechbpcbccjppaa
