/- Plain numbers: a number of nine words, lowest first (B: how many values a word has); what double, less and square of such a number come to. No program in sight. -/
import Derived.Test.YteigplfldhdakaaGreatDoorM17
import Derived.Outline
import Derived.Laws.Externs
import Derived.Laws.MathBits
import Derived.Deep.RegionWith
import Derived.Deep.DeepCutAuto
import Derived.Deep.CutBlock
namespace Go.Proofs.YteigplfldhdakaaGreatDoor.Lc
open Go.RowKit
/-- the number that the words below n make -/
def valTo (B : Int) (xs : List Int) : Nat → Int
  | 0 => 0
  | n + 1 => valTo B xs n + dg xs n * B ^ n
theorem valTo_succ (B : Int) (xs : List Int) (n : Nat) : valTo B xs (n + 1) = valTo B xs n + dg xs n * B ^ n := rfl
/-- all words are words -/
def InR (B : Int) (xs : List Int) : Prop := xs.length = 9 ∧ ∀ j, 0 ≤ dg xs j ∧ dg xs j < B
section
variable {B : Int} (hB : 0 < B)
include hB
theorem valTo_nonneg {xs : List Int} (h : InR B xs) : ∀ n, 0 ≤ valTo B xs n
  | 0 => by simp [valTo]
  | n + 1 => by
    have h1 := valTo_nonneg h n
    have h2 := Int.mul_nonneg (h.2 n).1 (Int.le_of_lt (Int.pow_pos hB) : 0 ≤ B ^ n)
    simp only [valTo]; omega
theorem valTo_lt {xs : List Int} (h : InR B xs) : ∀ n, valTo B xs n < B ^ n
  | 0 => by simp [valTo]
  | n + 1 => by
    have h1 := valTo_lt h n
    have h2 : (dg xs n + 1) * B ^ n ≤ B * B ^ n := Int.mul_le_mul_of_nonneg_right (by have := (h.2 n).2; omega) (Int.le_of_lt (Int.pow_pos hB))
    simp only [valTo, Int.pow_succ]
    rw [Int.mul_comm B, Int.add_mul] at h2
    generalize B ^ n = p at *
    omega
end
theorem valTo_congr {B : Int} {xs ys : List Int} : ∀ n, (∀ j, j < n → dg xs j = dg ys j) → valTo B xs n = valTo B ys n
  | 0, _ => rfl
  | n + 1, h => by simp only [valTo]; rw [valTo_congr n (fun j hj => h j (by omega)), h n (by omega)]
theorem valTo_set {B : Int} (xs : List Int) (i : Nat) (v : Int) (hi : i < xs.length) : ∀ n, n ≤ xs.length → valTo B (xs.set i v) n = if i < n then valTo B xs n + (v - dg xs i) * B ^ i else valTo B xs n
  | 0, _ => by simp [valTo]
  | n + 1, hn => by
    have ih := valTo_set (B := B) xs i v hi n (by omega)
    simp only [valTo, ih, dg_set]
    by_cases h1 : i < n
    · rw [if_pos h1, if_neg (by omega), if_pos (by omega)]; generalize (v - dg xs i) * B ^ i = p; omega
    · by_cases h2 : i = n
      · subst h2
        rw [if_neg h1, if_pos ⟨rfl, hi⟩, if_pos (by omega), Int.sub_mul]; omega
      · rw [if_neg h1, if_neg (by omega), if_neg (by omega)]
theorem valTo_high {B : Int} (xs : List Int) (m : Nat) : ∀ n, ∃ r, valTo B xs (m + n) = valTo B xs m + r * B ^ m
  | 0 => ⟨0, by simp⟩
  | n + 1 => by
    obtain ⟨r, hr⟩ := valTo_high (B := B) xs m n
    refine ⟨r + dg xs (m + n) * B ^ n, ?_⟩
    rw [← Nat.add_assoc]
    simp only [valTo, hr, Int.pow_add, Int.add_mul, Int.mul_assoc]
    rw [Int.mul_comm (B ^ m) (B ^ n), Int.add_assoc]
/-! ### less -/
def lessTo (xs ys : List Int) : Nat → Bool
  | 0 => false
  | k + 1 => if dg xs k = dg ys k then lessTo xs ys k else decide (dg xs k < dg ys k)
theorem less_step {p vx vy a b : Int} (hp : 0 < p) (lx : vx < p) (ly : vy < p) (nx : 0 ≤ vx) (ny : 0 ≤ vy) : (if a = b then decide (vx < vy) else decide (a < b)) = decide (vx + a * p < vy + b * p) := by
  by_cases h : a = b
  · rw [if_pos h, h]
    by_cases h2 : vx < vy
    · rw [decide_eq_true h2, decide_eq_true (by omega)]
    · rw [decide_eq_false h2, decide_eq_false (by omega)]
  · rw [if_neg h]
    by_cases h2 : a < b
    · have h3 : (a + 1) * p ≤ b * p := Int.mul_le_mul_of_nonneg_right (by omega) (Int.le_of_lt hp)
      rw [Int.add_mul] at h3
      rw [decide_eq_true h2, decide_eq_true (by omega)]
    · have h3 : (b + 1) * p ≤ a * p := Int.mul_le_mul_of_nonneg_right (by omega) (Int.le_of_lt hp)
      rw [Int.add_mul] at h3
      rw [decide_eq_false h2, decide_eq_false (by omega)]
theorem lessTo_iff {B : Int} (hB : 0 < B) {xs ys : List Int} (hx : InR B xs) (hy : InR B ys) : ∀ n, lessTo xs ys n = decide (valTo B xs n < valTo B ys n)
  | 0 => by simp [lessTo, valTo]
  | n + 1 => by
    have ih := lessTo_iff hB hx hy n
    have lx := valTo_lt hB hx n
    have ly := valTo_lt hB hy n
    have nx := valTo_nonneg hB hx n
    have ny := valTo_nonneg hB hy n
    have hp : 0 < B ^ n := Int.pow_pos hB
    simp only [lessTo, valTo]
    rw [ih]
    exact less_step hp lx ly nx ny
/-! ### double -/
def dblC (xs : List Int) : Nat → Int
  | 0 => 0
  | k + 1 => dg xs k / 9223372036854775808
def dblD (xs : List Int) (k : Nat) : Int := bits BinOp.or IntKind.u64 (IntKind.u64.wrap (dg xs k * 2)) (dblC xs k)
abbrev B64 : Int := 18446744073709551616
theorem dblC_bit {xs : List Int} (h : InR B64 xs) (k : Nat) : dblC xs k = 0 ∨ dblC xs k = 1 := by
  cases k with
  | zero => exact .inl rfl
  | succ k =>
    have := h.2 k
    simp only [B64] at this
    simp only [dblC]; omega
theorem dblD_eq {xs : List Int} (h : InR B64 xs) (k : Nat) : dblD xs k = dg xs k * 2 % B64 + dblC xs k := by
  have hk := h.2 k
  unfold dblD
  have hw : IntKind.u64.wrap (dg xs k * 2) = dg xs k * 2 % 18446744073709551616 := by rfl
  rw [hw]
  have hc := dblC_bit h k
  simp only [B64]
  exact bits_join .u64 64 (by decide) (fun n h0 h1 => by show n % 18446744073709551616 = n; omega) 1 _ _ (by omega) (by omega) (by omega) (by omega) (by omega) (by omega)
theorem dbl_val {xs ys : List Int} (h : InR B64 xs) (hd : ∀ j, j < 9 → dg ys j = dblD xs j) : ∀ n, n ≤ 9 → valTo B64 ys n + dblC xs n * B64 ^ n = 2 * valTo B64 xs n
  | 0, _ => by simp [valTo, dblC]
  | n + 1, hn => by
    have ih := dbl_val h hd n (by omega)
    have e := dblD_eq h n
    have hk := h.2 n
    have e2 : dg xs n * 2 = dg xs n * 2 % B64 + dblC xs (n + 1) * B64 := by
      simp only [dblC, B64] at hk ⊢; omega
    simp only [valTo, hd n (by omega), e, Int.pow_succ]
    generalize dg xs n * 2 % B64 = m at *
    generalize dblC xs (n + 1) = c1 at *
    generalize B64 = B at *
    generalize B ^ n = p at *
    generalize dg xs n = a at *
    generalize dblC xs n = c0 at *
    generalize valTo B ys n = vy at *
    generalize valTo B xs n = vx at *
    have h3 : a * 2 * p = (m + c1 * B) * p := by rw [e2]
    grind
/-! ### square -/
def hiP (x y : Int) : Int := x * y / 18446744073709551616
def loP (x y : Int) : Int := x * y % 18446744073709551616
def sumL (x y : Int) : Int := (x + y) % 18446744073709551616
def sumH (x y : Int) : Int := (x + y) / 18446744073709551616
/-- what a step of the inner round leaves in the word, and carries -/
def sqNew (o lo c : Int) : Int := sumL o (sumL lo c)
def sqCarry (o hi lo c : Int) : Int := IntKind.u64.wrap (IntKind.u64.wrap (hi + sumH lo c) + sumH o (sumL lo c))
/-- the inner round's relation -/
def SqIn (xs : List Int) (i k : Nat) (out : List Int) (c : Int) : Prop :=
  InR B64 out ∧ 0 ≤ c ∧ c < B64 ∧ ∃ q, valTo B64 out 9 + c * B64 ^ (i + k) = valTo B64 xs i * valTo B64 xs 9 + dg xs i * B64 ^ i * valTo B64 xs k + q * B64 ^ 9
def SqOut (xs : List Int) (i : Nat) (out : List Int) : Prop :=
  InR B64 out ∧ ∃ q, valTo B64 out 9 = valTo B64 xs i * valTo B64 xs 9 + q * B64 ^ 9
theorem sqOut_zero (xs : List Int) : SqOut xs 0 (List.replicate 9 0) := by
  have hz : ∀ j, dg (List.replicate 9 0) j = 0 := fun j => by
    unfold dg
    rw [List.getD_eq_getElem?_getD, List.getElem?_replicate]
    split <;> rfl
  have hv : ∀ n, valTo B64 (List.replicate 9 0) n = 0 := fun n => by
    induction n with
    | zero => rfl
    | succ n ih => simp only [valTo, ih, hz]; omega
  exact ⟨⟨by simp, fun j => by rw [hz]; simp only [B64]; omega⟩, 0, by rw [hv]; simp [valTo]⟩
theorem sqIn_zero {xs out : List Int} {i : Nat} (h : SqOut xs i out) : SqIn xs i 0 out 0 := by
  obtain ⟨hr, q, hq⟩ := h
  exact ⟨hr, by omega, by simp only [B64]; omega, q, by rw [hq]; simp [valTo]⟩
theorem sqOut_next {xs out : List Int} {i : Nat} {c : Int} (hi : i < 9) (h : SqIn xs i (9 - i) out c) : SqOut xs (i + 1) out := by
  obtain ⟨hr, -, -, q, hq⟩ := h
  obtain ⟨r, hh⟩ := valTo_high (B := B64) xs (9 - i) i
  rw [show 9 - i + i = 9 by omega] at hh
  rw [show i + (9 - i) = 9 by omega] at hq
  have hp : B64 ^ i * B64 ^ (9 - i) = B64 ^ 9 := by rw [← Int.pow_add, show i + (9 - i) = 9 by omega]
  refine ⟨hr, q - c - dg xs i * r, ?_⟩
  rw [valTo_succ B64 xs i]
  generalize B64 ^ (9 - i) = p2 at *
  generalize B64 ^ i = p1 at *
  generalize B64 ^ 9 = p at *
  generalize valTo B64 xs 9 = X at *
  generalize valTo B64 xs i = Xi at *
  generalize valTo B64 xs (9 - i) = Y at *
  generalize valTo B64 out 9 = O at *
  generalize dg xs i = a at *
  subst hh
  subst hp
  grind
theorem sq_arith {x y o c : Int} (hx : 0 ≤ x ∧ x < B64) (hy : 0 ≤ y ∧ y < B64) (ho : 0 ≤ o ∧ o < B64) (hc : 0 ≤ c ∧ c < B64) :
    sqNew o (loP x y) c + B64 * sqCarry o (hiP x y) (loP x y) c = o + c + x * y ∧ 0 ≤ sqNew o (loP x y) c ∧ sqNew o (loP x y) c < B64 ∧ 0 ≤ sqCarry o (hiP x y) (loP x y) c ∧ sqCarry o (hiP x y) (loP x y) c < B64 := by
  have h1 : 0 ≤ x * y := Int.mul_nonneg hx.1 hy.1
  have h2 : x * y ≤ (B64 - 1) * (B64 - 1) := Int.mul_le_mul (by omega) (by omega) hy.1 (by simp only [B64]; omega)
  unfold sqNew sqCarry sumL sumH hiP loP
  have hw : ∀ z : Int, IntKind.u64.wrap z = z % 18446744073709551616 := fun _ => rfl
  simp only [hw, B64] at *
  generalize x * y = m at *
  omega
theorem sqIn_next {xs out : List Int} {i k : Nat} {c : Int} (hxs : InR B64 xs) (hk : i + k < 9) (h : SqIn xs i k out c) :
    SqIn xs i (k + 1) (out.set (i + k) (sqNew (dg out (i + k)) (loP (dg xs i) (dg xs k)) c)) (sqCarry (dg out (i + k)) (hiP (dg xs i) (dg xs k)) (loP (dg xs i) (dg xs k)) c) := by
  obtain ⟨hr, hc0, hc1, q, hq⟩ := h
  obtain ⟨e, n0, n1, c0, c1⟩ := sq_arith (hxs.2 i) (hxs.2 k) (hr.2 (i + k)) ⟨hc0, hc1⟩
  refine ⟨⟨by simp [hr.1], fun j => ?_⟩, c0, c1, q, ?_⟩
  · rw [dg_set]
    split
    · exact ⟨n0, n1⟩
    · exact hr.2 j
  · rw [valTo_set _ _ _ (by rw [hr.1]; omega) 9 (by rw [hr.1]; omega), if_pos hk, ← Nat.add_assoc, Int.pow_succ]
    rw [valTo_succ B64 xs k]
    have hp : B64 ^ (i + k) = B64 ^ i * B64 ^ k := Int.pow_add _ _ _
    generalize sqNew (dg out (i + k)) (loP (dg xs i) (dg xs k)) c = nw at *
    generalize sqCarry (dg out (i + k)) (hiP (dg xs i) (dg xs k)) (loP (dg xs i) (dg xs k)) c = cr at *
    generalize B64 ^ (i + k) = p at *
    generalize B64 ^ i = p1 at *
    generalize B64 ^ k = p2 at *
    generalize B64 ^ 9 = p9 at *
    generalize valTo B64 xs 9 = X at *
    generalize valTo B64 xs i = Xi at *
    generalize valTo B64 xs k = Xk at *
    generalize valTo B64 out 9 = O at *
    generalize dg xs i = a at *
    generalize dg xs k = b at *
    generalize dg out (i + k) = o at *
    generalize B64 = B at *
    have e3 : (nw + B * cr) * p = (o + c + a * b) * p := by rw [e]
    clear hr hxs
    subst hp
    grind
theorem sq_val {xs out : List Int} (hxs : InR B64 xs) (h : SqOut xs 9 out) (hb : valTo B64 xs 9 * valTo B64 xs 9 < B64 ^ 9) : valTo B64 out 9 = valTo B64 xs 9 * valTo B64 xs 9 := by
  obtain ⟨hr, q, hq⟩ := h
  have h1 := valTo_lt (B := B64) (by simp only [B64]; omega) hr 9
  have h2 := valTo_nonneg (B := B64) (by simp only [B64]; omega) hr 9
  have h3 := valTo_nonneg (B := B64) (by simp only [B64]; omega) hxs 9
  have h4 : 0 ≤ valTo B64 xs 9 * valTo B64 xs 9 := Int.mul_nonneg h3 h3
  have hp : (0 : Int) < B64 ^ 9 := Int.pow_pos (by simp only [B64]; omega)
  generalize valTo B64 xs 9 * valTo B64 xs 9 = s at *
  generalize valTo B64 out 9 = t at *
  generalize B64 ^ 9 = p at *
  have : q = 0 := by
    rcases Int.lt_trichotomy q 0 with hq0 | hq0 | hq0
    · have : q * p ≤ (-1) * p := Int.mul_le_mul_of_nonneg_right (by omega) (by omega)
      omega
    · exact hq0
    · have : 1 * p ≤ q * p := Int.mul_le_mul_of_nonneg_right (by omega) (by omega)
      omega
  subst this
  omega
end Go.Proofs.YteigplfldhdakaaGreatDoor.Lc
/- The walks of logcost's wide numbers: less, double. -/
namespace Go.Proofs.YteigplfldhdakaaGreatDoor.Lc
open Go.RowKit
set_option maxRecDepth 100000 in
set_option maxHeartbeats 400000 in
theorem less_any (xs ys : List Int) (hx : xs.length = 9) (hy : ys.length = 9) (w : World) :
    Calls Tryz.prog 30 #[.agg (nums .u64 xs).toArray, .agg (nums .u64 ys).toArray] w fun e w' => e = .returned (.bool (lessTo xs ys 9)) ∧ Below w.heap.size w w' := by
  obtain ⟨W, hW⟩ : ∃ W, (w.alloc (Obj.cells (nums IntKind.u64 xs).toArray 88)).alloc (Obj.cells (nums IntKind.u64 ys).toArray 88) = W := ⟨_, rfl⟩
  have hB : Below w.heap.size w W := by rw [← hW]; exact balloc (balloc (Below.refl _ w) _) _
  have bx : Blk W w.heap.size .u64 88 xs := by rw [← hW]; exact (Blk.new w _ _ _).alloc _
  have by_ : Blk W (w.heap.size + 1) .u64 88 ys := by rw [← hW]; have := Blk.new (w.alloc (Obj.cells (nums IntKind.u64 xs).toArray 88)) .u64 88 ys; rwa [World.size_alloc] at this
  have HW := hid hW
  have hx9 : 9 ≤ xs.length := by omega
  have hy9 : 9 ≤ ys.length := by omega
  clear hW hx hy
  go_enter Tryz.func30, Tryz.ntmps30
  go_wp2
  rw [HW.out]
  go_loopw [5] (fun i wr => ∃ k : Nat, k ≤ 9 ∧ i = .int .i64 ((k : Int) - 1) ∧ Hid (lessTo xs ys 9 = lessTo xs ys k) ∧ Hid (∃ n, wr = W.drewN n)) (fun i _ => (intOf i + 1).toNat)
  case atStart => exact ⟨9, Nat.le_refl _, rfl, hid rfl, hid ⟨0, rfl⟩⟩
  case round =>
    obtain ⟨k, hk, rfl, hl, hd⟩ := hrel
    obtain ⟨n, rfl⟩ := hd.out
    clear hd
    cases k with
    | zero =>
      go_wp2
      go_ret
      exact ⟨by rw [hl.out]; rfl, bdrew hB n⟩
    | succ k =>
      have hk9 : (k : Int) < 9 := by omega
      have x1 := bx.cell k (by omega)
      have y1 := by_.cell k (by omega)
      by_cases hne : dg xs k = dg ys k
      · have hb : (dg xs k != dg ys k) = false := by simp [hne]
        have hl2 : Hid (lessTo xs ys 9 = lessTo xs ys k) := by rw [hl.out]; simp only [lessTo]; rw [if_pos hne]; exact hid rfl
        clear hne hl
        go_wp2
        go_quiet (fail)
        go_wp2
        go_roundw
        case rel => exact ⟨k, by omega, rfl, hl2, hid ⟨_, rfl⟩⟩
        case measure => simp [intOf]
      · have hb : (dg xs k != dg ys k) = true := by simp [hne]
        have hl2 : Hid (lessTo xs ys 9 = decide (dg xs k < dg ys k)) := by rw [hl.out]; simp only [lessTo]; rw [if_neg hne]; exact hid rfl
        clear hne hl
        go_wp2
        go_quiet (fail)
        go_wp2
        go_quiet (fail)
        go_wp2
        go_ret
        exact ⟨ret_val (by rw [hl2.out]; rfl), bdrew (bdrew (bdrew hB _) _) _⟩

theorem dg_zeros (j : Nat) : dg (List.replicate 9 0) j = 0 := by
  unfold dg
  rw [List.getD_eq_getElem?_getD, List.getElem?_replicate]
  split <;> rfl
theorem run_index_row (xs : List Int) (hx : xs.length = 9) (k : Nat) (hk : k < 9) (w : World) : (Instr.index 88 (.agg (nums .u64 xs).toArray) (.int .i64 k)).run Tryz.prog w = .ok (.int .u64 (dg xs k)) w := by
  have h1 : Tryz.prog.underlying 88 = some (.array 9 86) := Tryz.underlying88
  have h2 : (nums .u64 xs)[k]? = some (.int .u64 (dg xs k)) := by have := nums_get .u64 xs k (by omega); simpa using this
  simp only [Instr.index]
  go_simp
set_option maxRecDepth 100000 in
set_option maxHeartbeats 400000 in
theorem double_any (xs : List Int) (hx : xs.length = 9) (w : World) :
    Calls Tryz.prog 29 #[.agg (nums .u64 xs).toArray] w fun e w' => ∃ ys : List Int, e = .returned (.agg (nums .u64 ys).toArray) ∧ ys.length = 9 ∧ (∀ j, j < 9 → dg ys j = dblD xs j) ∧ Below w.heap.size w w' := by
  obtain ⟨W, hW⟩ : ∃ W, (w.alloc (Obj.cells (nums IntKind.u64 xs).toArray 88)).alloc (Obj.cells #[.int .u64 0, .int .u64 0, .int .u64 0, .int .u64 0, .int .u64 0, .int .u64 0, .int .u64 0, .int .u64 0, .int .u64 0] 88) = W := ⟨_, rfl⟩
  have hB : Below w.heap.size w W := by rw [← hW]; exact balloc (balloc (Below.refl _ w) _) _
  have bx : Blk W w.heap.size .u64 88 xs := by rw [← hW]; exact (Blk.new w _ _ _).alloc _
  have by_ : Blk W (w.heap.size + 1) .u64 88 (List.replicate 9 0) := by rw [← hW]; have := Blk.new (w.alloc (Obj.cells (nums IntKind.u64 xs).toArray 88)) .u64 88 (List.replicate 9 0); rwa [World.size_alloc] at this
  have HW := hid hW
  have bx0 : Hid (Blk ((w.alloc (Obj.cells (nums IntKind.u64 xs).toArray 88)).alloc (Obj.cells #[.int .u64 0, .int .u64 0, .int .u64 0, .int .u64 0, .int .u64 0, .int .u64 0, .int .u64 0, .int .u64 0, .int .u64 0] 88)) w.heap.size .u64 88 xs) := by rw [hW]; exact bx
  have hx9 : 9 ≤ xs.length := by omega
  have HX := hid hx
  have hinf : (Tryz.prog.info? 88).map (·.size) = some xs.length := by rw [hx]; kernel_rfl
  have hidx := run_index_row xs hx
  clear hW hx
  go_enter Tryz.func29, Tryz.ntmps29
  go_wp2_with (refine load_row rfl 88 _ rfl _ rfl bx0.out Tryz.underlying88 hinf ?_)
  rw [HW.out]
  clear HW bx0
  go_loopw [3, 7] (fun c i wr => ∃ (k : Nat) (ys : List Int), k ≤ 9 ∧ i = .int .i64 (k : Int) ∧ c = .int .u64 (dblC xs k) ∧ ys.length = 9 ∧ Hid (∀ j, dg ys j = if j < k then dblD xs j else 0) ∧ Blk wr (w.heap.size + 1) .u64 88 ys ∧ Below w.heap.size w wr) (fun _ i _ => 9 - (intOf i).toNat)
  case atStart => exact ⟨0, List.replicate 9 0, by omega, rfl, rfl, rfl, hid (fun j => by rw [dg_zeros]; simp), by_, hB⟩
  case round =>
    obtain ⟨k, ys, hk, rfl, rfl, hl, hd, hb, hBw⟩ := hrel
    clear by_ hB
    have hinf2 : Hid ((Tryz.prog.info? 88).map (·.size) = some ys.length) := by rw [hl]; exact hid (by kernel_rfl)
    by_cases h9 : k < 9
    · have hidk := hidx k h9
      have hc := hb.cell k (by omega)
      have hf := hb.frozen k
      have HB := hid hb
      have HL := hid hl
      clear hidx hb hl
      go_wp2
      go_roundw
      case rel => exact ⟨k + 1, ys.set k (dblD xs k), by omega, by go_num, rfl, by simp [HL.out], hid (fun j => by rw [dg_set, hd.out j, HL.out]; grind), HB.out.set_ k _, hBw.setCell (by simp) _⟩
      case measure => simp [intOf]; omega
    · obtain rfl : k = 9 := by omega
      have HB := hid hb
      have HL := hid hl
      clear hidx hb hl
      go_wp2_with (first | (refine load_row rfl 88 _ rfl _ rfl HB.out Tryz.underlying88 hinf2.out ?_) | (refine store_row rfl 88 _ _ rfl _ rfl rfl HB.out rfl hinf2.out ?_; rintro W' hW'; have HW' := hid hW'; clear hW'))
      have hb2 : Blk W' (w.heap.size + 1) .u64 88 ys := by rw [HW'.out]; exact HB.out.row ys
      have hB2 : Below w.heap.size w W' := by rw [HW'.out]; exact below_setRow hBw (by omega) _
      refine bodyPost_ret (v := .agg (nums .u64 ys).toArray) (results_cell_row rfl _ _ _ 88 _ (0, 0) _ rfl hb2 Tryz.underlying88 rfl (by rw [hinf2.out]; simp [nums])) rfl ?_
      exact ⟨ys, rfl, HL.out, fun j hj => by rw [hd.out, if_pos hj], hB2⟩
end Go.Proofs.YteigplfldhdakaaGreatDoor.Lc
/- The walks of logcost's square, and of the two functions of math/bits that it calls. -/
namespace Go.Proofs.YteigplfldhdakaaGreatDoor.Lc
open Go.RowKit
theorem add64_call (x y : Int) (hx : 0 ≤ x) (hy : 0 ≤ y) (w : World) : (callFunc 60 #[.int .u64 x, .int .u64 y, .int .u64 0]).run Tryz.prog w = .ok (.value (.tuple #[.int .u64 (sumL x y), .int .u64 (sumH x y)])) w := by
  rw [run_callFunc_extern Tryz.func60 (by kernel_rfl) (by kernel_rfl) (by kernel_rfl) (e := add64Entry) (by kernel_rfl), run_add64 x y 0 hx hy (by omega) (by omega)]
  simp only [Result.andThen, sumL, sumH, Int.add_zero]
set_option maxRecDepth 100000 in
set_option maxHeartbeats 400000 in
theorem mul64_any (x y : Int) (hx : 0 ≤ x ∧ x < B64) (hy : 0 ≤ y ∧ y < B64) (w : World) :
    Calls Tryz.prog 59 #[.int .u64 x, .int .u64 y] w fun e w' => e = .returned (.tuple #[.int .u64 (hiP x y), .int .u64 (loP x y)]) ∧ w = w' := by
  have hx1 : 0 ≤ x := hx.1
  have hy1 : 0 ≤ y := hy.1
  have HX := hid hx
  have HY := hid hy
  clear hx hy
  go_enter Tryz.func59, Tryz.ntmps59
  go_wp2
  go_ret2
  have h := mul64_arith x y HX.out.1 HX.out.2 HY.out.1 HY.out.2
  have hm : ∀ z : Int, 0 ≤ z → z < 18446744073709551616 → bits BinOp.and IntKind.u64 z 4294967295 = z % 4294967296 := fun z h0 h1 => bits_mask .u64 64 (by decide) (fun n h0 h1 => by show n % 18446744073709551616 = n; omega) 32 (by decide) z h0 h1
  have e1 := hm x HX.out.1 HX.out.2
  have e2 := hm y HY.out.1 HY.out.2
  have hw : ∀ z : Int, IntKind.u64.wrap z = z % 18446744073709551616 := fun _ => rfl
  refine ⟨ret_val ?_, rfl⟩
  refine congrArg (fun a => Value.tuple #[Value.int .u64 a, Value.int .u64 (x * y % 18446744073709551616)]) ?_
  rw [e1, e2, hm _ (by simp only [hw]; omega) (by simp only [hw]; omega)]
  simp only [hw]
  exact h
set_option maxRecDepth 100000 in
set_option maxHeartbeats 1000000 in
theorem square_any (xs : List Int) (hx : InR B64 xs) (w : World) :
    Calls Tryz.prog 31 #[.agg (nums .u64 xs).toArray] w fun e w' => ∃ ys : List Int, e = .returned (.agg (nums .u64 ys).toArray) ∧ SqOut xs 9 ys ∧ Below w.heap.size w w' := by
  obtain ⟨W, hW⟩ : ∃ W, (w.alloc (Obj.cells (nums IntKind.u64 xs).toArray 88)).alloc (Obj.cells #[.int .u64 0, .int .u64 0, .int .u64 0, .int .u64 0, .int .u64 0, .int .u64 0, .int .u64 0, .int .u64 0, .int .u64 0] 88) = W := ⟨_, rfl⟩
  have hB : Below w.heap.size w W := by rw [← hW]; exact balloc (balloc (Below.refl _ w) _) _
  have bx : Blk W w.heap.size .u64 88 xs := by rw [← hW]; exact (Blk.new w _ _ _).alloc _
  have by_ : Blk W (w.heap.size + 1) .u64 88 (List.replicate 9 0) := by rw [← hW]; have := Blk.new (w.alloc (Obj.cells (nums IntKind.u64 xs).toArray 88)) .u64 88 (List.replicate 9 0); rwa [World.size_alloc] at this
  have HW := hid hW
  have bx0 : Hid (Blk ((w.alloc (Obj.cells (nums IntKind.u64 xs).toArray 88)).alloc (Obj.cells #[.int .u64 0, .int .u64 0, .int .u64 0, .int .u64 0, .int .u64 0, .int .u64 0, .int .u64 0, .int .u64 0, .int .u64 0] 88)) w.heap.size .u64 88 xs) := by rw [hW]; exact bx
  have hx9 : 9 ≤ xs.length := by rw [hx.1]; omega
  have HX := hid hx
  have hinf : (Tryz.prog.info? 88).map (·.size) = some xs.length := by rw [hx.1]; kernel_rfl
  have hidx := run_index_row xs hx.1
  clear hW hx
  go_enter Tryz.func31, Tryz.ntmps31
  go_wp2_with (refine load_row rfl 88 _ rfl _ rfl bx0.out Tryz.underlying88 hinf ?_)
  rw [HW.out]
  clear HW bx0
  go_loopw [11] (fun iv wr => ∃ (i : Nat) (ys : List Int), i ≤ 9 ∧ iv = .int .i64 (i : Int) ∧ Hid (SqOut xs i ys) ∧ Blk wr w.heap.size .u64 88 xs ∧ Blk wr (w.heap.size + 1) .u64 88 ys ∧ Below w.heap.size w wr) (fun i _ => 9 - (intOf i).toNat)
  case atStart => exact ⟨0, List.replicate 9 0, by omega, rfl, hid (sqOut_zero xs), bx, by_, hB⟩
  case round =>
    obtain ⟨i, ys, hi, rfl, hq, hbx, hby, hBw⟩ := hrel
    clear bx by_ hB
    by_cases h9 : i < 9
    · have hidk := hidx i h9
      have hd9 : decide ((i : Int) < 9) = true := by simp; omega
      clear hidx
      go_wp2
      go_loopw [17, 5] (fun kv cv wq => ∃ (k : Nat) (c : Int) (zs : List Int), i + k ≤ 9 ∧ kv = .int .i64 (k : Int) ∧ cv = .int .u64 c ∧ Hid (SqIn xs i k zs c) ∧ Blk wq w.heap.size .u64 88 xs ∧ Blk wq (w.heap.size + 1) .u64 88 zs ∧ Below w.heap.size w wq) (fun k _ _ => 9 - (intOf k).toNat)
      case atStart => exact ⟨0, 0, ys, by omega, rfl, rfl, hid (sqIn_zero hq.out), hbx, hby, hBw⟩
      case round =>
        obtain ⟨k, c, zs, hk, rfl, rfl, hqi, hcx, hcz, hBq⟩ := hrel
        clear hbx hby hBw
        by_cases hk9 : i + k < 9
        · have hc1 := hcx.cell k (by omega)
          have hz9 : 9 ≤ zs.length := by rw [hqi.out.1.1]; omega
          have hc2 := hcz.cell (i + k) (by omega)
          have hf2 := hcz.frozen (i + k)
          have d1 := HX.out.2 i
          have d2 := HX.out.2 k
          have d3 := hqi.out.1.2 (i + k)
          have hlo : 0 ≤ loP (dg xs i) (dg xs k) := by unfold loP; omega
          have hs1 : 0 ≤ sumL (loP (dg xs i) (dg xs k)) c := by unfold sumL; omega
          have ha1 := add64_call (loP (dg xs i) (dg xs k)) c hlo hqi.out.2.1
          have ha2 := add64_call (dg zs (i + k)) (sumL (loP (dg xs i) (dg xs k)) c) d3.1 hs1
          have D1 := hid d1
          have D2 := hid d2
          have HC := hid hcx
          have HZ := hid hcz
          clear hlo hs1 d1 d2 d3 hcx hcz hx9 hinf hz9
          go_wp2_with (go_at_call 59; refine (mul64_any _ _ D1.out D2.out _).mono ?_; rintro e w' ⟨rfl, rfl⟩)
          go_roundw
          case rel => exact ⟨k + 1, sqCarry (dg zs (i + k)) (hiP (dg xs i) (dg xs k)) (loP (dg xs i) (dg xs k)) c, zs.set (i + k) (sqNew (dg zs (i + k)) (loP (dg xs i) (dg xs k)) c), by omega, by go_num, rfl, hid (sqIn_next HX.out hk9 hqi.out), HC.out.far (by simp) _, HZ.out.set_ _ _, hBq.setCell (by simp) _⟩
          case measure => simp [intOf]; omega
        · go_wp2
          obtain rfl : k = 9 - i := by omega
          go_roundw
          case rel => exact ⟨i + 1, zs, by omega, by go_num, hid (sqOut_next h9 hqi.out), hcx, hcz, hBq⟩
          case measure => simp [intOf]; omega
    · obtain rfl : i = 9 := by omega
      have hinf2 : Hid ((Tryz.prog.info? 88).map (·.size) = some ys.length) := by rw [hq.out.1.1]; exact hid (by kernel_rfl)
      have HB := hid hby
      clear hidx hby
      go_wp2_with (first | (refine load_row rfl 88 _ rfl _ rfl HB.out Tryz.underlying88 hinf2.out ?_) | (refine store_row rfl 88 _ _ rfl _ rfl rfl HB.out rfl hinf2.out ?_; rintro W' hW'; have HW' := hid hW'; clear hW'))
      have hb2 : Blk W' (w.heap.size + 1) .u64 88 ys := by rw [HW'.out]; exact HB.out.row ys
      have hB2 : Below w.heap.size w W' := by rw [HW'.out]; exact below_setRow hBw (by omega) _
      refine bodyPost_ret (v := .agg (nums .u64 ys).toArray) (results_cell_row rfl _ _ _ 88 _ (0, 0) _ rfl hb2 Tryz.underlying88 rfl (by rw [hinf2.out]; simp [nums])) rfl ?_
      exact ⟨ys, rfl, hq.out, hB2⟩
end Go.Proofs.YteigplfldhdakaaGreatDoor.Lc
/- Plain numbers: what the two loops of a ratio come to. No program in sight. -/
namespace Go.Proofs.YteigplfldhdakaaGreatDoor.Lc
open Go.RowKit
/-- what holds between two doublings -/
def Whole (a b : Int) (k : Nat) (ys : List Int) : Prop := InR B64 ys ∧ valTo B64 ys 9 = b * 2 ^ k ∧ b * 2 ^ k ≤ a
/-- what holds of the rest, before round i -/
def Rest (a b : Int) (i : Nat) (k : Int) (xs ys : List Int) : Prop :=
  InR B64 xs ∧ InR B64 ys ∧ valTo B64 xs 9 = a ^ (2 ^ i) ∧ 0 ≤ k ∧ valTo B64 ys 9 = b ^ (2 ^ i) * 2 ^ k.toNat ∧ b ^ (2 ^ i) * 2 ^ k.toNat ≤ a ^ (2 ^ i) ∧ a ^ (2 ^ i) < b ^ (2 ^ i) * 2 ^ (k.toNat + 1)
/-- what Ratio tells -/
def IsRatio (a b k : Int) : Prop := 0 ≤ k ∧ b ^ 16 * 2 ^ k.toNat ≤ a ^ 16 ∧ a ^ 16 < b ^ 16 * 2 ^ (k.toNat + 1)
theorem B64_pos : (0 : Int) < B64 := by simp only [B64]; omega
theorem pow1 (a : Int) : a ^ 2 ^ 0 = a := by rw [show 2 ^ 0 = 0 + 1 from rfl, Int.pow_succ, Int.pow_zero, Int.one_mul]
theorem valTo_one (a : Int) : valTo B64 [a, 0, 0, 0, 0, 0, 0, 0, 0] 9 = a := by simp [valTo, dg]
theorem inR_one {a : Int} (h0 : 0 ≤ a) (h1 : a < B64) : InR B64 [a, 0, 0, 0, 0, 0, 0, 0, 0] := by
  refine ⟨rfl, fun j => ?_⟩
  have hp := B64_pos
  match j with
  | 0 => exact ⟨h0, h1⟩
  | 1 | 2 | 3 | 4 | 5 | 6 | 7 | 8 => exact ⟨by simp [dg], by simpa [dg] using hp⟩
  | n + 9 => exact ⟨by simp [dg], by simpa [dg] using hp⟩
theorem two_pow_mono {m n : Nat} (h : m ≤ n) : (2 : Int) ^ m ≤ 2 ^ n := by
  have := Nat.pow_le_pow_right (show 0 < 2 by omega) h
  exact_mod_cast this
theorem two_pow_lt {m n : Nat} (h : (2 : Int) ^ m < 2 ^ n) : m < n := by
  rcases Nat.lt_or_ge m n with h1 | h1
  · exact h1
  · have := two_pow_mono h1; omega
theorem two_pow_pos (n : Nat) : (0 : Int) < 2 ^ n := Int.pow_pos (by omega)
theorem B64_9 : B64 ^ 9 = 2 ^ 576 := by decide +kernel
/-- a double, where it fits -/
theorem dbl_spec {ys zs : List Int} (h : InR B64 ys) (hl : zs.length = 9) (hd : ∀ j, j < 9 → dg zs j = dblD ys j) (hf : 2 * valTo B64 ys 9 < B64 ^ 9) : InR B64 zs ∧ valTo B64 zs 9 = 2 * valTo B64 ys 9 := by
  have hz : InR B64 zs := by
    refine ⟨hl, fun j => ?_⟩
    by_cases hj : j < 9
    · rw [hd j hj, dblD_eq h j]
      have := dblC_bit h j
      have := h.2 j
      simp only [B64] at *
      omega
    · have : dg zs j = 0 := by unfold dg; rw [List.getD_eq_getElem?_getD, List.getElem?_eq_none (by omega)]; rfl
      rw [this]
      exact ⟨by omega, B64_pos⟩
  refine ⟨hz, ?_⟩
  have e := dbl_val h hd 9 (by omega)
  have h2 := valTo_nonneg B64_pos hz 9
  have hc := dblC_bit h 9
  generalize dblC ys 9 = c at *
  generalize B64 ^ 9 = p at *
  rcases hc with rfl | rfl
  · omega
  · omega
theorem pow_bound {a : Int} (h0 : 0 ≤ a) (h3 : a ≤ 2147483648) (n : Nat) : a ^ n ≤ 2 ^ (31 * n) := by
  rw [Int.pow_mul]
  have : (2 : Int) ^ 31 = 2147483648 := by decide +kernel
  rw [this]
  induction n with
  | zero => simp
  | succ n ih =>
    rw [Int.pow_succ, Int.pow_succ]
    exact Int.mul_le_mul ih h3 h0 (Int.le_of_lt (Int.pow_pos (by omega)))
theorem whole_zero {a b : Int} (h1 : 1 ≤ b) (h2 : b ≤ a) (h3 : a ≤ 2147483648) : Whole a b 0 [b, 0, 0, 0, 0, 0, 0, 0, 0] :=
  ⟨inR_one (by omega) (by simp only [B64]; omega), by rw [valTo_one]; simp, by simpa using h2⟩
theorem whole_lt {a b : Int} {k : Nat} {ys : List Int} (h1 : 1 ≤ b) (h3 : a ≤ 2147483648) (h : Whole a b k ys) : (k : Int) < 32 := by
  obtain ⟨-, -, h⟩ := h
  have hp := two_pow_pos k
  have h4 : 1 * 2 ^ k ≤ b * 2 ^ k := Int.mul_le_mul_of_nonneg_right h1 (by omega)
  have h5 : (2 : Int) ^ 32 = 4294967296 := by decide +kernel
  have := two_pow_lt (m := k) (n := 32) (by omega)
  omega
/-- the doubled number -/
theorem whole_dbl {a b : Int} {k : Nat} {ys zs : List Int} (h3 : a ≤ 2147483648) (h : Whole a b k ys) (hl : zs.length = 9) (hd : ∀ j, j < 9 → dg zs j = dblD ys j) : InR B64 zs ∧ valTo B64 zs 9 = b * 2 ^ (k + 1) := by
  obtain ⟨hr, hv, hle⟩ := h
  have h5 : (2 : Int) ^ 576 = 2 ^ 33 * 2 ^ 543 := by rw [← Int.pow_add]
  have h6 : (2 : Int) ^ 33 = 8589934592 := by decide +kernel
  have h7 := two_pow_pos 543
  obtain ⟨hz, e⟩ := dbl_spec hr hl hd (by rw [B64_9, hv, h5, h6]; generalize b * 2 ^ k = m at *; generalize (2 : Int) ^ 543 = q at *; omega)
  exact ⟨hz, by rw [e, hv, Int.pow_succ]; generalize (2 : Int) ^ k = q; grind⟩
theorem whole_less {a b : Int} {k : Nat} {zs : List Int} (h1 : 1 ≤ b) (h2 : b ≤ a) (h3 : a ≤ 2147483648) (h : InR B64 zs ∧ valTo B64 zs 9 = b * 2 ^ (k + 1)) : lessTo [a, 0, 0, 0, 0, 0, 0, 0, 0] zs 9 = decide (a < b * 2 ^ (k + 1)) := by
  rw [lessTo_iff B64_pos (inR_one (by omega) (by simp only [B64]; omega)) h.1, valTo_one, h.2]
theorem whole_next {a b : Int} {k : Nat} {zs : List Int} (hz : InR B64 zs ∧ valTo B64 zs 9 = b * 2 ^ (k + 1)) (hle : ¬ a < b * 2 ^ (k + 1)) : Whole a b (k + 1) zs := ⟨hz.1, hz.2, by omega⟩
theorem rest_zero {a b : Int} {k : Nat} {ys : List Int} (h1 : 1 ≤ b) (h2 : b ≤ a) (h3 : a ≤ 2147483648) (h : Whole a b k ys) (hle : a < b * 2 ^ (k + 1)) : Rest a b 0 k [a, 0, 0, 0, 0, 0, 0, 0, 0] ys :=
  ⟨inR_one (by omega) (by simp only [B64]; omega), h.1, by rw [valTo_one, pow1], by omega, by rw [h.2.1, pow1]; simp, by rw [pow1, pow1]; simpa using h.2.2, by rw [pow1, pow1]; simpa using hle⟩
/-- both squared -/
def Squared (a b : Int) (i : Nat) (kk : Int) (xs ys : List Int) : Prop :=
  InR B64 xs ∧ InR B64 ys ∧ valTo B64 xs 9 = a ^ (2 ^ (i + 1)) ∧ 0 ≤ kk ∧ valTo B64 ys 9 = b ^ (2 ^ (i + 1)) * 2 ^ (kk * 2).toNat ∧ valTo B64 ys 9 ≤ valTo B64 xs 9 ∧ valTo B64 xs 9 < valTo B64 ys 9 * 4 ∧ valTo B64 xs 9 ≤ 2 ^ 500
theorem rest_sq {a b kk : Int} {i : Nat} {xs ys xs' ys' : List Int} (h1 : 1 ≤ b) (h2 : b ≤ a) (h3 : a ≤ 2147483648) (h4 : i < 4) (h : Rest a b i kk xs ys) (hx : SqOut xs 9 xs') (hy : SqOut ys 9 ys') : Squared a b i kk xs' ys' := by
  obtain ⟨rx, ry, vx, hk, vy, hle, hlt⟩ := h
  have hX : valTo B64 xs 9 ≤ 2 ^ 248 := by
    rw [vx]
    refine Int.le_trans (pow_bound (by omega) h3 _) (two_pow_mono ?_)
    have : 2 ^ i ≤ 2 ^ 3 := Nat.pow_le_pow_right (by omega) (by omega)
    omega
  have hx0 := valTo_nonneg B64_pos rx 9
  have hy0 := valTo_nonneg B64_pos ry 9
  have h8 : (2 : Int) ^ 248 * 2 ^ 248 = 2 ^ 496 := by rw [← Int.pow_add]
  have h9 : (2 : Int) ^ 496 < 2 ^ 576 := by decide +kernel
  have h10 : (2 : Int) ^ 496 ≤ 2 ^ 500 := by decide +kernel
  have hyx : valTo B64 ys 9 ≤ valTo B64 xs 9 := by rw [vx, vy]; exact hle
  have hxy : valTo B64 xs 9 < 2 * valTo B64 ys 9 := by
    rw [vx, vy]
    rw [Int.pow_succ] at hlt
    generalize b ^ 2 ^ i = p at *
    generalize (2 : Int) ^ kk.toNat = q at *
    grind
  have sX : valTo B64 xs 9 * valTo B64 xs 9 ≤ 2 ^ 248 * 2 ^ 248 := Int.mul_le_mul hX hX hx0 (Int.le_of_lt (two_pow_pos _))
  have sY : valTo B64 ys 9 * valTo B64 ys 9 ≤ valTo B64 xs 9 * valTo B64 xs 9 := Int.mul_le_mul hyx hyx hy0 hx0
  have s4 : valTo B64 xs 9 * valTo B64 xs 9 < (2 * valTo B64 ys 9) * (2 * valTo B64 ys 9) :=
    Int.lt_of_le_of_lt (Int.mul_le_mul_of_nonneg_left (Int.le_of_lt hxy) hx0) (Int.mul_lt_mul_of_pos_right hxy (by omega))
  have eX := sq_val rx hx (by rw [B64_9]; omega)
  have eY := sq_val ry hy (by rw [B64_9]; omega)
  refine ⟨hx.1, hy.1, ?_, hk, ?_, ?_, ?_, ?_⟩
  · rw [eX, vx, ← Int.pow_add, Nat.pow_succ, Nat.mul_two]
  · rw [eY, vy, show (kk * 2).toNat = kk.toNat + kk.toNat by omega, Int.pow_add, Nat.pow_succ, Nat.mul_two, Int.pow_add]
    generalize b ^ 2 ^ i = p
    generalize (2 : Int) ^ kk.toNat = q
    grind
  · rw [eX, eY]; exact sY
  · rw [eX, eY]; generalize valTo B64 ys 9 = y at *; generalize valTo B64 xs 9 = x at *; grind
  · rw [eX]; omega
theorem rest_lt {a b kk : Int} {i : Nat} {xs ys : List Int} (h1 : 1 ≤ b) (h2 : b ≤ a) (h3 : a ≤ 2147483648) (h4 : i < 4) (h : Rest a b i kk xs ys) : kk < 1000 := by
  obtain ⟨rx, ry, vx, hk, vy, hle, hlt⟩ := h
  have hX : a ^ 2 ^ i ≤ 2 ^ 248 := by
    refine Int.le_trans (pow_bound (by omega) h3 _) (two_pow_mono ?_)
    have : 2 ^ i ≤ 2 ^ 3 := Nat.pow_le_pow_right (by omega) (by omega)
    omega
  have hb : 1 ≤ b ^ 2 ^ i := by have : 0 < b ^ 2 ^ i := Int.pow_pos (by omega); omega
  have hp := two_pow_pos kk.toNat
  have h5 : 1 * 2 ^ kk.toNat ≤ b ^ 2 ^ i * 2 ^ kk.toNat := Int.mul_le_mul_of_nonneg_right hb (by omega)
  have h9 : (2 : Int) ^ 248 < 2 ^ 1000 := by decide +kernel
  have := two_pow_lt (m := kk.toNat) (n := 1000) (by omega)
  omega
theorem rest_dbl {a b kk : Int} {i : Nat} {xs ys zs : List Int} (h : Squared a b i kk xs ys) (hl : zs.length = 9) (hd : ∀ j, j < 9 → dg zs j = dblD ys j) : InR B64 zs ∧ valTo B64 zs 9 = 2 * valTo B64 ys 9 := by
  obtain ⟨-, hr, -, -, -, hle, -, hb⟩ := h
  have h9 : (2 : Int) * 2 ^ 500 < 2 ^ 576 := by decide +kernel
  exact dbl_spec hr hl hd (by rw [B64_9]; omega)
theorem rest_no {a b kk : Int} {i : Nat} {xs ys zs : List Int} (h : Squared a b i kk xs ys) (hz : InR B64 zs ∧ valTo B64 zs 9 = 2 * valTo B64 ys 9) (hle : valTo B64 xs 9 < valTo B64 zs 9) : Rest a b (i + 1) (kk * 2) xs ys := by
  obtain ⟨rx, ry, vx, hk, vy, h1, h2, -⟩ := h
  refine ⟨rx, ry, vx, by omega, vy, by rw [← vx, ← vy]; exact h1, ?_⟩
  rw [hz.2] at hle
  rw [← vx, Int.pow_succ, ← Int.mul_assoc, ← vy]
  omega
theorem rest_yes {a b kk : Int} {i : Nat} {xs ys zs : List Int} (h : Squared a b i kk xs ys) (hz : InR B64 zs ∧ valTo B64 zs 9 = 2 * valTo B64 ys 9) (hle : ¬ valTo B64 xs 9 < valTo B64 zs 9) : Rest a b (i + 1) (kk * 2 + 1) xs zs := by
  obtain ⟨rx, ry, vx, hk, vy, h1, h2, -⟩ := h
  have e : (kk * 2 + 1).toNat = (kk * 2).toNat + 1 := by omega
  have vz : valTo B64 zs 9 = b ^ 2 ^ (i + 1) * 2 ^ (kk * 2 + 1).toNat := by
    rw [hz.2, vy, e, Int.pow_succ, Int.mul_comm 2, Int.mul_assoc]
  refine ⟨rx, hz.1, vx, by omega, vz, by rw [← vx, ← vz]; omega, ?_⟩
  rw [← vx, Int.pow_succ, ← Int.mul_assoc, ← vz, hz.2]
  omega
theorem ratio_end {a b kk : Int} {xs ys : List Int} (h : Rest a b 4 kk xs ys) : IsRatio a b kk := ⟨h.2.2.2.1, h.2.2.2.2.2.1, h.2.2.2.2.2.2⟩
end Go.Proofs.YteigplfldhdakaaGreatDoor.Lc
/- The walk of logcost.Ratio. -/
namespace Go.Proofs.YteigplfldhdakaaGreatDoor.Lc
open Go.RowKit
set_option maxRecDepth 100000 in
set_option maxHeartbeats 1000000 in
theorem ratio_no (a b : Int) (w : World) (h : b < 1 ∨ a < b ∨ 2147483648 < a) :
    Calls Tryz.prog 12 #[.int .i64 a, .int .i64 b] w fun e w' => e = .returned (.tuple #[.int .i64 0, .int .i64 2]) ∧ Below w.heap.size w w' := by
  by_cases h1 : b < 1
  · clear h
    go_enter Tryz.func12, Tryz.ntmps12
    go_wp2
    go_step3
    go_wp2
    try rw [Exit.noGoto_ret]
    go_ret2
    exact ⟨rfl, Below.refl _ _⟩
  · by_cases h2 : a < b
    · clear h
      go_enter Tryz.func12, Tryz.ntmps12
      go_wp2
      go_step3
      go_wp2
      try rw [Exit.noGoto_ret]
      go_ret2
      exact ⟨rfl, Below.refl _ _⟩
    · have h3 : 2147483648 < a := by omega
      clear h
      go_enter Tryz.func12, Tryz.ntmps12
      go_wp2
      go_step3
      go_wp2
      try rw [Exit.noGoto_ret]
      go_ret2
      exact ⟨rfl, Below.refl _ _⟩
def RatioPost (a b : Int) (w : World) (e : Ending) (w' : World) : Prop := ∃ k : Int, IsRatio a b k ∧ e = .returned (.tuple #[.int .i64 k, .int .i64 0]) ∧ Below w.heap.size w w'
theorem info9 {xs : List Int} (h : xs.length = 9) : (Tryz.prog.info? 88).map (·.size) = some xs.length := by rw [h]; kernel_rfl
set_option maxRecDepth 100000 in
set_option maxHeartbeats 1000000 in
theorem ratio_yes (a b : Int) (w : World) (h1 : 1 ≤ b) (h2 : b ≤ a) (h3 : a ≤ 2147483648) :
    Calls Tryz.prog 12 #[.int .i64 a, .int .i64 b] w (RatioPost a b w) := by
  obtain ⟨W, hW⟩ : ∃ W, (w.alloc (Obj.cells #[.int .u64 a, .int .u64 0, .int .u64 0, .int .u64 0, .int .u64 0, .int .u64 0, .int .u64 0, .int .u64 0, .int .u64 0] 88)).alloc (Obj.cells #[.int .u64 b, .int .u64 0, .int .u64 0, .int .u64 0, .int .u64 0, .int .u64 0, .int .u64 0, .int .u64 0, .int .u64 0] 88) = W := ⟨_, rfl⟩
  have hB : Below w.heap.size w W := by rw [← hW]; exact balloc (balloc (Below.refl _ w) _) _
  have bx : Blk W w.heap.size .u64 88 [a, 0, 0, 0, 0, 0, 0, 0, 0] := by rw [← hW]; exact (Blk.new w .u64 88 [a, 0, 0, 0, 0, 0, 0, 0, 0]).alloc _
  have by_ : Blk W (w.heap.size + 1) .u64 88 [b, 0, 0, 0, 0, 0, 0, 0, 0] := by rw [← hW]; have := Blk.new (w.alloc (Obj.cells #[.int .u64 a, .int .u64 0, .int .u64 0, .int .u64 0, .int .u64 0, .int .u64 0, .int .u64 0, .int .u64 0, .int .u64 0] 88)) .u64 88 [b, 0, 0, 0, 0, 0, 0, 0, 0]; rwa [World.size_alloc] at this
  have HW := hid hW
  have d1 : decide (b < 1) = false := by simp; omega
  have d2 : decide (a < b) = false := by simp; omega
  have d3 : decide (2147483648 < a) = false := by simp; omega
  clear hW
  go_enter Tryz.func12, Tryz.ntmps12
  go_wp2
  go_step3
  go_wp2_with fail
  rw [HW.out]
  clear HW
  go_step3
  go_wp2_with fail
  go_loopw [8] (fun kv wr => ∃ (k : Nat) (ys : List Int), kv = .int .i64 (k : Int) ∧ Hid (Whole a b k ys) ∧ Hid (Blk wr w.heap.size .u64 88 [a, 0, 0, 0, 0, 0, 0, 0, 0]) ∧ Hid (Blk wr (w.heap.size + 1) .u64 88 ys) ∧ Below w.heap.size w wr) (fun k _ => 40 - (intOf k).toNat)
  case atStart => exact ⟨0, [b, 0, 0, 0, 0, 0, 0, 0, 0], rfl, hid (whole_zero h1 h2 h3), hid bx, hid by_, hB⟩
  case round =>
    obtain ⟨k, ys, rfl, hwh, hx, hy, hBw⟩ := hrel
    clear bx by_ hB
    have hk : (k : Int) < 32 := whole_lt h1 h3 hwh.out
    have hyl : Hid ((Tryz.prog.info? 88).map (·.size) = some ys.length) := by rw [hwh.out.1.1]; exact hid (by kernel_rfl)
    have hsz : w.heap.size + 1 < wr.heap.size := hy.out.lt
    go_wp2_with (refine load_row rfl 88 _ rfl _ rfl hy.out Tryz.underlying88 hyl.out ?_)
    refine (double_any ys hwh.out.1.1 _).mono ?_
    rintro e w1 ⟨zs, rfl, hzl, hzd, hb1⟩
    have HZ := hid (whole_dbl h3 hwh.out hzl hzd)
    clear hzl hzd
    have hx1 := hid (hx.out.below hb1)
    have hy1 := hid (hy.out.below hb1)
    have hB1 : Below w.heap.size w w1 := hBw.trans (hb1.mono (by omega))
    have hsz1 : w.heap.size + 1 < w1.heap.size := hy1.out.lt
    have hn1 := hid (Blk.new w1 .u64 88 (List.replicate 9 0))
    have hzi : Hid ((Tryz.prog.info? 88).map (·.size) = some zs.length) := by rw [HZ.out.1.1]; exact hid (by kernel_rfl)
    clear hx hy hb1 hBw hsz
    go_wp2_with (first | (refine store_row rfl 88 _ _ rfl _ rfl rfl hn1.out HZ.out.1.1.symm hzi.out ?_; rintro W' hW'; have hW2 := hid hW'; clear hW'; have hx2 : Hid (Blk W' w.heap.size .u64 88 [a, 0, 0, 0, 0, 0, 0, 0, 0]) := (by rw [hW2.out]; exact hid ((hx1.out.alloc _).row_far (by omega) _)); have hz2 : Hid (Blk W' w1.heap.size .u64 88 zs) := (by rw [hW2.out]; exact hid (hn1.out.row _)); have hy2 : Hid (Blk W' (w.heap.size + 1) .u64 88 ys) := (by rw [hW2.out]; exact hid ((hy1.out.alloc _).row_far (by omega) _)); have hB2 : Below w.heap.size w W' := (by rw [hW2.out]; exact below_setRow (balloc hB1 _) (by omega) _); clear hW2) | (refine load_row rfl 88 _ rfl _ rfl hx2.out Tryz.underlying88 (by kernel_rfl) ?_) | (refine load_row rfl 88 _ rfl _ rfl hz2.out Tryz.underlying88 hzi.out ?_))
    refine (less_any _ _ rfl HZ.out.1.1 _).mono ?_
    rintro e w2 ⟨rfl, hb2⟩
    have hx3 := hid (hx2.out.below hb2)
    have hz3 := hid (hz2.out.below hb2)
    have hy3 := hid (hy2.out.below hb2)
    have hB3 : Below w.heap.size w w2 := hB2.trans (hb2.mono (by have := hB2.size; omega))
    clear hx1 hy1 hB1 hn1 hx2 hz2 hy2 hB2 hb2
    by_cases hle : a < b * 2 ^ (k + 1)
    · have HR := hid (rest_zero h1 h2 h3 hwh.out hle)
      rw [whole_less h1 h2 h3 HZ.out, decide_eq_true hle]
      clear hle HZ hwh
      go_wp2_with fail
      go_loopw [36, 8] (fun iv kv wq => ∃ (i : Nat) (kk : Int) (xs ys : List Int), i ≤ 4 ∧ iv = .int .i64 (i : Int) ∧ kv = .int .i64 kk ∧ Hid (Rest a b i kk xs ys) ∧ Hid (Blk wq w.heap.size .u64 88 xs) ∧ Hid (Blk wq (w.heap.size + 1) .u64 88 ys) ∧ Below w.heap.size w wq) (fun i _ _ => 4 - (intOf i).toNat)
      case atStart => exact ⟨0, k, [a, 0, 0, 0, 0, 0, 0, 0, 0], ys, by omega, rfl, rfl, HR, hx3, hy3, hB3⟩
      case round =>
        clear HR hx3 hy3 hz3 hB3 hzi hyl
        obtain ⟨i, kk, xs, ys, hi, rfl, rfl, HR, hx, hy, hB⟩ := hrel
        by_cases h4 : i < 4
        · have hd4 : decide ((i : Int) < 4) = true := by simp; omega
          have hsz : w.heap.size + 1 < wr.heap.size := hy.out.lt
          have hxi : Hid ((Tryz.prog.info? 88).map (·.size) = some xs.length) := by rw [HR.out.1.1]; exact hid (by kernel_rfl)
          have hyi : Hid ((Tryz.prog.info? 88).map (·.size) = some ys.length) := by rw [HR.out.2.1.1]; exact hid (by kernel_rfl)
          go_upto_region 11 with (fail)
          go_cut [] (fun wq => ∃ xs' ys', Hid (SqOut xs 9 xs') ∧ Hid (SqOut ys 9 ys') ∧ Hid (Blk wq w.heap.size .u64 88 xs') ∧ Hid (Blk wq (w.heap.size + 1) .u64 88 ys') ∧ Below w.heap.size w wq)
          case first =>
            refine wp_region_any (by kernel_rfl) ?_
            change wpAny _ _ _ _ _ _ _ (World.drew _)
            refine wpAny_ready (rs := [0, 2]) (by kernel_rfl) (by simp) ?_
            refine rdy_load rfl rfl 88 _ rfl _ rfl hx.out Tryz.underlying88 hxi.out ?_ (rdy_load rfl rfl 88 _ rfl _ rfl hy.out Tryz.underlying88 hyi.out ?_ AllReady.nil)
            · refine wpAny_ready (rs := [1, 2]) (by kernel_rfl) (by simp) (rdy rfl rfl (fun K hK => ?_) (rdy_load rfl rfl 88 _ rfl _ rfl hy.out Tryz.underlying88 hyi.out ?_ AllReady.nil))
              · go_simp; refine (square_any xs HR.out.1 _).mono ?_; rintro e w3 ⟨xs', rfl, hsx, hb3⟩; have hx3 := hid (hx.out.below (w := wr.drew) hb3); have hy3 := hid (hy.out.below (w := wr.drew) hb3); have hB3 : Below w.heap.size w w3 := (hB.drew).trans (hb3.mono (by show w.heap.size ≤ wr.heap.size; omega)); have HS := hid hsx; clear hsx hb3; refine hK _ _ ?_; clear hK K
                refine wpAny_ready (rs := [2]) (by kernel_rfl) (by simp) (rdy_load rfl rfl 88 _ rfl _ rfl hy3.out Tryz.underlying88 hyi.out ?_ AllReady.nil)
                refine wpAny_ready (rs := [3]) (by kernel_rfl) (by simp) (rdy rfl rfl (fun K hK => ?_) AllReady.nil)
                go_simp; refine (square_any ys HR.out.2.1 _).mono ?_; rintro e w4 ⟨ys', rfl, hsy, hb4⟩; have hx4 := hid (hx3.out.below hb4); have hy4 := hid (hy3.out.below hb4); have hB4 : Below w.heap.size w w4 := hB3.trans (hb4.mono (by have := hB3.size; omega)); have HT := hid hsy; clear hsy hb4; refine hK _ _ ?_; clear hK K
                refine wpAny_ready (rs := [4]) (by kernel_rfl) (by simp) (rdy_store rfl rfl 88 _ _ rfl _ rfl rfl hx4.out (HR.out.1.1.trans HS.out.1.1.symm) (info9 HS.out.1.1) ?_ AllReady.nil)
                rintro W5 hW5
                have hx5 : Blk W5 w.heap.size .u64 88 xs' := by rw [hW5]; exact hx4.out.row _
                have hy5 : Blk W5 (w.heap.size + 1) .u64 88 ys := by rw [hW5]; exact hy4.out.row_far (by omega) _
                have hB5 : Below w.heap.size w W5 := by rw [hW5]; exact below_setRow hB4 (by omega) _
                clear hW5
                refine wpAny_ready (rs := [5]) (by kernel_rfl) (by simp) (rdy_store rfl rfl 88 _ _ rfl _ rfl rfl hy5 (HR.out.2.1.1.trans HT.out.1.1.symm) (info9 HT.out.1.1) ?_ AllReady.nil)
                rintro W6 hW6
                have hx6 : Blk W6 w.heap.size .u64 88 xs' := by rw [hW6]; exact hx5.row_far (by omega) _
                have hy6 : Blk W6 (w.heap.size + 1) .u64 88 ys' := by rw [hW6]; exact hy5.row _
                have hB6 : Below w.heap.size w W6 := by rw [hW6]; exact below_setRow hB5 (by omega) _
                clear hW6
                refine wpAny_done (by kernel_rfl) ?_ _
                go_wp2_with fail
                go_meet
                case rel => exact ⟨xs', ys', HS, HT, hid hx6, hid hy6, hB6⟩
              · refine wpAny_ready (rs := [1]) (by kernel_rfl) (by simp) (rdy rfl rfl (fun K hK => ?_) AllReady.nil)
                go_simp; refine (square_any xs HR.out.1 _).mono ?_; rintro e w3 ⟨xs', rfl, hsx, hb3⟩; have hx3 := hid (hx.out.below (w := wr.drew) hb3); have hy3 := hid (hy.out.below (w := wr.drew) hb3); have hB3 : Below w.heap.size w w3 := (hB.drew).trans (hb3.mono (by show w.heap.size ≤ wr.heap.size; omega)); have HS := hid hsx; clear hsx hb3; refine hK _ _ ?_; clear hK K
                refine wpAny_ready (rs := [3]) (by kernel_rfl) (by simp) (rdy rfl rfl (fun K hK => ?_) AllReady.nil)
                go_simp; refine (square_any ys HR.out.2.1 _).mono ?_; rintro e w4 ⟨ys', rfl, hsy, hb4⟩; have hx4 := hid (hx3.out.below hb4); have hy4 := hid (hy3.out.below hb4); have hB4 : Below w.heap.size w w4 := hB3.trans (hb4.mono (by have := hB3.size; omega)); have HT := hid hsy; clear hsy hb4; refine hK _ _ ?_; clear hK K
                refine wpAny_ready (rs := [4]) (by kernel_rfl) (by simp) (rdy_store rfl rfl 88 _ _ rfl _ rfl rfl hx4.out (HR.out.1.1.trans HS.out.1.1.symm) (info9 HS.out.1.1) ?_ AllReady.nil)
                rintro W5 hW5
                have hx5 : Blk W5 w.heap.size .u64 88 xs' := by rw [hW5]; exact hx4.out.row _
                have hy5 : Blk W5 (w.heap.size + 1) .u64 88 ys := by rw [hW5]; exact hy4.out.row_far (by omega) _
                have hB5 : Below w.heap.size w W5 := by rw [hW5]; exact below_setRow hB4 (by omega) _
                clear hW5
                refine wpAny_ready (rs := [5]) (by kernel_rfl) (by simp) (rdy_store rfl rfl 88 _ _ rfl _ rfl rfl hy5 (HR.out.2.1.1.trans HT.out.1.1.symm) (info9 HT.out.1.1) ?_ AllReady.nil)
                rintro W6 hW6
                have hx6 : Blk W6 w.heap.size .u64 88 xs' := by rw [hW6]; exact hx5.row_far (by omega) _
                have hy6 : Blk W6 (w.heap.size + 1) .u64 88 ys' := by rw [hW6]; exact hy5.row _
                have hB6 : Below w.heap.size w W6 := by rw [hW6]; exact below_setRow hB5 (by omega) _
                clear hW6
                refine wpAny_done (by kernel_rfl) ?_ _
                go_wp2_with fail
                go_meet
                case rel => exact ⟨xs', ys', HS, HT, hid hx6, hid hy6, hB6⟩
            · refine wpAny_ready (rs := [0]) (by kernel_rfl) (by simp) (rdy_load rfl rfl 88 _ rfl _ rfl hx.out Tryz.underlying88 hxi.out ?_ AllReady.nil)
              refine wpAny_ready (rs := [1]) (by kernel_rfl) (by simp) (rdy rfl rfl (fun K hK => ?_) AllReady.nil)
              go_simp; refine (square_any xs HR.out.1 _).mono ?_; rintro e w3 ⟨xs', rfl, hsx, hb3⟩; have hx3 := hid (hx.out.below (w := wr.drew) hb3); have hy3 := hid (hy.out.below (w := wr.drew) hb3); have hB3 : Below w.heap.size w w3 := (hB.drew).trans (hb3.mono (by show w.heap.size ≤ wr.heap.size; omega)); have HS := hid hsx; clear hsx hb3; refine hK _ _ ?_; clear hK K
              refine wpAny_ready (rs := [3]) (by kernel_rfl) (by simp) (rdy rfl rfl (fun K hK => ?_) AllReady.nil)
              go_simp; refine (square_any ys HR.out.2.1 _).mono ?_; rintro e w4 ⟨ys', rfl, hsy, hb4⟩; have hx4 := hid (hx3.out.below hb4); have hy4 := hid (hy3.out.below hb4); have hB4 : Below w.heap.size w w4 := hB3.trans (hb4.mono (by have := hB3.size; omega)); have HT := hid hsy; clear hsy hb4; refine hK _ _ ?_; clear hK K
              refine wpAny_ready (rs := [4]) (by kernel_rfl) (by simp) (rdy_store rfl rfl 88 _ _ rfl _ rfl rfl hx4.out (HR.out.1.1.trans HS.out.1.1.symm) (info9 HS.out.1.1) ?_ AllReady.nil)
              rintro W5 hW5
              have hx5 : Blk W5 w.heap.size .u64 88 xs' := by rw [hW5]; exact hx4.out.row _
              have hy5 : Blk W5 (w.heap.size + 1) .u64 88 ys := by rw [hW5]; exact hy4.out.row_far (by omega) _
              have hB5 : Below w.heap.size w W5 := by rw [hW5]; exact below_setRow hB4 (by omega) _
              clear hW5
              refine wpAny_ready (rs := [5]) (by kernel_rfl) (by simp) (rdy_store rfl rfl 88 _ _ rfl _ rfl rfl hy5 (HR.out.2.1.1.trans HT.out.1.1.symm) (info9 HT.out.1.1) ?_ AllReady.nil)
              rintro W6 hW6
              have hx6 : Blk W6 w.heap.size .u64 88 xs' := by rw [hW6]; exact hx5.row_far (by omega) _
              have hy6 : Blk W6 (w.heap.size + 1) .u64 88 ys' := by rw [hW6]; exact hy5.row _
              have hB6 : Below w.heap.size w W6 := by rw [hW6]; exact below_setRow hB5 (by omega) _
              clear hW6
              refine wpAny_done (by kernel_rfl) ?_ _
              go_wp2_with fail
              go_meet
              case rel => exact ⟨xs', ys', HS, HT, hid hx6, hid hy6, hB6⟩
          case rest =>
            obtain ⟨xs', ys', HS, HT, hx', hy', hB'⟩ := hcut
            clear hx hy hB hxi hyi hsz
            have HQ := hid (rest_sq h1 h2 h3 h4 HR.out HS.out HT.out)
            have hk0 : 0 ≤ kk := HR.out.2.2.2.1
            have hk1 : kk < 1000 := rest_lt h1 h2 h3 (by omega) HR.out
            have hyi : Hid ((Tryz.prog.info? 88).map (·.size) = some ys'.length) := hid (info9 HT.out.1.1)
            have hxi : Hid ((Tryz.prog.info? 88).map (·.size) = some xs'.length) := hid (info9 HS.out.1.1)
            clear HR
            have hsz : w.heap.size + 1 < wc.heap.size := hy'.out.lt
            go_wp2_with (refine load_row rfl 88 _ rfl _ rfl hy'.out Tryz.underlying88 hyi.out ?_)
            refine (double_any ys' HT.out.1.1 _).mono ?_
            rintro e w3 ⟨zs, rfl, hzl, hzd, hb3⟩
            have HZ := hid (rest_dbl HQ.out hzl hzd)
            clear hzl hzd
            have hx3 := hid (hx'.out.below hb3)
            have hy3 := hid (hy'.out.below hb3)
            have hB3 : Below w.heap.size w w3 := hB'.trans (hb3.mono (by omega))
            have hsz3 : w.heap.size + 1 < w3.heap.size := hy3.out.lt
            have hn3 := hid (Blk.new w3 .u64 88 (List.replicate 9 0))
            have hzi : Hid ((Tryz.prog.info? 88).map (·.size) = some zs.length) := hid (info9 HZ.out.1.1)
            clear hx' hy' hb3 hB' hsz
            go_wp2_with (first | (refine store_row rfl 88 _ _ rfl _ rfl rfl hn3.out HZ.out.1.1.symm hzi.out ?_; rintro W' hW'; have hW2 := hid hW'; clear hW'; have hx4 : Hid (Blk W' w.heap.size .u64 88 xs') := (by rw [hW2.out]; exact hid ((hx3.out.alloc _).row_far (by omega) _)); have hz4 : Hid (Blk W' w3.heap.size .u64 88 zs) := (by rw [hW2.out]; exact hid (hn3.out.row _)); have hy4 : Hid (Blk W' (w.heap.size + 1) .u64 88 ys') := (by rw [hW2.out]; exact hid ((hy3.out.alloc _).row_far (by omega) _)); have hB4 : Below w.heap.size w W' := (by rw [hW2.out]; exact below_setRow (balloc hB3 _) (by omega) _); clear hW2) | (refine load_row rfl 88 _ rfl _ rfl hx4.out Tryz.underlying88 hxi.out ?_) | (refine load_row rfl 88 _ rfl _ rfl hz4.out Tryz.underlying88 hzi.out ?_))
            refine (less_any _ _ HS.out.1.1 HZ.out.1.1 _).mono ?_
            rintro e w5 ⟨rfl, hb5⟩
            have hx5 := hid (hx4.out.below hb5)
            have hz5 := hid (hz4.out.below hb5)
            have hy5 := hid (hy4.out.below hb5)
            have hB5 : Below w.heap.size w w5 := hB4.trans (hb5.mono (by have := hB4.size; omega))
            clear hx3 hy3 hB3 hn3 hx4 hz4 hy4 hB4 hb5
            rw [lessTo_iff B64_pos HS.out.1 HZ.out.1]
            by_cases hle : valTo B64 xs' 9 < valTo B64 zs 9
            · have HN := hid (rest_no HQ.out HZ.out hle)
              rw [decide_eq_true hle]
              clear hle HQ HZ
              go_wp2_with fail
              go_roundw
              case rel => exact ⟨i + 1, kk * 2, xs', ys', by omega, by go_num, rfl, HN, hx5, hy5, hB5⟩
              case measure => simp [intOf]; omega
            · have HN := hid (rest_yes HQ.out HZ.out hle)
              have hyz : Hid (ys'.length = zs.length) := hid (HT.out.1.1.trans HZ.out.1.1.symm)
              rw [decide_eq_false hle]
              clear hle HQ
              go_wp2_with (first | (refine load_row rfl 88 _ rfl _ rfl hz5.out Tryz.underlying88 hzi.out ?_) | (refine store_row rfl 88 _ _ rfl _ rfl rfl hy5.out hyz.out hzi.out ?_; rintro W' hW'; have hW2 := hid hW'; clear hW'; have hx6 : Hid (Blk W' w.heap.size .u64 88 xs') := (by rw [hW2.out]; exact hid (hx5.out.row_far (by omega) _)); have hy6 : Hid (Blk W' (w.heap.size + 1) .u64 88 zs) := (by rw [hW2.out]; exact hid (hy5.out.row _)); have hB6 : Below w.heap.size w W' := (by rw [hW2.out]; exact below_setRow hB5 (by omega) _); clear hW2))
              go_roundw
              case rel => exact ⟨i + 1, kk * 2 + 1, xs', zs, by omega, by go_num, rfl, HN, hx6, hy6, hB6⟩
              case measure => simp [intOf]; omega
        · obtain rfl : i = 4 := by omega
          go_wp2_with fail
          rw [Exit.noGoto_ret]
          go_ret2
          exact ⟨kk, ratio_end HR.out, rfl, hB⟩
    · have hyz : Hid (ys.length = zs.length) := hid (hwh.out.1.1.trans HZ.out.1.1.symm)
      have hwh2 := hid (whole_next HZ.out hle)
      rw [whole_less h1 h2 h3 HZ.out, decide_eq_false hle]
      clear hle hwh
      go_wp2_with (first | (refine load_row rfl 88 _ rfl _ rfl hz3.out Tryz.underlying88 hzi.out ?_) | (refine store_row rfl 88 _ _ rfl _ rfl rfl hy3.out hyz.out hzi.out ?_; rintro W' hW'; have hW2 := hid hW'; clear hW'; have hx4 : Hid (Blk W' w.heap.size .u64 88 [a, 0, 0, 0, 0, 0, 0, 0, 0]) := (by rw [hW2.out]; exact hid (hx3.out.row_far (by omega) _)); have hy4 : Hid (Blk W' (w.heap.size + 1) .u64 88 zs) := (by rw [hW2.out]; exact hid (hy3.out.row _)); have hB4 : Below w.heap.size w W' := (by rw [hW2.out]; exact below_setRow hB3 (by omega) _); clear hW2))
      go_roundw
      case rel => exact ⟨k + 1, zs, by go_num, hwh2, hx4, hy4, hB4⟩
      case measure => simp [intOf]; omega
end Go.Proofs.YteigplfldhdakaaGreatDoor.Lc
/- Plain numbers: the ratio of two numbers as a function, and what it obeys. No program in sight. -/
namespace Go.Proofs.YteigplfldhdakaaGreatDoor.Lc
open Go.RowKit
/-- the numbers of which there is no ratio -/
def NoRatio (a b : Int) : Prop := b < 1 ∨ a < b ∨ 2147483648 < a
instance (a b : Int) : Decidable (NoRatio a b) := by unfold NoRatio; exact inferInstance
open Classical in
noncomputable def ratioK (a b : Int) : Int := if NoRatio a b then 0 else if h : ∃ k, IsRatio a b k then Classical.choose h else 0
def ratioE (a b : Int) : Int := if NoRatio a b then 2 else 0
theorem isRatio_unique {a b k m : Int} (hb : 1 ≤ b) (h : IsRatio a b k) (h' : IsRatio a b m) : k = m := by
  obtain ⟨h0, h1, h2⟩ := h
  obtain ⟨h0', h1', h2'⟩ := h'
  have hp : (0 : Int) < b ^ 16 := Int.pow_pos (by omega)
  have aux : ∀ p q : Nat, b ^ 16 * 2 ^ p < b ^ 16 * 2 ^ q → p < q := fun p q h => two_pow_lt (Int.lt_of_mul_lt_mul_left h (by omega))
  have e1 := aux _ _ (Int.lt_of_le_of_lt h1 h2')
  have e2 := aux _ _ (Int.lt_of_le_of_lt h1' h2)
  omega
theorem ratioK_no {a b : Int} (h : NoRatio a b) : ratioK a b = 0 := by unfold ratioK; rw [if_pos h]
theorem ratioE_no {a b : Int} (h : NoRatio a b) : ratioE a b = 2 := by unfold ratioE; rw [if_pos h]
theorem ratioE_yes {a b : Int} (h : ¬ NoRatio a b) : ratioE a b = 0 := by unfold ratioE; rw [if_neg h]
theorem ratioK_of {a b k : Int} (h : ¬ NoRatio a b) (hk : IsRatio a b k) : ratioK a b = k := by
  have hex : ∃ k, IsRatio a b k := ⟨k, hk⟩
  unfold ratioK
  rw [if_neg h, dif_pos hex]
  exact isRatio_unique (by unfold NoRatio at h; omega) (Classical.choose_spec hex) hk
theorem ratio_lit (a b k : Int) (h : decide (¬ NoRatio a b) = true) (h0 : 0 ≤ k) (h1 : decide (b ^ 16 * 2 ^ k.toNat ≤ a ^ 16) = true) (h2 : decide (a ^ 16 < b ^ 16 * 2 ^ (k.toNat + 1)) = true) : ratioK a b = k ∧ ratioE a b = 0 :=
  ⟨ratioK_of (of_decide_eq_true h) ⟨h0, of_decide_eq_true h1, of_decide_eq_true h2⟩, ratioE_yes (of_decide_eq_true h)⟩
theorem ratio_2_1 : ratioK 2 1 = 16 ∧ ratioE 2 1 = 0 := ratio_lit 2 1 16 (by decide +kernel) (by decide) (by decide +kernel) (by decide +kernel)
theorem ratio_3_2 : ratioK 3 2 = 9 ∧ ratioE 3 2 = 0 := ratio_lit 3 2 9 (by decide +kernel) (by decide) (by decide +kernel) (by decide +kernel)
theorem ratio_16_1 : ratioK 16 1 = 64 ∧ ratioE 16 1 = 0 := ratio_lit 16 1 64 (by decide +kernel) (by decide) (by decide +kernel) (by decide +kernel)
end Go.Proofs.YteigplfldhdakaaGreatDoor.Lc
