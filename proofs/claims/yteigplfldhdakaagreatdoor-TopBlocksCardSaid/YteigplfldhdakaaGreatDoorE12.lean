/- The walks of logcost's square, and of the two functions of math/bits that it calls. -/
import Derived.Test.YteigplfldhdakaaGreatDoorE11
import Derived.Laws.Externs
import Derived.Laws.MathBits
import Derived.Deep.RegionWith
import Derived.Deep.DeepCutAuto
import Derived.Deep.CutBlock
set_option linter.unusedVariables false
set_option linter.unusedSimpArgs false
namespace Go.Proofs.YteigplfldhdakaaGreatDoor.Lc
open Go.RowKit
theorem add64_call (x y : Int) (hx : 0 ≤ x) (hy : 0 ≤ y) (w : World) : (callFunc 60 #[.int .u64 x, .int .u64 y, .int .u64 0]).run Tryz.prog w = .ok (.value (.tuple #[.int .u64 (sumL x y), .int .u64 (sumH x y)])) w := by
  rw [run_callFunc_extern Tryz.func60 (by kernel_rfl) (by kernel_rfl) (by kernel_rfl) (e := add64Entry) (by kernel_rfl), run_add64 x y 0 hx hy (by omega) (by omega)]
  simp only [Result.andThen, sumL, sumH, Int.add_zero]
set_option maxRecDepth 100000 in
set_option maxHeartbeats 400000 in
theorem mul64_any (x y : Int) (hx : 0 ≤ x ∧ x < B64) (hy : 0 ≤ y ∧ y < B64) (w : World) :
    Calls Tryz.prog 59 #[.int .u64 x, .int .u64 y] w fun e w' => e = .returned (.tuple #[.int .u64 (hiP x y), .int .u64 (loP x y)]) ∧ w = w' := by
  have hx1 : 0 ≤ x := hx.1
  have hy1 : 0 ≤ y := hy.1
  have HX := hid hx
  have HY := hid hy
  clear hx hy
  go_enter Tryz.func59, Tryz.ntmps59
  go_wp2
  go_ret2
  have h := mul64_arith x y HX.out.1 HX.out.2 HY.out.1 HY.out.2
  have hm : ∀ z : Int, 0 ≤ z → z < 18446744073709551616 → bits BinOp.and IntKind.u64 z 4294967295 = z % 4294967296 := fun z h0 h1 => bits_mask .u64 64 (by decide) (fun n h0 h1 => by show n % 18446744073709551616 = n; omega) 32 (by decide) z h0 h1
  have e1 := hm x HX.out.1 HX.out.2
  have e2 := hm y HY.out.1 HY.out.2
  have hw : ∀ z : Int, IntKind.u64.wrap z = z % 18446744073709551616 := fun _ => rfl
  refine ⟨ret_val ?_, rfl⟩
  refine congrArg (fun a => Value.tuple #[Value.int .u64 a, Value.int .u64 (x * y % 18446744073709551616)]) ?_
  rw [e1, e2, hm _ (by simp only [hw]; omega) (by simp only [hw]; omega)]
  simp only [hw]
  exact h
set_option maxRecDepth 100000 in
set_option maxHeartbeats 1000000 in
theorem square_any (xs : List Int) (hx : InR B64 xs) (w : World) :
    Calls Tryz.prog 31 #[.agg (nums .u64 xs).toArray] w fun e w' => ∃ ys : List Int, e = .returned (.agg (nums .u64 ys).toArray) ∧ SqOut xs 9 ys ∧ Below w.heap.size w w' := by
  obtain ⟨W, hW⟩ : ∃ W, (w.alloc (Obj.cells (nums IntKind.u64 xs).toArray 88)).alloc (Obj.cells #[.int .u64 0, .int .u64 0, .int .u64 0, .int .u64 0, .int .u64 0, .int .u64 0, .int .u64 0, .int .u64 0, .int .u64 0] 88) = W := ⟨_, rfl⟩
  have hB : Below w.heap.size w W := by rw [← hW]; exact balloc (balloc (Below.refl _ w) _) _
  have bx : Blk W w.heap.size .u64 88 xs := by rw [← hW]; exact (Blk.new w _ _ _).alloc _
  have by_ : Blk W (w.heap.size + 1) .u64 88 (List.replicate 9 0) := by rw [← hW]; have := Blk.new (w.alloc (Obj.cells (nums IntKind.u64 xs).toArray 88)) .u64 88 (List.replicate 9 0); rwa [World.size_alloc] at this
  have HW := hid hW
  have bx0 : Hid (Blk ((w.alloc (Obj.cells (nums IntKind.u64 xs).toArray 88)).alloc (Obj.cells #[.int .u64 0, .int .u64 0, .int .u64 0, .int .u64 0, .int .u64 0, .int .u64 0, .int .u64 0, .int .u64 0, .int .u64 0] 88)) w.heap.size .u64 88 xs) := by rw [hW]; exact bx
  have hx9 : 9 ≤ xs.length := by rw [hx.1]; omega
  have HX := hid hx
  have hinf : (Tryz.prog.info? 88).map (·.size) = some xs.length := by rw [hx.1]; kernel_rfl
  have hidx := run_index_row xs hx.1
  clear hW hx
  go_enter Tryz.func31, Tryz.ntmps31
  go_wp2_with (refine load_row rfl 88 _ rfl _ rfl bx0.out Tryz.underlying88 hinf ?_)
  rw [HW.out]
  clear HW bx0
  go_loopw [11] (fun iv wr => ∃ (i : Nat) (ys : List Int), i ≤ 9 ∧ iv = .int .i64 (i : Int) ∧ Hid (SqOut xs i ys) ∧ Blk wr w.heap.size .u64 88 xs ∧ Blk wr (w.heap.size + 1) .u64 88 ys ∧ Below w.heap.size w wr) (fun i _ => 9 - (intOf i).toNat)
  case atStart => exact ⟨0, List.replicate 9 0, by omega, rfl, hid (sqOut_zero xs), bx, by_, hB⟩
  case round =>
    obtain ⟨i, ys, hi, rfl, hq, hbx, hby, hBw⟩ := hrel
    clear bx by_ hB
    by_cases h9 : i < 9
    · have hidk := hidx i h9
      have hd9 : decide ((i : Int) < 9) = true := by simp; omega
      clear hidx
      go_wp2
      go_loopw [17, 5] (fun kv cv wq => ∃ (k : Nat) (c : Int) (zs : List Int), i + k ≤ 9 ∧ kv = .int .i64 (k : Int) ∧ cv = .int .u64 c ∧ Hid (SqIn xs i k zs c) ∧ Blk wq w.heap.size .u64 88 xs ∧ Blk wq (w.heap.size + 1) .u64 88 zs ∧ Below w.heap.size w wq) (fun k _ _ => 9 - (intOf k).toNat)
      case atStart => exact ⟨0, 0, ys, by omega, rfl, rfl, hid (sqIn_zero hq.out), hbx, hby, hBw⟩
      case round =>
        obtain ⟨k, c, zs, hk, rfl, rfl, hqi, hcx, hcz, hBq⟩ := hrel
        clear hbx hby hBw
        by_cases hk9 : i + k < 9
        · have hc1 := hcx.cell k (by omega)
          have hz9 : 9 ≤ zs.length := by rw [hqi.out.1.1]; omega
          have hc2 := hcz.cell (i + k) (by omega)
          have hf2 := hcz.frozen (i + k)
          have d1 := HX.out.2 i
          have d2 := HX.out.2 k
          have d3 := hqi.out.1.2 (i + k)
          have hlo : 0 ≤ loP (dg xs i) (dg xs k) := by unfold loP; omega
          have hs1 : 0 ≤ sumL (loP (dg xs i) (dg xs k)) c := by unfold sumL; omega
          have ha1 := add64_call (loP (dg xs i) (dg xs k)) c hlo hqi.out.2.1
          have ha2 := add64_call (dg zs (i + k)) (sumL (loP (dg xs i) (dg xs k)) c) d3.1 hs1
          have D1 := hid d1
          have D2 := hid d2
          have HC := hid hcx
          have HZ := hid hcz
          clear hlo hs1 d1 d2 d3 hcx hcz hx9 hinf hz9
          go_wp2_with (go_at_call 59; refine (mul64_any _ _ D1.out D2.out _).mono ?_; rintro e w' ⟨rfl, rfl⟩)
          go_roundw
          case rel => exact ⟨k + 1, sqCarry (dg zs (i + k)) (hiP (dg xs i) (dg xs k)) (loP (dg xs i) (dg xs k)) c, zs.set (i + k) (sqNew (dg zs (i + k)) (loP (dg xs i) (dg xs k)) c), by omega, by go_num, rfl, hid (sqIn_next HX.out hk9 hqi.out), HC.out.far (by simp) _, HZ.out.set_ _ _, hBq.setCell (by simp) _⟩
          case measure => simp [intOf]; omega
        · go_wp2
          obtain rfl : k = 9 - i := by omega
          go_roundw
          case rel => exact ⟨i + 1, zs, by omega, by go_num, hid (sqOut_next h9 hqi.out), hcx, hcz, hBq⟩
          case measure => simp [intOf]; omega
    · obtain rfl : i = 9 := by omega
      have hinf2 : Hid ((Tryz.prog.info? 88).map (·.size) = some ys.length) := by rw [hq.out.1.1]; exact hid (by kernel_rfl)
      have HB := hid hby
      clear hidx hby
      go_wp2_with (first | (refine load_row rfl 88 _ rfl _ rfl HB.out Tryz.underlying88 hinf2.out ?_) | (refine store_row rfl 88 _ _ rfl _ rfl rfl HB.out rfl hinf2.out ?_; rintro W' hW'; have HW' := hid hW'; clear hW'))
      have hb2 : Blk W' (w.heap.size + 1) .u64 88 ys := by rw [HW'.out]; exact HB.out.row ys
      have hB2 : Below w.heap.size w W' := by rw [HW'.out]; exact below_setRow hBw (by omega) _
      refine bodyPost_ret (v := .agg (nums .u64 ys).toArray) (results_cell_row rfl _ _ _ 88 _ (0, 0) _ rfl hb2 Tryz.underlying88 rfl (by rw [hinf2.out]; simp [nums])) rfl ?_
      exact ⟨ys, rfl, hq.out, hB2⟩
end Go.Proofs.YteigplfldhdakaaGreatDoor.Lc
/- Plain numbers: what the two loops of a ratio come to. No program in sight. -/
namespace Go.Proofs.YteigplfldhdakaaGreatDoor.Lc
open Go.RowKit
/-- what holds between two doublings -/
def Whole (a b : Int) (k : Nat) (ys : List Int) : Prop := InR B64 ys ∧ valTo B64 ys 9 = b * 2 ^ k ∧ b * 2 ^ k ≤ a
/-- what holds of the rest, before round i -/
def Rest (a b : Int) (i : Nat) (k : Int) (xs ys : List Int) : Prop :=
  InR B64 xs ∧ InR B64 ys ∧ valTo B64 xs 9 = a ^ (2 ^ i) ∧ 0 ≤ k ∧ valTo B64 ys 9 = b ^ (2 ^ i) * 2 ^ k.toNat ∧ b ^ (2 ^ i) * 2 ^ k.toNat ≤ a ^ (2 ^ i) ∧ a ^ (2 ^ i) < b ^ (2 ^ i) * 2 ^ (k.toNat + 1)
/-- what Ratio tells -/
def IsRatio (a b k : Int) : Prop := 0 ≤ k ∧ b ^ 16 * 2 ^ k.toNat ≤ a ^ 16 ∧ a ^ 16 < b ^ 16 * 2 ^ (k.toNat + 1)
theorem B64_pos : (0 : Int) < B64 := by simp only [B64]; omega
theorem pow1 (a : Int) : a ^ 2 ^ 0 = a := by rw [show 2 ^ 0 = 0 + 1 from rfl, Int.pow_succ, Int.pow_zero, Int.one_mul]
theorem valTo_one (a : Int) : valTo B64 [a, 0, 0, 0, 0, 0, 0, 0, 0] 9 = a := by simp [valTo, dg]
theorem inR_one {a : Int} (h0 : 0 ≤ a) (h1 : a < B64) : InR B64 [a, 0, 0, 0, 0, 0, 0, 0, 0] := by
  refine ⟨rfl, fun j => ?_⟩
  have hp := B64_pos
  match j with
  | 0 => exact ⟨h0, h1⟩
  | 1 | 2 | 3 | 4 | 5 | 6 | 7 | 8 => exact ⟨by simp [dg], by simpa [dg] using hp⟩
  | n + 9 => exact ⟨by simp [dg], by simpa [dg] using hp⟩
theorem two_pow_mono {m n : Nat} (h : m ≤ n) : (2 : Int) ^ m ≤ 2 ^ n := by
  have := Nat.pow_le_pow_right (show 0 < 2 by omega) h
  exact_mod_cast this
theorem two_pow_lt {m n : Nat} (h : (2 : Int) ^ m < 2 ^ n) : m < n := by
  rcases Nat.lt_or_ge m n with h1 | h1
  · exact h1
  · have := two_pow_mono h1; omega
theorem two_pow_pos (n : Nat) : (0 : Int) < 2 ^ n := Int.pow_pos (by omega)
theorem B64_9 : B64 ^ 9 = 2 ^ 576 := by decide +kernel
/-- a double, where it fits -/
theorem dbl_spec {ys zs : List Int} (h : InR B64 ys) (hl : zs.length = 9) (hd : ∀ j, j < 9 → dg zs j = dblD ys j) (hf : 2 * valTo B64 ys 9 < B64 ^ 9) : InR B64 zs ∧ valTo B64 zs 9 = 2 * valTo B64 ys 9 := by
  have hz : InR B64 zs := by
    refine ⟨hl, fun j => ?_⟩
    by_cases hj : j < 9
    · rw [hd j hj, dblD_eq h j]
      have := dblC_bit h j
      have := h.2 j
      simp only [B64] at *
      omega
    · have : dg zs j = 0 := by unfold dg; rw [List.getD_eq_getElem?_getD, List.getElem?_eq_none (by omega)]; rfl
      rw [this]
      exact ⟨by omega, B64_pos⟩
  refine ⟨hz, ?_⟩
  have e := dbl_val h hd 9 (by omega)
  have h2 := valTo_nonneg B64_pos hz 9
  have hc := dblC_bit h 9
  generalize dblC ys 9 = c at *
  generalize B64 ^ 9 = p at *
  rcases hc with rfl | rfl
  · omega
  · omega
theorem pow_bound {a : Int} (h0 : 0 ≤ a) (h3 : a ≤ 2147483648) (n : Nat) : a ^ n ≤ 2 ^ (31 * n) := by
  rw [Int.pow_mul]
  have : (2 : Int) ^ 31 = 2147483648 := by decide +kernel
  rw [this]
  induction n with
  | zero => simp
  | succ n ih =>
    rw [Int.pow_succ, Int.pow_succ]
    exact Int.mul_le_mul ih h3 h0 (Int.le_of_lt (Int.pow_pos (by omega)))
theorem whole_zero {a b : Int} (h1 : 1 ≤ b) (h2 : b ≤ a) (h3 : a ≤ 2147483648) : Whole a b 0 [b, 0, 0, 0, 0, 0, 0, 0, 0] :=
  ⟨inR_one (by omega) (by simp only [B64]; omega), by rw [valTo_one]; simp, by simpa using h2⟩
theorem whole_lt {a b : Int} {k : Nat} {ys : List Int} (h1 : 1 ≤ b) (h3 : a ≤ 2147483648) (h : Whole a b k ys) : (k : Int) < 32 := by
  obtain ⟨-, -, h⟩ := h
  have hp := two_pow_pos k
  have h4 : 1 * 2 ^ k ≤ b * 2 ^ k := Int.mul_le_mul_of_nonneg_right h1 (by omega)
  have h5 : (2 : Int) ^ 32 = 4294967296 := by decide +kernel
  have := two_pow_lt (m := k) (n := 32) (by omega)
  omega
/-- the doubled number -/
theorem whole_dbl {a b : Int} {k : Nat} {ys zs : List Int} (h3 : a ≤ 2147483648) (h : Whole a b k ys) (hl : zs.length = 9) (hd : ∀ j, j < 9 → dg zs j = dblD ys j) : InR B64 zs ∧ valTo B64 zs 9 = b * 2 ^ (k + 1) := by
  obtain ⟨hr, hv, hle⟩ := h
  have h5 : (2 : Int) ^ 576 = 2 ^ 33 * 2 ^ 543 := by rw [← Int.pow_add]
  have h6 : (2 : Int) ^ 33 = 8589934592 := by decide +kernel
  have h7 := two_pow_pos 543
  obtain ⟨hz, e⟩ := dbl_spec hr hl hd (by rw [B64_9, hv, h5, h6]; generalize b * 2 ^ k = m at *; generalize (2 : Int) ^ 543 = q at *; omega)
  exact ⟨hz, by rw [e, hv, Int.pow_succ]; generalize (2 : Int) ^ k = q; grind⟩
theorem whole_less {a b : Int} {k : Nat} {zs : List Int} (h1 : 1 ≤ b) (h2 : b ≤ a) (h3 : a ≤ 2147483648) (h : InR B64 zs ∧ valTo B64 zs 9 = b * 2 ^ (k + 1)) : lessTo [a, 0, 0, 0, 0, 0, 0, 0, 0] zs 9 = decide (a < b * 2 ^ (k + 1)) := by
  rw [lessTo_iff B64_pos (inR_one (by omega) (by simp only [B64]; omega)) h.1, valTo_one, h.2]
theorem whole_next {a b : Int} {k : Nat} {zs : List Int} (hz : InR B64 zs ∧ valTo B64 zs 9 = b * 2 ^ (k + 1)) (hle : ¬ a < b * 2 ^ (k + 1)) : Whole a b (k + 1) zs := ⟨hz.1, hz.2, by omega⟩
theorem rest_zero {a b : Int} {k : Nat} {ys : List Int} (h1 : 1 ≤ b) (h2 : b ≤ a) (h3 : a ≤ 2147483648) (h : Whole a b k ys) (hle : a < b * 2 ^ (k + 1)) : Rest a b 0 k [a, 0, 0, 0, 0, 0, 0, 0, 0] ys :=
  ⟨inR_one (by omega) (by simp only [B64]; omega), h.1, by rw [valTo_one, pow1], by omega, by rw [h.2.1, pow1]; simp, by rw [pow1, pow1]; simpa using h.2.2, by rw [pow1, pow1]; simpa using hle⟩
/-- both squared -/
def Squared (a b : Int) (i : Nat) (kk : Int) (xs ys : List Int) : Prop :=
  InR B64 xs ∧ InR B64 ys ∧ valTo B64 xs 9 = a ^ (2 ^ (i + 1)) ∧ 0 ≤ kk ∧ valTo B64 ys 9 = b ^ (2 ^ (i + 1)) * 2 ^ (kk * 2).toNat ∧ valTo B64 ys 9 ≤ valTo B64 xs 9 ∧ valTo B64 xs 9 < valTo B64 ys 9 * 4 ∧ valTo B64 xs 9 ≤ 2 ^ 500
theorem rest_sq {a b kk : Int} {i : Nat} {xs ys xs' ys' : List Int} (h1 : 1 ≤ b) (h2 : b ≤ a) (h3 : a ≤ 2147483648) (h4 : i < 4) (h : Rest a b i kk xs ys) (hx : SqOut xs 9 xs') (hy : SqOut ys 9 ys') : Squared a b i kk xs' ys' := by
  obtain ⟨rx, ry, vx, hk, vy, hle, hlt⟩ := h
  have hX : valTo B64 xs 9 ≤ 2 ^ 248 := by
    rw [vx]
    refine Int.le_trans (pow_bound (by omega) h3 _) (two_pow_mono ?_)
    have : 2 ^ i ≤ 2 ^ 3 := Nat.pow_le_pow_right (by omega) (by omega)
    omega
  have hx0 := valTo_nonneg B64_pos rx 9
  have hy0 := valTo_nonneg B64_pos ry 9
  have h8 : (2 : Int) ^ 248 * 2 ^ 248 = 2 ^ 496 := by rw [← Int.pow_add]
  have h9 : (2 : Int) ^ 496 < 2 ^ 576 := by decide +kernel
  have h10 : (2 : Int) ^ 496 ≤ 2 ^ 500 := by decide +kernel
  have hyx : valTo B64 ys 9 ≤ valTo B64 xs 9 := by rw [vx, vy]; exact hle
  have hxy : valTo B64 xs 9 < 2 * valTo B64 ys 9 := by
    rw [vx, vy]
    rw [Int.pow_succ] at hlt
    generalize b ^ 2 ^ i = p at *
    generalize (2 : Int) ^ kk.toNat = q at *
    grind
  have sX : valTo B64 xs 9 * valTo B64 xs 9 ≤ 2 ^ 248 * 2 ^ 248 := Int.mul_le_mul hX hX hx0 (Int.le_of_lt (two_pow_pos _))
  have sY : valTo B64 ys 9 * valTo B64 ys 9 ≤ valTo B64 xs 9 * valTo B64 xs 9 := Int.mul_le_mul hyx hyx hy0 hx0
  have s4 : valTo B64 xs 9 * valTo B64 xs 9 < (2 * valTo B64 ys 9) * (2 * valTo B64 ys 9) :=
    Int.lt_of_le_of_lt (Int.mul_le_mul_of_nonneg_left (Int.le_of_lt hxy) hx0) (Int.mul_lt_mul_of_pos_right hxy (by omega))
  have eX := sq_val rx hx (by rw [B64_9]; omega)
  have eY := sq_val ry hy (by rw [B64_9]; omega)
  refine ⟨hx.1, hy.1, ?_, hk, ?_, ?_, ?_, ?_⟩
  · rw [eX, vx, ← Int.pow_add, Nat.pow_succ, Nat.mul_two]
  · rw [eY, vy, show (kk * 2).toNat = kk.toNat + kk.toNat by omega, Int.pow_add, Nat.pow_succ, Nat.mul_two, Int.pow_add]
    generalize b ^ 2 ^ i = p
    generalize (2 : Int) ^ kk.toNat = q
    grind
  · rw [eX, eY]; exact sY
  · rw [eX, eY]; generalize valTo B64 ys 9 = y at *; generalize valTo B64 xs 9 = x at *; grind
  · rw [eX]; omega
theorem rest_lt {a b kk : Int} {i : Nat} {xs ys : List Int} (h1 : 1 ≤ b) (h2 : b ≤ a) (h3 : a ≤ 2147483648) (h4 : i < 4) (h : Rest a b i kk xs ys) : kk < 1000 := by
  obtain ⟨rx, ry, vx, hk, vy, hle, hlt⟩ := h
  have hX : a ^ 2 ^ i ≤ 2 ^ 248 := by
    refine Int.le_trans (pow_bound (by omega) h3 _) (two_pow_mono ?_)
    have : 2 ^ i ≤ 2 ^ 3 := Nat.pow_le_pow_right (by omega) (by omega)
    omega
  have hb : 1 ≤ b ^ 2 ^ i := by have : 0 < b ^ 2 ^ i := Int.pow_pos (by omega); omega
  have hp := two_pow_pos kk.toNat
  have h5 : 1 * 2 ^ kk.toNat ≤ b ^ 2 ^ i * 2 ^ kk.toNat := Int.mul_le_mul_of_nonneg_right hb (by omega)
  have h9 : (2 : Int) ^ 248 < 2 ^ 1000 := by decide +kernel
  have := two_pow_lt (m := kk.toNat) (n := 1000) (by omega)
  omega
theorem rest_dbl {a b kk : Int} {i : Nat} {xs ys zs : List Int} (h : Squared a b i kk xs ys) (hl : zs.length = 9) (hd : ∀ j, j < 9 → dg zs j = dblD ys j) : InR B64 zs ∧ valTo B64 zs 9 = 2 * valTo B64 ys 9 := by
  obtain ⟨-, hr, -, -, -, hle, -, hb⟩ := h
  have h9 : (2 : Int) * 2 ^ 500 < 2 ^ 576 := by decide +kernel
  exact dbl_spec hr hl hd (by rw [B64_9]; omega)
theorem rest_no {a b kk : Int} {i : Nat} {xs ys zs : List Int} (h : Squared a b i kk xs ys) (hz : InR B64 zs ∧ valTo B64 zs 9 = 2 * valTo B64 ys 9) (hle : valTo B64 xs 9 < valTo B64 zs 9) : Rest a b (i + 1) (kk * 2) xs ys := by
  obtain ⟨rx, ry, vx, hk, vy, h1, h2, -⟩ := h
  refine ⟨rx, ry, vx, by omega, vy, by rw [← vx, ← vy]; exact h1, ?_⟩
  rw [hz.2] at hle
  rw [← vx, Int.pow_succ, ← Int.mul_assoc, ← vy]
  omega
theorem rest_yes {a b kk : Int} {i : Nat} {xs ys zs : List Int} (h : Squared a b i kk xs ys) (hz : InR B64 zs ∧ valTo B64 zs 9 = 2 * valTo B64 ys 9) (hle : ¬ valTo B64 xs 9 < valTo B64 zs 9) : Rest a b (i + 1) (kk * 2 + 1) xs zs := by
  obtain ⟨rx, ry, vx, hk, vy, h1, h2, -⟩ := h
  have e : (kk * 2 + 1).toNat = (kk * 2).toNat + 1 := by omega
  have vz : valTo B64 zs 9 = b ^ 2 ^ (i + 1) * 2 ^ (kk * 2 + 1).toNat := by
    rw [hz.2, vy, e, Int.pow_succ, Int.mul_comm 2, Int.mul_assoc]
  refine ⟨rx, hz.1, vx, by omega, vz, by rw [← vx, ← vz]; omega, ?_⟩
  rw [← vx, Int.pow_succ, ← Int.mul_assoc, ← vz, hz.2]
  omega
theorem ratio_end {a b kk : Int} {xs ys : List Int} (h : Rest a b 4 kk xs ys) : IsRatio a b kk := ⟨h.2.2.2.1, h.2.2.2.2.2.1, h.2.2.2.2.2.2⟩
end Go.Proofs.YteigplfldhdakaaGreatDoor.Lc
/- The walk of logcost.Ratio. -/
namespace Go.Proofs.YteigplfldhdakaaGreatDoor.Lc
open Go.RowKit
set_option maxRecDepth 100000 in
set_option maxHeartbeats 1000000 in
theorem ratio_no (a b : Int) (w : World) (h : b < 1 ∨ a < b ∨ 2147483648 < a) :
    Calls Tryz.prog 12 #[.int .i64 a, .int .i64 b] w fun e w' => e = .returned (.tuple #[.int .i64 0, .int .i64 2]) ∧ Below w.heap.size w w' := by
  by_cases h1 : b < 1
  · clear h
    go_enter Tryz.func12, Tryz.ntmps12
    go_wp2
    go_step3
    go_wp2
    try rw [Exit.noGoto_ret]
    go_ret2
    exact ⟨rfl, Below.refl _ _⟩
  · by_cases h2 : a < b
    · clear h
      go_enter Tryz.func12, Tryz.ntmps12
      go_wp2
      go_step3
      go_wp2
      try rw [Exit.noGoto_ret]
      go_ret2
      exact ⟨rfl, Below.refl _ _⟩
    · have h3 : 2147483648 < a := by omega
      clear h
      go_enter Tryz.func12, Tryz.ntmps12
      go_wp2
      go_step3
      go_wp2
      try rw [Exit.noGoto_ret]
      go_ret2
      exact ⟨rfl, Below.refl _ _⟩
def RatioPost (a b : Int) (w : World) (e : Ending) (w' : World) : Prop := ∃ k : Int, IsRatio a b k ∧ e = .returned (.tuple #[.int .i64 k, .int .i64 0]) ∧ Below w.heap.size w w'
theorem info9 {xs : List Int} (h : xs.length = 9) : (Tryz.prog.info? 88).map (·.size) = some xs.length := by rw [h]; kernel_rfl
set_option maxRecDepth 100000 in
set_option maxHeartbeats 1000000 in
theorem ratio_yes (a b : Int) (w : World) (h1 : 1 ≤ b) (h2 : b ≤ a) (h3 : a ≤ 2147483648) :
    Calls Tryz.prog 12 #[.int .i64 a, .int .i64 b] w (RatioPost a b w) := by
  obtain ⟨W, hW⟩ : ∃ W, (w.alloc (Obj.cells #[.int .u64 a, .int .u64 0, .int .u64 0, .int .u64 0, .int .u64 0, .int .u64 0, .int .u64 0, .int .u64 0, .int .u64 0] 88)).alloc (Obj.cells #[.int .u64 b, .int .u64 0, .int .u64 0, .int .u64 0, .int .u64 0, .int .u64 0, .int .u64 0, .int .u64 0, .int .u64 0] 88) = W := ⟨_, rfl⟩
  have hB : Below w.heap.size w W := by rw [← hW]; exact balloc (balloc (Below.refl _ w) _) _
  have bx : Blk W w.heap.size .u64 88 [a, 0, 0, 0, 0, 0, 0, 0, 0] := by rw [← hW]; exact (Blk.new w .u64 88 [a, 0, 0, 0, 0, 0, 0, 0, 0]).alloc _
  have by_ : Blk W (w.heap.size + 1) .u64 88 [b, 0, 0, 0, 0, 0, 0, 0, 0] := by rw [← hW]; have := Blk.new (w.alloc (Obj.cells #[.int .u64 a, .int .u64 0, .int .u64 0, .int .u64 0, .int .u64 0, .int .u64 0, .int .u64 0, .int .u64 0, .int .u64 0] 88)) .u64 88 [b, 0, 0, 0, 0, 0, 0, 0, 0]; rwa [World.size_alloc] at this
  have HW := hid hW
  have d1 : decide (b < 1) = false := by simp; omega
  have d2 : decide (a < b) = false := by simp; omega
  have d3 : decide (2147483648 < a) = false := by simp; omega
  clear hW
  go_enter Tryz.func12, Tryz.ntmps12
  go_wp2
  go_step3
  go_wp2_with fail
  rw [HW.out]
  clear HW
  go_step3
  go_wp2_with fail
  go_loopw [8] (fun kv wr => ∃ (k : Nat) (ys : List Int), kv = .int .i64 (k : Int) ∧ Hid (Whole a b k ys) ∧ Hid (Blk wr w.heap.size .u64 88 [a, 0, 0, 0, 0, 0, 0, 0, 0]) ∧ Hid (Blk wr (w.heap.size + 1) .u64 88 ys) ∧ Below w.heap.size w wr) (fun k _ => 40 - (intOf k).toNat)
  case atStart => exact ⟨0, [b, 0, 0, 0, 0, 0, 0, 0, 0], rfl, hid (whole_zero h1 h2 h3), hid bx, hid by_, hB⟩
  case round =>
    obtain ⟨k, ys, rfl, hwh, hx, hy, hBw⟩ := hrel
    clear bx by_ hB
    have hk : (k : Int) < 32 := whole_lt h1 h3 hwh.out
    have hyl : Hid ((Tryz.prog.info? 88).map (·.size) = some ys.length) := by rw [hwh.out.1.1]; exact hid (by kernel_rfl)
    have hsz : w.heap.size + 1 < wr.heap.size := hy.out.lt
    go_wp2_with (refine load_row rfl 88 _ rfl _ rfl hy.out Tryz.underlying88 hyl.out ?_)
    refine (double_any ys hwh.out.1.1 _).mono ?_
    rintro e w1 ⟨zs, rfl, hzl, hzd, hb1⟩
    have HZ := hid (whole_dbl h3 hwh.out hzl hzd)
    clear hzl hzd
    have hx1 := hid (hx.out.below hb1)
    have hy1 := hid (hy.out.below hb1)
    have hB1 : Below w.heap.size w w1 := hBw.trans (hb1.mono (by omega))
    have hsz1 : w.heap.size + 1 < w1.heap.size := hy1.out.lt
    have hn1 := hid (Blk.new w1 .u64 88 (List.replicate 9 0))
    have hzi : Hid ((Tryz.prog.info? 88).map (·.size) = some zs.length) := by rw [HZ.out.1.1]; exact hid (by kernel_rfl)
    clear hx hy hb1 hBw hsz
    go_wp2_with (first | (refine store_row rfl 88 _ _ rfl _ rfl rfl hn1.out HZ.out.1.1.symm hzi.out ?_; rintro W' hW'; have hW2 := hid hW'; clear hW'; have hx2 : Hid (Blk W' w.heap.size .u64 88 [a, 0, 0, 0, 0, 0, 0, 0, 0]) := (by rw [hW2.out]; exact hid ((hx1.out.alloc _).row_far (by omega) _)); have hz2 : Hid (Blk W' w1.heap.size .u64 88 zs) := (by rw [hW2.out]; exact hid (hn1.out.row _)); have hy2 : Hid (Blk W' (w.heap.size + 1) .u64 88 ys) := (by rw [hW2.out]; exact hid ((hy1.out.alloc _).row_far (by omega) _)); have hB2 : Below w.heap.size w W' := (by rw [hW2.out]; exact below_setRow (balloc hB1 _) (by omega) _); clear hW2) | (refine load_row rfl 88 _ rfl _ rfl hx2.out Tryz.underlying88 (by kernel_rfl) ?_) | (refine load_row rfl 88 _ rfl _ rfl hz2.out Tryz.underlying88 hzi.out ?_))
    refine (less_any _ _ rfl HZ.out.1.1 _).mono ?_
    rintro e w2 ⟨rfl, hb2⟩
    have hx3 := hid (hx2.out.below hb2)
    have hz3 := hid (hz2.out.below hb2)
    have hy3 := hid (hy2.out.below hb2)
    have hB3 : Below w.heap.size w w2 := hB2.trans (hb2.mono (by have := hB2.size; omega))
    clear hx1 hy1 hB1 hn1 hx2 hz2 hy2 hB2 hb2
    by_cases hle : a < b * 2 ^ (k + 1)
    · have HR := hid (rest_zero h1 h2 h3 hwh.out hle)
      rw [whole_less h1 h2 h3 HZ.out, decide_eq_true hle]
      clear hle HZ hwh
      go_wp2_with fail
      go_loopw [36, 8] (fun iv kv wq => ∃ (i : Nat) (kk : Int) (xs ys : List Int), i ≤ 4 ∧ iv = .int .i64 (i : Int) ∧ kv = .int .i64 kk ∧ Hid (Rest a b i kk xs ys) ∧ Hid (Blk wq w.heap.size .u64 88 xs) ∧ Hid (Blk wq (w.heap.size + 1) .u64 88 ys) ∧ Below w.heap.size w wq) (fun i _ _ => 4 - (intOf i).toNat)
      case atStart => exact ⟨0, k, [a, 0, 0, 0, 0, 0, 0, 0, 0], ys, by omega, rfl, rfl, HR, hx3, hy3, hB3⟩
      case round =>
        clear HR hx3 hy3 hz3 hB3 hzi hyl
        obtain ⟨i, kk, xs, ys, hi, rfl, rfl, HR, hx, hy, hB⟩ := hrel
        by_cases h4 : i < 4
        · have hd4 : decide ((i : Int) < 4) = true := by simp; omega
          have hsz : w.heap.size + 1 < wr.heap.size := hy.out.lt
          have hxi : Hid ((Tryz.prog.info? 88).map (·.size) = some xs.length) := by rw [HR.out.1.1]; exact hid (by kernel_rfl)
          have hyi : Hid ((Tryz.prog.info? 88).map (·.size) = some ys.length) := by rw [HR.out.2.1.1]; exact hid (by kernel_rfl)
          go_upto_region 11 with (fail)
          go_cut [] (fun wq => ∃ xs' ys', Hid (SqOut xs 9 xs') ∧ Hid (SqOut ys 9 ys') ∧ Hid (Blk wq w.heap.size .u64 88 xs') ∧ Hid (Blk wq (w.heap.size + 1) .u64 88 ys') ∧ Below w.heap.size w wq)
          case first =>
            refine wp_region_any (by kernel_rfl) ?_
            change wpAny _ _ _ _ _ _ _ (World.drew _)
            refine wpAny_ready (rs := [0, 2]) (by kernel_rfl) (by simp) ?_
            refine rdy_load rfl rfl 88 _ rfl _ rfl hx.out Tryz.underlying88 hxi.out ?_ (rdy_load rfl rfl 88 _ rfl _ rfl hy.out Tryz.underlying88 hyi.out ?_ AllReady.nil)
            · refine wpAny_ready (rs := [1, 2]) (by kernel_rfl) (by simp) (rdy rfl rfl (fun K hK => ?_) (rdy_load rfl rfl 88 _ rfl _ rfl hy.out Tryz.underlying88 hyi.out ?_ AllReady.nil))
              · go_simp; refine (square_any xs HR.out.1 _).mono ?_; rintro e w3 ⟨xs', rfl, hsx, hb3⟩; have hx3 := hid (hx.out.below (w := wr.drew) hb3); have hy3 := hid (hy.out.below (w := wr.drew) hb3); have hB3 : Below w.heap.size w w3 := (hB.drew).trans (hb3.mono (by show w.heap.size ≤ wr.heap.size; omega)); have HS := hid hsx; clear hsx hb3; refine hK _ _ ?_; clear hK K
                refine wpAny_ready (rs := [2]) (by kernel_rfl) (by simp) (rdy_load rfl rfl 88 _ rfl _ rfl hy3.out Tryz.underlying88 hyi.out ?_ AllReady.nil)
                refine wpAny_ready (rs := [3]) (by kernel_rfl) (by simp) (rdy rfl rfl (fun K hK => ?_) AllReady.nil)
                go_simp; refine (square_any ys HR.out.2.1 _).mono ?_; rintro e w4 ⟨ys', rfl, hsy, hb4⟩; have hx4 := hid (hx3.out.below hb4); have hy4 := hid (hy3.out.below hb4); have hB4 : Below w.heap.size w w4 := hB3.trans (hb4.mono (by have := hB3.size; omega)); have HT := hid hsy; clear hsy hb4; refine hK _ _ ?_; clear hK K
                refine wpAny_ready (rs := [4]) (by kernel_rfl) (by simp) (rdy_store rfl rfl 88 _ _ rfl _ rfl rfl hx4.out (HR.out.1.1.trans HS.out.1.1.symm) (info9 HS.out.1.1) ?_ AllReady.nil)
                rintro W5 hW5
                have hx5 : Blk W5 w.heap.size .u64 88 xs' := by rw [hW5]; exact hx4.out.row _
                have hy5 : Blk W5 (w.heap.size + 1) .u64 88 ys := by rw [hW5]; exact hy4.out.row_far (by omega) _
                have hB5 : Below w.heap.size w W5 := by rw [hW5]; exact below_setRow hB4 (by omega) _
                clear hW5
                refine wpAny_ready (rs := [5]) (by kernel_rfl) (by simp) (rdy_store rfl rfl 88 _ _ rfl _ rfl rfl hy5 (HR.out.2.1.1.trans HT.out.1.1.symm) (info9 HT.out.1.1) ?_ AllReady.nil)
                rintro W6 hW6
                have hx6 : Blk W6 w.heap.size .u64 88 xs' := by rw [hW6]; exact hx5.row_far (by omega) _
                have hy6 : Blk W6 (w.heap.size + 1) .u64 88 ys' := by rw [hW6]; exact hy5.row _
                have hB6 : Below w.heap.size w W6 := by rw [hW6]; exact below_setRow hB5 (by omega) _
                clear hW6
                refine wpAny_done (by kernel_rfl) ?_ _
                go_wp2_with fail
                go_meet
                case rel => exact ⟨xs', ys', HS, HT, hid hx6, hid hy6, hB6⟩
              · refine wpAny_ready (rs := [1]) (by kernel_rfl) (by simp) (rdy rfl rfl (fun K hK => ?_) AllReady.nil)
                go_simp; refine (square_any xs HR.out.1 _).mono ?_; rintro e w3 ⟨xs', rfl, hsx, hb3⟩; have hx3 := hid (hx.out.below (w := wr.drew) hb3); have hy3 := hid (hy.out.below (w := wr.drew) hb3); have hB3 : Below w.heap.size w w3 := (hB.drew).trans (hb3.mono (by show w.heap.size ≤ wr.heap.size; omega)); have HS := hid hsx; clear hsx hb3; refine hK _ _ ?_; clear hK K
                refine wpAny_ready (rs := [3]) (by kernel_rfl) (by simp) (rdy rfl rfl (fun K hK => ?_) AllReady.nil)
                go_simp; refine (square_any ys HR.out.2.1 _).mono ?_; rintro e w4 ⟨ys', rfl, hsy, hb4⟩; have hx4 := hid (hx3.out.below hb4); have hy4 := hid (hy3.out.below hb4); have hB4 : Below w.heap.size w w4 := hB3.trans (hb4.mono (by have := hB3.size; omega)); have HT := hid hsy; clear hsy hb4; refine hK _ _ ?_; clear hK K
                refine wpAny_ready (rs := [4]) (by kernel_rfl) (by simp) (rdy_store rfl rfl 88 _ _ rfl _ rfl rfl hx4.out (HR.out.1.1.trans HS.out.1.1.symm) (info9 HS.out.1.1) ?_ AllReady.nil)
                rintro W5 hW5
                have hx5 : Blk W5 w.heap.size .u64 88 xs' := by rw [hW5]; exact hx4.out.row _
                have hy5 : Blk W5 (w.heap.size + 1) .u64 88 ys := by rw [hW5]; exact hy4.out.row_far (by omega) _
                have hB5 : Below w.heap.size w W5 := by rw [hW5]; exact below_setRow hB4 (by omega) _
                clear hW5
                refine wpAny_ready (rs := [5]) (by kernel_rfl) (by simp) (rdy_store rfl rfl 88 _ _ rfl _ rfl rfl hy5 (HR.out.2.1.1.trans HT.out.1.1.symm) (info9 HT.out.1.1) ?_ AllReady.nil)
                rintro W6 hW6
                have hx6 : Blk W6 w.heap.size .u64 88 xs' := by rw [hW6]; exact hx5.row_far (by omega) _
                have hy6 : Blk W6 (w.heap.size + 1) .u64 88 ys' := by rw [hW6]; exact hy5.row _
                have hB6 : Below w.heap.size w W6 := by rw [hW6]; exact below_setRow hB5 (by omega) _
                clear hW6
                refine wpAny_done (by kernel_rfl) ?_ _
                go_wp2_with fail
                go_meet
                case rel => exact ⟨xs', ys', HS, HT, hid hx6, hid hy6, hB6⟩
            · refine wpAny_ready (rs := [0]) (by kernel_rfl) (by simp) (rdy_load rfl rfl 88 _ rfl _ rfl hx.out Tryz.underlying88 hxi.out ?_ AllReady.nil)
              refine wpAny_ready (rs := [1]) (by kernel_rfl) (by simp) (rdy rfl rfl (fun K hK => ?_) AllReady.nil)
              go_simp; refine (square_any xs HR.out.1 _).mono ?_; rintro e w3 ⟨xs', rfl, hsx, hb3⟩; have hx3 := hid (hx.out.below (w := wr.drew) hb3); have hy3 := hid (hy.out.below (w := wr.drew) hb3); have hB3 : Below w.heap.size w w3 := (hB.drew).trans (hb3.mono (by show w.heap.size ≤ wr.heap.size; omega)); have HS := hid hsx; clear hsx hb3; refine hK _ _ ?_; clear hK K
              refine wpAny_ready (rs := [3]) (by kernel_rfl) (by simp) (rdy rfl rfl (fun K hK => ?_) AllReady.nil)
              go_simp; refine (square_any ys HR.out.2.1 _).mono ?_; rintro e w4 ⟨ys', rfl, hsy, hb4⟩; have hx4 := hid (hx3.out.below hb4); have hy4 := hid (hy3.out.below hb4); have hB4 : Below w.heap.size w w4 := hB3.trans (hb4.mono (by have := hB3.size; omega)); have HT := hid hsy; clear hsy hb4; refine hK _ _ ?_; clear hK K
              refine wpAny_ready (rs := [4]) (by kernel_rfl) (by simp) (rdy_store rfl rfl 88 _ _ rfl _ rfl rfl hx4.out (HR.out.1.1.trans HS.out.1.1.symm) (info9 HS.out.1.1) ?_ AllReady.nil)
              rintro W5 hW5
              have hx5 : Blk W5 w.heap.size .u64 88 xs' := by rw [hW5]; exact hx4.out.row _
              have hy5 : Blk W5 (w.heap.size + 1) .u64 88 ys := by rw [hW5]; exact hy4.out.row_far (by omega) _
              have hB5 : Below w.heap.size w W5 := by rw [hW5]; exact below_setRow hB4 (by omega) _
              clear hW5
              refine wpAny_ready (rs := [5]) (by kernel_rfl) (by simp) (rdy_store rfl rfl 88 _ _ rfl _ rfl rfl hy5 (HR.out.2.1.1.trans HT.out.1.1.symm) (info9 HT.out.1.1) ?_ AllReady.nil)
              rintro W6 hW6
              have hx6 : Blk W6 w.heap.size .u64 88 xs' := by rw [hW6]; exact hx5.row_far (by omega) _
              have hy6 : Blk W6 (w.heap.size + 1) .u64 88 ys' := by rw [hW6]; exact hy5.row _
              have hB6 : Below w.heap.size w W6 := by rw [hW6]; exact below_setRow hB5 (by omega) _
              clear hW6
              refine wpAny_done (by kernel_rfl) ?_ _
              go_wp2_with fail
              go_meet
              case rel => exact ⟨xs', ys', HS, HT, hid hx6, hid hy6, hB6⟩
          case rest =>
            obtain ⟨xs', ys', HS, HT, hx', hy', hB'⟩ := hcut
            clear hx hy hB hxi hyi hsz
            have HQ := hid (rest_sq h1 h2 h3 h4 HR.out HS.out HT.out)
            have hk0 : 0 ≤ kk := HR.out.2.2.2.1
            have hk1 : kk < 1000 := rest_lt h1 h2 h3 (by omega) HR.out
            have hyi : Hid ((Tryz.prog.info? 88).map (·.size) = some ys'.length) := hid (info9 HT.out.1.1)
            have hxi : Hid ((Tryz.prog.info? 88).map (·.size) = some xs'.length) := hid (info9 HS.out.1.1)
            clear HR
            have hsz : w.heap.size + 1 < wc.heap.size := hy'.out.lt
            go_wp2_with (refine load_row rfl 88 _ rfl _ rfl hy'.out Tryz.underlying88 hyi.out ?_)
            refine (double_any ys' HT.out.1.1 _).mono ?_
            rintro e w3 ⟨zs, rfl, hzl, hzd, hb3⟩
            have HZ := hid (rest_dbl HQ.out hzl hzd)
            clear hzl hzd
            have hx3 := hid (hx'.out.below hb3)
            have hy3 := hid (hy'.out.below hb3)
            have hB3 : Below w.heap.size w w3 := hB'.trans (hb3.mono (by omega))
            have hsz3 : w.heap.size + 1 < w3.heap.size := hy3.out.lt
            have hn3 := hid (Blk.new w3 .u64 88 (List.replicate 9 0))
            have hzi : Hid ((Tryz.prog.info? 88).map (·.size) = some zs.length) := hid (info9 HZ.out.1.1)
            clear hx' hy' hb3 hB' hsz
            go_wp2_with (first | (refine store_row rfl 88 _ _ rfl _ rfl rfl hn3.out HZ.out.1.1.symm hzi.out ?_; rintro W' hW'; have hW2 := hid hW'; clear hW'; have hx4 : Hid (Blk W' w.heap.size .u64 88 xs') := (by rw [hW2.out]; exact hid ((hx3.out.alloc _).row_far (by omega) _)); have hz4 : Hid (Blk W' w3.heap.size .u64 88 zs) := (by rw [hW2.out]; exact hid (hn3.out.row _)); have hy4 : Hid (Blk W' (w.heap.size + 1) .u64 88 ys') := (by rw [hW2.out]; exact hid ((hy3.out.alloc _).row_far (by omega) _)); have hB4 : Below w.heap.size w W' := (by rw [hW2.out]; exact below_setRow (balloc hB3 _) (by omega) _); clear hW2) | (refine load_row rfl 88 _ rfl _ rfl hx4.out Tryz.underlying88 hxi.out ?_) | (refine load_row rfl 88 _ rfl _ rfl hz4.out Tryz.underlying88 hzi.out ?_))
            refine (less_any _ _ HS.out.1.1 HZ.out.1.1 _).mono ?_
            rintro e w5 ⟨rfl, hb5⟩
            have hx5 := hid (hx4.out.below hb5)
            have hz5 := hid (hz4.out.below hb5)
            have hy5 := hid (hy4.out.below hb5)
            have hB5 : Below w.heap.size w w5 := hB4.trans (hb5.mono (by have := hB4.size; omega))
            clear hx3 hy3 hB3 hn3 hx4 hz4 hy4 hB4 hb5
            rw [lessTo_iff B64_pos HS.out.1 HZ.out.1]
            by_cases hle : valTo B64 xs' 9 < valTo B64 zs 9
            · have HN := hid (rest_no HQ.out HZ.out hle)
              rw [decide_eq_true hle]
              clear hle HQ HZ
              go_wp2_with fail
              go_roundw
              case rel => exact ⟨i + 1, kk * 2, xs', ys', by omega, by go_num, rfl, HN, hx5, hy5, hB5⟩
              case measure => simp [intOf]; omega
            · have HN := hid (rest_yes HQ.out HZ.out hle)
              have hyz : Hid (ys'.length = zs.length) := hid (HT.out.1.1.trans HZ.out.1.1.symm)
              rw [decide_eq_false hle]
              clear hle HQ
              go_wp2_with (first | (refine load_row rfl 88 _ rfl _ rfl hz5.out Tryz.underlying88 hzi.out ?_) | (refine store_row rfl 88 _ _ rfl _ rfl rfl hy5.out hyz.out hzi.out ?_; rintro W' hW'; have hW2 := hid hW'; clear hW'; have hx6 : Hid (Blk W' w.heap.size .u64 88 xs') := (by rw [hW2.out]; exact hid (hx5.out.row_far (by omega) _)); have hy6 : Hid (Blk W' (w.heap.size + 1) .u64 88 zs) := (by rw [hW2.out]; exact hid (hy5.out.row _)); have hB6 : Below w.heap.size w W' := (by rw [hW2.out]; exact below_setRow hB5 (by omega) _); clear hW2))
              go_roundw
              case rel => exact ⟨i + 1, kk * 2 + 1, xs', zs, by omega, by go_num, rfl, HN, hx6, hy6, hB6⟩
              case measure => simp [intOf]; omega
        · obtain rfl : i = 4 := by omega
          go_wp2_with fail
          rw [Exit.noGoto_ret]
          go_ret2
          exact ⟨kk, ratio_end HR.out, rfl, hB⟩
    · have hyz : Hid (ys.length = zs.length) := hid (hwh.out.1.1.trans HZ.out.1.1.symm)
      have hwh2 := hid (whole_next HZ.out hle)
      rw [whole_less h1 h2 h3 HZ.out, decide_eq_false hle]
      clear hle hwh
      go_wp2_with (first | (refine load_row rfl 88 _ rfl _ rfl hz3.out Tryz.underlying88 hzi.out ?_) | (refine store_row rfl 88 _ _ rfl _ rfl rfl hy3.out hyz.out hzi.out ?_; rintro W' hW'; have hW2 := hid hW'; clear hW'; have hx4 : Hid (Blk W' w.heap.size .u64 88 [a, 0, 0, 0, 0, 0, 0, 0, 0]) := (by rw [hW2.out]; exact hid (hx3.out.row_far (by omega) _)); have hy4 : Hid (Blk W' (w.heap.size + 1) .u64 88 zs) := (by rw [hW2.out]; exact hid (hy3.out.row _)); have hB4 : Below w.heap.size w W' := (by rw [hW2.out]; exact below_setRow hB3 (by omega) _); clear hW2))
      go_roundw
      case rel => exact ⟨k + 1, zs, by go_num, hwh2, hx4, hy4, hB4⟩
      case measure => simp [intOf]; omega
end Go.Proofs.YteigplfldhdakaaGreatDoor.Lc
/- Plain numbers: the ratio of two numbers as a function, and what it obeys. No program in sight. -/
namespace Go.Proofs.YteigplfldhdakaaGreatDoor.Lc
open Go.RowKit
/-- the numbers of which there is no ratio -/
def NoRatio (a b : Int) : Prop := b < 1 ∨ a < b ∨ 2147483648 < a
instance (a b : Int) : Decidable (NoRatio a b) := by unfold NoRatio; exact inferInstance
open Classical in
noncomputable def ratioK (a b : Int) : Int := if NoRatio a b then 0 else if h : ∃ k, IsRatio a b k then Classical.choose h else 0
def ratioE (a b : Int) : Int := if NoRatio a b then 2 else 0
theorem isRatio_unique {a b k m : Int} (hb : 1 ≤ b) (h : IsRatio a b k) (h' : IsRatio a b m) : k = m := by
  obtain ⟨h0, h1, h2⟩ := h
  obtain ⟨h0', h1', h2'⟩ := h'
  have hp : (0 : Int) < b ^ 16 := Int.pow_pos (by omega)
  have aux : ∀ p q : Nat, b ^ 16 * 2 ^ p < b ^ 16 * 2 ^ q → p < q := fun p q h => two_pow_lt (Int.lt_of_mul_lt_mul_left h (by omega))
  have e1 := aux _ _ (Int.lt_of_le_of_lt h1 h2')
  have e2 := aux _ _ (Int.lt_of_le_of_lt h1' h2)
  omega
theorem ratioK_no {a b : Int} (h : NoRatio a b) : ratioK a b = 0 := by unfold ratioK; rw [if_pos h]
theorem ratioE_no {a b : Int} (h : NoRatio a b) : ratioE a b = 2 := by unfold ratioE; rw [if_pos h]
theorem ratioE_yes {a b : Int} (h : ¬ NoRatio a b) : ratioE a b = 0 := by unfold ratioE; rw [if_neg h]
theorem ratioK_of {a b k : Int} (h : ¬ NoRatio a b) (hk : IsRatio a b k) : ratioK a b = k := by
  have hex : ∃ k, IsRatio a b k := ⟨k, hk⟩
  unfold ratioK
  rw [if_neg h, dif_pos hex]
  exact isRatio_unique (by unfold NoRatio at h; omega) (Classical.choose_spec hex) hk
theorem ratio_lit (a b k : Int) (h : decide (¬ NoRatio a b) = true) (h0 : 0 ≤ k) (h1 : decide (b ^ 16 * 2 ^ k.toNat ≤ a ^ 16) = true) (h2 : decide (a ^ 16 < b ^ 16 * 2 ^ (k.toNat + 1)) = true) : ratioK a b = k ∧ ratioE a b = 0 :=
  ⟨ratioK_of (of_decide_eq_true h) ⟨h0, of_decide_eq_true h1, of_decide_eq_true h2⟩, ratioE_yes (of_decide_eq_true h)⟩
theorem ratio_2_1 : ratioK 2 1 = 16 ∧ ratioE 2 1 = 0 := ratio_lit 2 1 16 (by decide +kernel) (by decide) (by decide +kernel) (by decide +kernel)
theorem ratio_3_2 : ratioK 3 2 = 9 ∧ ratioE 3 2 = 0 := ratio_lit 3 2 9 (by decide +kernel) (by decide) (by decide +kernel) (by decide +kernel)
theorem ratio_16_1 : ratioK 16 1 = 64 ∧ ratioE 16 1 = 0 := ratio_lit 16 1 64 (by decide +kernel) (by decide) (by decide +kernel) (by decide +kernel)
end Go.Proofs.YteigplfldhdakaaGreatDoor.Lc
/- The contracts that logcost's laws use: Ratio, Cost, Sum, alive. -/
namespace Go.Proofs.YteigplfldhdakaaGreatDoor.Lc
open Go.RowKit
theorem bthen {w w1 w2 : World} (h : Below w.heap.size w w1) (k : Below w1.heap.size w1 w2) : Below w.heap.size w w2 := h.trans (k.mono h.size)
/-- **Ratio, at whatever numbers.** -/
theorem ratio_any (a b : Int) (w : World) :
    Calls Tryz.prog 12 #[.int .i64 a, .int .i64 b] w fun e w' => e = .returned (.tuple #[.int .i64 (ratioK a b), .int .i64 (ratioE a b)]) ∧ Below w.heap.size w w' := by
  by_cases h : NoRatio a b
  · rw [ratioK_no h, ratioE_no h]
    exact ratio_no a b w h
  · have h' := h
    unfold NoRatio at h'
    refine (ratio_yes a b w (by omega) (by omega) (by omega)).mono ?_
    rintro e w' ⟨k, hk, rfl, hb⟩
    exact ⟨by rw [ratioK_of h hk, ratioE_yes h], hb⟩
theorem tup2 {k k' : IntKind} {a b c d : Int} (h : a = c) (h' : b = d) : Value.tuple #[.int k a, .int k' b] = Value.tuple #[.int k c, .int k' d] := by rw [h, h']
/-- what a cost is -/
def NoCost (t k n : Int) : Prop := t < 0 ∨ 1073741824 < t ∨ k < 1 ∨ 4096 < k ∨ n < 0 ∨ t < n
instance (t k n : Int) : Decidable (NoCost t k n) := by unfold NoCost; exact inferInstance
noncomputable def costV (t k n : Int) : Int := if NoCost t k n then 0 else min (max (ratioK (t + k) (n + 1)) 1) 255
noncomputable def costE (t k n : Int) : Int := if NoCost t k n then 2 else ratioE (t + k) (n + 1)
theorem costV_no {t k n : Int} (h : NoCost t k n) : costV t k n = 0 := by unfold costV; rw [if_pos h]
theorem costE_no {t k n : Int} (h : NoCost t k n) : costE t k n = 2 := by unfold costE; rw [if_pos h]
theorem costV_yes {t k n : Int} (h : ¬ NoCost t k n) : costV t k n = min (max (ratioK (t + k) (n + 1)) 1) 255 := by unfold costV; rw [if_neg h]
theorem costE_yes {t k n : Int} (h : ¬ NoCost t k n) : costE t k n = ratioE (t + k) (n + 1) := by unfold costE; rw [if_neg h]
set_option maxRecDepth 100000 in
set_option maxHeartbeats 1000000 in
theorem cost_any (t k n : Int) (w : World) :
    Calls Tryz.prog 26 #[.int .i64 t, .int .i64 k, .int .i64 n] w fun e w' => e = .returned (.tuple #[.int .i64 (costV t k n), .int .i64 (costE t k n)]) ∧ Below w.heap.size w w' := by
  have HB := Below.refl w.heap.size w
  go_enter Tryz.func26, Tryz.ntmps26
  go_wp2_with (go_at_call 12; refine (ratio_any _ _ _).mono ?_; rintro e w' ⟨rfl, hb⟩; replace HB := bthen HB hb; clear hb)
  all_goals go_ret2
  all_goals refine ⟨ret_val (tup2 ?_ ?_), HB⟩
  all_goals try simp only []
  all_goals rcases Decidable.em (NoCost t k n) with hn | hn
  all_goals first
    | exact (costV_no hn).symm
    | exact (costE_no hn).symm
    | exact (costE_yes hn).symm
    | (exfalso; unfold NoCost at hn; omega)
    | (rw [costV_yes hn]; try omega)
end Go.Proofs.YteigplfldhdakaaGreatDoor.Lc
/- rule: Make. -/
namespace Go.Proofs.YteigplfldhdakaaGreatDoor
open Go.RowKit Go.Shelf
attribute [local go_sem ↓] Go.wp_at_zero Go.wp_at_succ
/-- v is a slice of rules: these -/
def RuS (w : World) (v : Value) (R : List Blk) : Prop := SL w 35 3 v R.length (R.flatMap blkC)
theorem RuS.below {w W : World} {v : Value} {L : List Blk} (h : RuS w v L) (hb : Below w.heap.size w W) : RuS W v L := SL.keep h fun k hk => hb.block k (SL.lt h k hk)
theorem info35 : (Tryz.prog.info? 35).map (fun i => (i.zero, i.size, i.bytes)) = some (some (.agg #[.string ⟨#[]⟩, .string ⟨#[]⟩, .int .i64 0]), 3, 40) := by kernel_rfl
noncomputable def ruleOf (t k : Int) (b : Blk) : Blk := (b.1, b.2.1, Lc.costV t k b.2.2)
noncomputable def makeG (t k least : Int) (M : List Blk) : List Blk := (M.filter fun b => decide (least ≤ b.2.2)).map (ruleOf t k)
noncomputable def makeR (M : List Blk) (least : Int) : List Blk := makeG (totB M) M.length least M
theorem makeG_take {t k least : Int} {M : List Blk} {j : Nat} (hj : j < M.length) : makeG t k least (M.take (j + 1)) = makeG t k least (M.take j) ++ if least ≤ M[j].2.2 then [ruleOf t k M[j]] else [] := by
  unfold makeG
  rw [List.take_add_one, List.getElem?_eq_getElem hj, List.filter_append, List.map_append]
  congr 1
  simp only [Option.toList, List.filter_cons, List.filter_nil]
  by_cases h : least ≤ M[j].2.2 <;> simp [h]
theorem makeG_len (t k least : Int) (M : List Blk) : (makeG t k least M).length ≤ M.length := by
  unfold makeG
  rw [List.length_map]
  exact List.length_filter_le _ _
/-- what Make hands back -/
def MakeP (M : List Blk) (least : Int) (w : World) (e : Ending) (w' : World) : Prop :=
  Below w.heap.size w w' ∧ ((chkC M ≠ 0 ∧ e = .returned (.tuple #[.slice none 0 0, .int .i64 (chkC M)])) ∨
    (chkC M = 0 ∧ (least < 1 ∨ 1073741824 < least) ∧ e = .returned (.tuple #[.slice none 0 0, .int .i64 2])) ∨
    (chkC M = 0 ∧ 1 ≤ least ∧ least ≤ 1073741824 ∧ ∃ A c, e = .returned (.tuple #[.slice A (makeR M least).length c, .int .i64 0]) ∧ RuS w' (.slice A (makeR M least).length c) (makeR M least) ∧
      ∀ k, (Value.slice A (makeR M least).length c).ownBlock = some k → w.heap.size ≤ k))
set_option maxRecDepth 100000 in
set_option maxHeartbeats 4000000 in
theorem make_c {w : World} {v : Value} {M : List Blk} (h : BlS w v M) (hM : ∀ b ∈ M, smallB b) (hT : Tab w) (hl : M.length ≤ 100000000) (least : Int) (hlm : -9223372036854775808 ≤ least ∧ least ≤ 9223372036854775807) : Calls Tryz.prog 10 #[v, .int .i64 least] w (MakeP M least w) := by
  have htot := total_c h hM hT (by omega)
  obtain ⟨A, c, rfl, hc⟩ := SL.form h
  have HS := hid h
  by_cases hq : chkC M = 0
  · obtain ⟨h1, h2, ⟨s, hs⟩, h4⟩ := chkC_zero hq
    have hpos : posC M := fun b hb => ((chkB_iff b).1 (eachB_all h1 b hb)).2.1
    have hsv := sumG_some hs
    have hE : totE M = (s, 0) := by rw [totE, if_pos hq, hs]; rfl
    have hst : s = totB M := by omega
    have hs2 : s ≤ 1073741824 := hsv.2 (by omega)
    have hs0 : 0 ≤ s := by rw [hst]; exact totB_nonneg hpos
    rw [hE] at htot
    dsimp only at htot
    have HTO := hid htot
    have HQ := hid hq
    have HPOS := hid hpos
    have HST := hid hst
    clear htot hE hq hpos hsv hst h1 h2 hs
    by_cases hl1 : least < 1
    · go_enter Tryz.func10, Tryz.ntmps10
      go_wp2_with (go_at_call 11; refine HTO.out.mono ?_; rintro e w1 ⟨rfl, hb1⟩; have HB1 := hid hb1; clear hb1)
      go_ret2
      exact ⟨HB1.out, .inr (.inl ⟨HQ.out, .inl hl1, rfl⟩)⟩
    · by_cases hl2 : 1073741824 < least
      · go_enter Tryz.func10, Tryz.ntmps10
        go_wp2_with (go_at_call 11; refine HTO.out.mono ?_; rintro e w1 ⟨rfl, hb1⟩; have HB1 := hid hb1; clear hb1)
        go_ret2
        exact ⟨HB1.out, .inr (.inl ⟨HQ.out, .inr hl2, rfl⟩)⟩
      · have HMR : Hid (∀ k, makeG s M.length least (M.take k) = makeG (totB M) M.length least (M.take k)) := hid (fun k => by rw [HST.out])
        go_enter Tryz.func10, Tryz.ntmps10
        go_wp2_with (go_at_call 11; refine HTO.out.mono ?_; rintro e w1 ⟨rfl, hb1⟩; have HB1 := hid hb1; clear hb1)
        go_loopw [8, 31] (fun ov iv wr => ∃ (k : Nat) (A' : Option Addr) (c' : Nat) (R : List Blk), k ≤ M.length ∧ iv = .int .i64 (k : Int) ∧ ov = .slice A' R.length c' ∧ Hid (R = makeG s M.length least (M.take k)) ∧ R.length ≤ k ∧ Hid (RuS wr (.slice A' R.length c') R) ∧ Hid (∀ b, (Value.slice A' R.length c').ownBlock = some b → w.heap.size ≤ b) ∧ Hid (Below w.heap.size w wr)) (fun ov iv _ => M.length - (intOf iv).toNat)
        case atStart => exact ⟨0, none, 0, [], Nat.zero_le _, rfl, rfl, hid rfl, Nat.le_refl _, hid (SL.nil _ _ _), hid (fun b hb => by simp [Value.ownBlock] at hb), HB1⟩
        case round =>
          obtain ⟨k, A', c', R, hk, rfl, rfl, HR, hRl, HRS, HOW, HB⟩ := hrel
          by_cases hkl : k < M.length
          · have hkl2 : (k : Int) < (M.length : Int) := by omega
            obtain ⟨g, off, rfl, hgl, k0, k1, k2⟩ := BlS.at3 (HS.out.below HB.out) hkl
            have hmk := makeG_take (t := s) (k := M.length) (least := least) hkl
            have hmem := List.getElem_mem hkl
            obtain ⟨b, hbb⟩ : ∃ b, M[k] = b := ⟨_, rfl⟩
            obtain ⟨f, t, m⟩ := b
            rw [hbb] at k0 k1 k2 hmk hmem
            rw [← HR.out] at hmk
            dsimp only at k0 k1 k2 hmk
            have hm1 : 1 ≤ m := HPOS.out _ hmem
            have hm2 : m ≤ s := by rw [HST.out]; exact le_totB HPOS.out _ hmem
            clear hbb hmem
            by_cases hml : m < least
            · have HMK : Hid (makeG s M.length least (M.take (k + 1)) = R) := hid (by rw [hmk, if_neg (by omega)]; simp)
              clear hmk
              go_wp2
              exact ⟨⟨k + 1, A', c', R, by omega, by simp, rfl, hid HMK.out.symm, by omega, hid (HRS.out.below (balloc (Below.refl _ wr) _)), HOW, hid (balloc HB.out _)⟩, by simp [intOf]; omega⟩
            · have HMK : Hid (makeG s M.length least (M.take (k + 1)) = R ++ [ruleOf s M.length (f, t, m)]) := hid (by rw [hmk, if_pos (by omega)])
              clear hmk
              have hcst := Lc.cost_any s M.length m
              have hce : Lc.costE s M.length m = 0 := by
                have hno : ¬ Lc.NoCost s M.length m := by unfold Lc.NoCost; omega
                rw [Lc.costE_yes hno, Lc.ratioE_yes (by unfold Lc.NoRatio; omega)]
              have hru : ruleOf s M.length (f, t, m) = (f, t, Lc.costV s M.length m) := rfl
              obtain ⟨cv, hcv⟩ : ∃ cv, Lc.costV s M.length m = cv := ⟨_, rfl⟩
              rw [hce] at hcst
              rw [hcv] at hcst hru
              rw [hru] at HMK
              have HCS := hid hcst
              obtain ⟨i0, hi, hz0, hz1, hz2⟩ := info_parts info35
              have hone : ∀ u ∈ [Value.string f, Value.string t, Value.int IntKind.i64 cv], u.oneCell' = true := by simp [Value.oneCell']
              have h63 : R.length + 1 ≤ maxLen := by simp only [maxLen]; omega
              have hby : (R.length + 1) * 40 ≤ 140737488355328 := by omega
              clear hcst hce hru hcv
              go_wp2_with (first
                | (go_at_call 26; refine (HCS.out _).mono ?_; rintro e w2 ⟨rfl, hb2⟩; have HBX := hid (bthen (balloc (Below.refl _ wr) _) hb2); have hxb := (hb2.block wr.heap.size (by simp)).trans (heap_alloc_new wr _); obtain ⟨x0, x1, x2, -, -, -⟩ := row3 hxb; have HR2 := hid (HRS.out.below HBX.out); have HLIT := hid (SL.lit w2 35 3 1 #[Value.string f, Value.string t, Value.int IntKind.i64 cv] rfl (by simp [maxLen])); clear hb2 hxb)
                | (at_builtin; refine wpList_append_SLs rfl _ _ _ rfl 35 i0 _ 3 40 Tryz.underlying29 hi hz0 hz1 hz2 rfl (by decide) (.slice A' R.length c') R.length (R.flatMap blkC) rfl (SL.alloc HR2.out _) _ 1 [Value.string f, Value.string t, Value.int IntKind.i64 cv] rfl HLIT.out hone (R.length + 1) _ rfl rfl h63 hby ?_; intro A2 c2 w3 hs2 hg2 ho2; have HS2 := hid hs2; have HG2 := hid hg2; have HO2 := hid ho2; clear hs2 hg2 ho2))
              have e1 : (makeG s M.length least (M.take (k + 1))).length = R.length + 1 := by rw [HMK.out]; simp
              refine ⟨⟨k + 1, A2, c2, makeG s M.length least (M.take (k + 1)), by omega, by simp, by rw [e1], hid rfl, by omega, hid ?_, hid (fun b hb => ?_), hid ?_⟩, by simp [intOf]; omega⟩
              · unfold RuS
                rw [e1, HMK.out, List.flatMap_append]
                exact HS2.out
              · rw [e1] at hb
                rcases HO2.out b hb with h1 | h1
                · exact HOW.out b h1
                · have := HBX.out.size
                  have := HB.out.size
                  rw [World.size_alloc] at h1
                  omega
              · exact (Touch.grown (F := fun k => (Value.slice A' R.length c').ownBlock = some k) (((Touch.of_below HBX.out (Nat.le_refl _)).mono (fun _ h => h.elim)).alloc _) HG2.out (fun k hk => .inl hk)).below HB.out (fun b hb => HOW.out b hb)
          · obtain rfl : k = M.length := by omega
            have hkl2 : ¬ (M.length : Int) < (M.length : Int) := by omega
            have hR2 : R = makeR M least := by have := HR.out; rw [HMR.out, List.take_length] at this; exact this
            subst hR2
            go_wp2
            go_ret2
            exact ⟨HB.out, .inr (.inr ⟨HQ.out, by omega, by omega, A', c', rfl, HRS.out, HOW.out⟩)⟩
  · have hE : totE M = (0, chkC M) := by rw [totE, if_neg hq]
    rw [hE] at htot
    obtain ⟨q, hqq⟩ : ∃ q, chkC M = q := ⟨_, rfl⟩
    rw [hqq] at htot hq
    have HQ := hid hqq
    have HN := hid hq
    have hqb : (q != 0) = true := by rw [bne_iff_ne]; exact hq
    have HTO := hid htot
    clear htot hE hqq
    go_enter Tryz.func10, Tryz.ntmps10
    go_wp2_with (go_at_call 11; refine HTO.out.mono ?_; rintro e w1 ⟨rfl, hb1⟩; have HB1 := hid hb1; clear hb1)
    go_ret2
    exact ⟨HB1.out, .inl ⟨by rw [HQ.out]; exact HN.out, by rw [HQ.out]; rfl⟩⟩
/- erratatop: great. -/
/-- v is a slice of texts: these; wherever it came from -/
def TxS (W : World) (v : Value) (L : List ByteArray) : Prop :=
  ∃ a c, v = .slice a L.length c ∧ ∀ k (hk : k < L.length), ∃ x, a = some x ∧ x.block < W.heap.size ∧ W.cell? (x.add k) = some (.string L[k])
theorem TxS.below {w W : World} {v : Value} {L : List ByteArray} (h : TxS w v L) (hb : Below w.heap.size w W) : TxS W v L := by
  obtain ⟨a, c, hv, h⟩ := h
  refine ⟨a, c, hv, fun k hk => ?_⟩
  obtain ⟨x, hx, hl, hp⟩ := h k hk
  exact ⟨x, hx, Nat.lt_of_lt_of_le hl hb.size, (World.cell?_of_block (a := x.add k) (by rw [add_block]; exact hb.block x.block hl)).trans hp⟩
theorem TxS.nil (w : World) : TxS w (.slice none 0 0) [] := ⟨none, 0, rfl, fun k hk => by simp at hk⟩
def lenP : List (ByteArray × ByteArray) → Int
  | [] => 0
  | x :: r => (x.1.size : Int) + (x.2.size : Int) + lenP r
def lenS : List ByteArray → Int
  | [] => 0
  | x :: r => (x.size : Int) + lenS r
theorem lenP_take {L : List (ByteArray × ByteArray)} {k : Nat} (hk : k < L.length) : lenP (L.take (k + 1)) = lenP (L.take k) + ((L[k].1.size : Int) + (L[k].2.size : Int)) := by
  induction L generalizing k with
  | nil => simp at hk
  | cons x r ih =>
    cases k with
    | zero => simp [lenP]
    | succ k =>
      simp only [List.take_succ_cons, lenP, List.getElem_cons_succ]
      rw [ih (by simpa using hk)]
      omega
theorem lenS_take {L : List ByteArray} {k : Nat} (hk : k < L.length) : lenS (L.take (k + 1)) = lenS (L.take k) + (L[k].size : Int) := by
  induction L generalizing k with
  | nil => simp at hk
  | cons x r ih =>
    cases k with
    | zero => simp [lenS]
    | succ k =>
      simp only [List.take_succ_cons, lenS, List.getElem_cons_succ]
      rw [ih (by simpa using hk)]
      omega
def greatB (L : List (ByteArray × ByteArray)) (l2 : List ByteArray) : Bool := decide (1000 < lenP L + lenS l2) || decide (30 < L.length)
set_option maxRecDepth 100000 in
set_option maxHeartbeats 4000000 in
theorem great_c {w : World} {v v2 : Value} {L : List (ByteArray × ByteArray)} {l2 : List ByteArray} (h : PrS w v L) (hs : smallP L) (h2 : TxS w v2 l2) (hs2 : ∀ s ∈ l2, s.size ≤ 1048576) (hl : L.length ≤ 1000000000) (hl2 : l2.length ≤ 1000000000) :
    Calls Tryz.prog 9 #[v, .slice none 0 0, v2] w fun e w' => e = .returned (.bool (greatB L l2)) ∧ Below w.heap.size w w' := by
  have HS := hid h
  have HS2 := hid h2
  have HSM := hid hs
  have HSM2 := hid hs2
  obtain ⟨a, c, rfl, -⟩ := h
  obtain ⟨a2, c2, rfl, -⟩ := h2
  clear hs hs2
  go_enter Tryz.func9, Tryz.ntmps9
  go_wp2
  go_loopw [7, 16] (fun nv iv wr => ∃ (k : Nat) (n : Int), k ≤ L.length ∧ iv = .int .i64 (k : Int) ∧ nv = .int .i64 n ∧ 0 ≤ n ∧ n ≤ (k : Int) * 2097152 ∧ Hid (n = lenP (L.take k)) ∧ Hid (Below w.heap.size w wr)) (fun nv iv _ => L.length - (intOf iv).toNat)
  case atStart => exact ⟨0, 0, Nat.zero_le _, rfl, rfl, by omega, by omega, hid rfl, hid (Below.refl _ _)⟩
  case round =>
    obtain ⟨k, n, hk, rfl, rfl, hn0, hn1, HN, HB⟩ := hrel
    by_cases hkl : k < L.length
    · have hkl2 : (k : Int) < (L.length : Int) := by omega
      obtain ⟨a', c', hv, hp2⟩ := HS.out.below HB.out
      cases hv
      obtain ⟨x, rfl, hxl, q0, q1⟩ := hp2 k hkl
      have hsm := HSM.out _ (List.getElem_mem hkl)
      have htk := lenP_take hkl
      rw [← HN.out] at htk
      obtain ⟨y, hy⟩ : ∃ y, L[k] = y := ⟨_, rfl⟩
      obtain ⟨f, t⟩ := y
      rw [hy] at q0 q1 hsm htk
      dsimp only at q0 q1 hsm htk
      obtain ⟨ad, had⟩ : ∃ ad, x.add (k * 2) = ad := ⟨_, rfl⟩
      rw [had] at q0 q1
      have HTK := hid htk
      have hw1 : IntKind.i64.wrap ((f.size : Int) + (t.size : Int)) = (f.size : Int) + (t.size : Int) := by rw [IntKind.wrap_i64]; omega
      have hw2 : IntKind.i64.wrap (n + ((f.size : Int) + (t.size : Int))) = n + ((f.size : Int) + (t.size : Int)) := by rw [IntKind.wrap_i64]; omega
      clear hp2 hy htk
      go_wp2
      exact ⟨⟨k + 1, n + ((f.size : Int) + (t.size : Int)), by omega, by simp, by simp, by omega, by omega, hid HTK.out.symm, hid (balloc HB.out _)⟩, by simp [intOf]; omega⟩
    · obtain rfl : k = L.length := by omega
      have hkl2 : ¬ (L.length : Int) < (L.length : Int) := by omega
      rw [List.take_length] at HN
      go_wp2
      go_loopw [7, 32] (fun nv iv wq => nv = .int .i64 n ∧ iv = .int .i64 0 ∧ Hid (Below w.heap.size w wq)) (fun _ _ _ => 0)
      case atStart => exact ⟨rfl, rfl, HB⟩
      case round =>
        obtain ⟨rfl, rfl, HB2⟩ := hrel
        clear HB
        go_wp2
        go_loopw [7, 44] (fun nv iv wq => ∃ (k : Nat) (m : Int), k ≤ l2.length ∧ iv = .int .i64 (k : Int) ∧ nv = .int .i64 m ∧ 0 ≤ m ∧ m ≤ n + (k : Int) * 1048576 ∧ Hid (m = n + lenS (l2.take k)) ∧ Hid (Below w.heap.size w wq)) (fun nv iv _ => l2.length - (intOf iv).toNat)
        case atStart => exact ⟨0, n, Nat.zero_le _, rfl, rfl, by omega, by omega, hid (by simp [lenS]), HB2⟩
        case round =>
          obtain ⟨j, m, hj, rfl, rfl, hm0, hm1, HM, HB3⟩ := hrel
          clear HB2
          by_cases hjl : j < l2.length
          · have hjl2 : (j : Int) < (l2.length : Int) := by omega
            obtain ⟨a', c', hv, hp2⟩ := HS2.out.below HB3.out
            cases hv
            obtain ⟨x, rfl, hxl, q0⟩ := hp2 j hjl
            have hsm := HSM2.out _ (List.getElem_mem hjl)
            have htk := lenS_take hjl
            obtain ⟨y, hy⟩ : ∃ y, l2[j] = y := ⟨_, rfl⟩
            rw [hy] at q0 hsm htk
            obtain ⟨ad, had⟩ : ∃ ad, x.add j = ad := ⟨_, rfl⟩
            rw [had] at q0
            have HTK : Hid (m + (y.size : Int) = n + lenS (l2.take (j + 1))) := hid (by rw [htk, HM.out]; omega)
            have hw1 : IntKind.i64.wrap (m + (y.size : Int)) = m + (y.size : Int) := by rw [IntKind.wrap_i64]; omega
            clear hp2 hy htk
            go_wp2
            exact ⟨⟨j + 1, m + (y.size : Int), by omega, by simp, by simp, by omega, by omega, HTK, HB3⟩, by simp [intOf]; omega⟩
          · obtain rfl : j = l2.length := by omega
            have hjl2 : ¬ (l2.length : Int) < (l2.length : Int) := by omega
            have hE : greatB L l2 = (decide (1000 < m) || decide (30 < L.length)) := by
              have := HM.out
              rw [List.take_length, HN.out] at this
              rw [greatB, ← this]
            have HE := hid hE
            clear hE
            by_cases h1 : 1000 < m
            · have HE2 : Hid (greatB L l2 = true) := hid (by rw [HE.out]; simp [h1])
              go_wp2
              go_ret
              exact ⟨by rw [HE2.out]; rfl, HB3.out⟩
            · by_cases h3 : 30 < L.length
              · have h3i : (30 : Int) < (L.length : Int) := by omega
                have HE2 : Hid (greatB L l2 = true) := hid (by rw [HE.out]; simp [h3])
                go_wp2
                go_ret
                exact ⟨by rw [HE2.out]; rfl, HB3.out⟩
              · have h3i : ¬ (30 : Int) < (L.length : Int) := by omega
                have HE2 : Hid (greatB L l2 = false) := hid (by rw [HE.out]; simp [h1, h3])
                go_wp2
                go_ret
                exact ⟨by rw [HE2.out]; rfl, HB3.out⟩
end Go.Proofs.YteigplfldhdakaaGreatDoor
