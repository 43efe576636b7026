/- The walks of logcost's square, and of the two functions of math/bits that it calls. -/
import Derived.Test.YtechbpcbccjppaaLogB
import Derived.Laws.Externs
import Derived.Laws.MathBits
namespace Go.Proofs.Ytechbpcbccjppaa
open Go.RowKit
theorem add64_call (x y : Int) (hx : 0 ≤ x) (hy : 0 ≤ y) (w : World) : (callFunc 24 #[.int .u64 x, .int .u64 y, .int .u64 0]).run Try.prog w = .ok (.value (.tuple #[.int .u64 (sumL x y), .int .u64 (sumH x y)])) w := by
  rw [run_callFunc_extern Try.func24 (by kernel_rfl) (by kernel_rfl) (by kernel_rfl) (e := add64Entry) (by kernel_rfl), run_add64 x y 0 hx hy (by omega) (by omega)]
  simp only [Result.andThen, sumL, sumH, Int.add_zero]
set_option maxRecDepth 100000 in
set_option maxHeartbeats 400000 in
theorem mul64_any (x y : Int) (hx : 0 ≤ x ∧ x < B64) (hy : 0 ≤ y ∧ y < B64) (w : World) :
    Calls Try.prog 23 #[.int .u64 x, .int .u64 y] w fun e w' => e = .returned (.tuple #[.int .u64 (hiP x y), .int .u64 (loP x y)]) ∧ w = w' := by
  have hx1 : 0 ≤ x := hx.1
  have hy1 : 0 ≤ y := hy.1
  have HX := hid hx
  have HY := hid hy
  clear hx hy
  go_enter Try.func23, Try.ntmps23
  go_wp2
  go_ret2
  have h := mul64_arith x y HX.out.1 HX.out.2 HY.out.1 HY.out.2
  have hm : ∀ z : Int, 0 ≤ z → z < 18446744073709551616 → bits BinOp.and IntKind.u64 z 4294967295 = z % 4294967296 := fun z h0 h1 => bits_mask .u64 64 (by decide) (fun n h0 h1 => by show n % 18446744073709551616 = n; omega) 32 (by decide) z h0 h1
  have e1 := hm x HX.out.1 HX.out.2
  have e2 := hm y HY.out.1 HY.out.2
  have hw : ∀ z : Int, IntKind.u64.wrap z = z % 18446744073709551616 := fun _ => rfl
  refine ⟨ret_val ?_, rfl⟩
  refine congrArg (fun a => Value.tuple #[Value.int .u64 a, Value.int .u64 (x * y % 18446744073709551616)]) ?_
  rw [e1, e2, hm _ (by simp only [hw]; omega) (by simp only [hw]; omega)]
  simp only [hw]
  exact h
set_option maxRecDepth 100000 in
set_option maxHeartbeats 1000000 in
theorem square_any (xs : List Int) (hx : InR B64 xs) (w : World) :
    Calls Try.prog 19 #[.agg (nums .u64 xs).toArray] w fun e w' => ∃ ys : List Int, e = .returned (.agg (nums .u64 ys).toArray) ∧ SqOut xs 9 ys ∧ Below w.heap.size w w' := by
  obtain ⟨W, hW⟩ : ∃ W, (w.alloc (Obj.cells (nums IntKind.u64 xs).toArray 43)).alloc (Obj.cells #[.int .u64 0, .int .u64 0, .int .u64 0, .int .u64 0, .int .u64 0, .int .u64 0, .int .u64 0, .int .u64 0, .int .u64 0] 43) = W := ⟨_, rfl⟩
  have hB : Below w.heap.size w W := by rw [← hW]; exact balloc (balloc (Below.refl _ w) _) _
  have bx : Blk W w.heap.size .u64 43 xs := by rw [← hW]; exact (Blk.new w _ _ _).alloc _
  have by_ : Blk W (w.heap.size + 1) .u64 43 (List.replicate 9 0) := by rw [← hW]; have := Blk.new (w.alloc (Obj.cells (nums IntKind.u64 xs).toArray 43)) .u64 43 (List.replicate 9 0); rwa [World.size_alloc] at this
  have HW := hid hW
  have bx0 : Hid (Blk ((w.alloc (Obj.cells (nums IntKind.u64 xs).toArray 43)).alloc (Obj.cells #[.int .u64 0, .int .u64 0, .int .u64 0, .int .u64 0, .int .u64 0, .int .u64 0, .int .u64 0, .int .u64 0, .int .u64 0] 43)) w.heap.size .u64 43 xs) := by rw [hW]; exact bx
  have hx9 : 9 ≤ xs.length := by rw [hx.1]; omega
  have HX := hid hx
  have hinf : (Try.prog.info? 43).map (·.size) = some xs.length := by rw [hx.1]; kernel_rfl
  have hidx := run_index_row xs hx.1
  clear hW hx
  go_enter Try.func19, Try.ntmps19
  go_wp2_with (refine load_row rfl 43 _ rfl _ rfl bx0.out Try.underlying43 hinf ?_)
  rw [HW.out]
  clear HW bx0
  go_loopw [11] (fun iv wr => ∃ (i : Nat) (ys : List Int), i ≤ 9 ∧ iv = .int .i64 (i : Int) ∧ Hid (SqOut xs i ys) ∧ Blk wr w.heap.size .u64 43 xs ∧ Blk wr (w.heap.size + 1) .u64 43 ys ∧ Below w.heap.size w wr) (fun i _ => 9 - (intOf i).toNat)
  case atStart => exact ⟨0, List.replicate 9 0, by omega, rfl, hid (sqOut_zero xs), bx, by_, hB⟩
  case round =>
    obtain ⟨i, ys, hi, rfl, hq, hbx, hby, hBw⟩ := hrel
    clear bx by_ hB
    by_cases h9 : i < 9
    · have hidk := hidx i h9
      have hd9 : decide ((i : Int) < 9) = true := by simp; omega
      clear hidx
      go_wp2
      go_loopw [17, 5] (fun kv cv wq => ∃ (k : Nat) (c : Int) (zs : List Int), i + k ≤ 9 ∧ kv = .int .i64 (k : Int) ∧ cv = .int .u64 c ∧ Hid (SqIn xs i k zs c) ∧ Blk wq w.heap.size .u64 43 xs ∧ Blk wq (w.heap.size + 1) .u64 43 zs ∧ Below w.heap.size w wq) (fun k _ _ => 9 - (intOf k).toNat)
      case atStart => exact ⟨0, 0, ys, by omega, rfl, rfl, hid (sqIn_zero hq.out), hbx, hby, hBw⟩
      case round =>
        obtain ⟨k, c, zs, hk, rfl, rfl, hqi, hcx, hcz, hBq⟩ := hrel
        clear hbx hby hBw
        by_cases hk9 : i + k < 9
        · have hc1 := hcx.cell k (by omega)
          have hz9 : 9 ≤ zs.length := by rw [hqi.out.1.1]; omega
          have hc2 := hcz.cell (i + k) (by omega)
          have hf2 := hcz.frozen (i + k)
          have d1 := HX.out.2 i
          have d2 := HX.out.2 k
          have d3 := hqi.out.1.2 (i + k)
          have hlo : 0 ≤ loP (dg xs i) (dg xs k) := by unfold loP; omega
          have hs1 : 0 ≤ sumL (loP (dg xs i) (dg xs k)) c := by unfold sumL; omega
          have ha1 := add64_call (loP (dg xs i) (dg xs k)) c hlo hqi.out.2.1
          have ha2 := add64_call (dg zs (i + k)) (sumL (loP (dg xs i) (dg xs k)) c) d3.1 hs1
          have D1 := hid d1
          have D2 := hid d2
          have HC := hid hcx
          have HZ := hid hcz
          clear hlo hs1 d1 d2 d3 hcx hcz hx9 hinf hz9
          go_wp2_with (go_at_call 23; refine (mul64_any _ _ D1.out D2.out _).mono ?_; rintro e w' ⟨rfl, rfl⟩)
          go_roundw
          case rel => exact ⟨k + 1, sqCarry (dg zs (i + k)) (hiP (dg xs i) (dg xs k)) (loP (dg xs i) (dg xs k)) c, zs.set (i + k) (sqNew (dg zs (i + k)) (loP (dg xs i) (dg xs k)) c), by omega, by go_num, rfl, hid (sqIn_next HX.out hk9 hqi.out), HC.out.far (by simp) _, HZ.out.set_ _ _, hBq.setCell (by simp) _⟩
          case measure => simp [intOf]; omega
        · go_wp2
          obtain rfl : k = 9 - i := by omega
          go_roundw
          case rel => exact ⟨i + 1, zs, by omega, by go_num, hid (sqOut_next h9 hqi.out), hcx, hcz, hBq⟩
          case measure => simp [intOf]; omega
    · obtain rfl : i = 9 := by omega
      have hinf2 : Hid ((Try.prog.info? 43).map (·.size) = some ys.length) := by rw [hq.out.1.1]; exact hid (by kernel_rfl)
      have HB := hid hby
      clear hidx hby
      go_wp2_with (first | (refine load_row rfl 43 _ rfl _ rfl HB.out Try.underlying43 hinf2.out ?_) | (refine store_row rfl 43 _ _ rfl _ rfl rfl HB.out rfl hinf2.out ?_; rintro W' hW'; have HW' := hid hW'; clear hW'))
      have hb2 : Blk W' (w.heap.size + 1) .u64 43 ys := by rw [HW'.out]; exact HB.out.row ys
      have hB2 : Below w.heap.size w W' := by rw [HW'.out]; exact below_setRow hBw (by omega) _
      refine bodyPost_ret (v := .agg (nums .u64 ys).toArray) (results_cell_row rfl _ _ _ 43 _ (0, 0) _ rfl hb2 Try.underlying43 rfl (by rw [hinf2.out]; simp [nums])) rfl ?_
      exact ⟨ys, rfl, hq.out, hB2⟩
end Go.Proofs.Ytechbpcbccjppaa
