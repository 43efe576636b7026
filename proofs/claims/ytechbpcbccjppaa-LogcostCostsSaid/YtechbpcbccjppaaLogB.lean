/- The walks of logcost's wide numbers: less, double. -/
import Derived.Test.YtechbpcbccjppaaLogM
import Derived.Outline
namespace Go.Proofs.Ytechbpcbccjppaa
open Go.RowKit
set_option maxRecDepth 100000 in
set_option maxHeartbeats 400000 in
theorem less_any (xs ys : List Int) (hx : xs.length = 9) (hy : ys.length = 9) (w : World) :
    Calls Try.prog 18 #[.agg (nums .u64 xs).toArray, .agg (nums .u64 ys).toArray] w fun e w' => e = .returned (.bool (lessTo xs ys 9)) ∧ Below w.heap.size w w' := by
  obtain ⟨W, hW⟩ : ∃ W, (w.alloc (Obj.cells (nums IntKind.u64 xs).toArray 43)).alloc (Obj.cells (nums IntKind.u64 ys).toArray 43) = W := ⟨_, rfl⟩
  have hB : Below w.heap.size w W := by rw [← hW]; exact balloc (balloc (Below.refl _ w) _) _
  have bx : Blk W w.heap.size .u64 43 xs := by rw [← hW]; exact (Blk.new w _ _ _).alloc _
  have by_ : Blk W (w.heap.size + 1) .u64 43 ys := by rw [← hW]; have := Blk.new (w.alloc (Obj.cells (nums IntKind.u64 xs).toArray 43)) .u64 43 ys; rwa [World.size_alloc] at this
  have HW := hid hW
  have hx9 : 9 ≤ xs.length := by omega
  have hy9 : 9 ≤ ys.length := by omega
  clear hW hx hy
  go_enter Try.func18, Try.ntmps18
  go_wp2
  rw [HW.out]
  go_loopw [5] (fun i wr => ∃ k : Nat, k ≤ 9 ∧ i = .int .i64 ((k : Int) - 1) ∧ Hid (lessTo xs ys 9 = lessTo xs ys k) ∧ Hid (∃ n, wr = W.drewN n)) (fun i _ => (intOf i + 1).toNat)
  case atStart => exact ⟨9, Nat.le_refl _, rfl, hid rfl, hid ⟨0, rfl⟩⟩
  case round =>
    obtain ⟨k, hk, rfl, hl, hd⟩ := hrel
    obtain ⟨n, rfl⟩ := hd.out
    clear hd
    cases k with
    | zero =>
      go_wp2
      go_ret
      exact ⟨by rw [hl.out]; rfl, bdrew hB n⟩
    | succ k =>
      have hk9 : (k : Int) < 9 := by omega
      have x1 := bx.cell k (by omega)
      have y1 := by_.cell k (by omega)
      by_cases hne : dg xs k = dg ys k
      · have hb : (dg xs k != dg ys k) = false := by simp [hne]
        have hl2 : Hid (lessTo xs ys 9 = lessTo xs ys k) := by rw [hl.out]; simp only [lessTo]; rw [if_pos hne]; exact hid rfl
        clear hne hl
        go_wp2
        go_quiet (fail)
        go_wp2
        go_roundw
        case rel => exact ⟨k, by omega, rfl, hl2, hid ⟨_, rfl⟩⟩
        case measure => simp [intOf]
      · have hb : (dg xs k != dg ys k) = true := by simp [hne]
        have hl2 : Hid (lessTo xs ys 9 = decide (dg xs k < dg ys k)) := by rw [hl.out]; simp only [lessTo]; rw [if_neg hne]; exact hid rfl
        clear hne hl
        go_wp2
        go_quiet (fail)
        go_wp2
        go_quiet (fail)
        go_wp2
        go_ret
        exact ⟨ret_val (by rw [hl2.out]; rfl), bdrew (bdrew (bdrew hB _) _) _⟩

theorem dg_zeros (j : Nat) : dg (List.replicate 9 0) j = 0 := by
  unfold dg
  rw [List.getD_eq_getElem?_getD, List.getElem?_replicate]
  split <;> rfl
theorem run_index_row (xs : List Int) (hx : xs.length = 9) (k : Nat) (hk : k < 9) (w : World) : (Instr.index 43 (.agg (nums .u64 xs).toArray) (.int .i64 k)).run Try.prog w = .ok (.int .u64 (dg xs k)) w := by
  have h1 : Try.prog.underlying 43 = some (.array 9 41) := Try.underlying43
  have h2 : (nums .u64 xs)[k]? = some (.int .u64 (dg xs k)) := by have := nums_get .u64 xs k (by omega); simpa using this
  simp only [Instr.index]
  go_simp
set_option maxRecDepth 100000 in
set_option maxHeartbeats 400000 in
theorem double_any (xs : List Int) (hx : xs.length = 9) (w : World) :
    Calls Try.prog 17 #[.agg (nums .u64 xs).toArray] w fun e w' => ∃ ys : List Int, e = .returned (.agg (nums .u64 ys).toArray) ∧ ys.length = 9 ∧ (∀ j, j < 9 → dg ys j = dblD xs j) ∧ Below w.heap.size w w' := by
  obtain ⟨W, hW⟩ : ∃ W, (w.alloc (Obj.cells (nums IntKind.u64 xs).toArray 43)).alloc (Obj.cells #[.int .u64 0, .int .u64 0, .int .u64 0, .int .u64 0, .int .u64 0, .int .u64 0, .int .u64 0, .int .u64 0, .int .u64 0] 43) = W := ⟨_, rfl⟩
  have hB : Below w.heap.size w W := by rw [← hW]; exact balloc (balloc (Below.refl _ w) _) _
  have bx : Blk W w.heap.size .u64 43 xs := by rw [← hW]; exact (Blk.new w _ _ _).alloc _
  have by_ : Blk W (w.heap.size + 1) .u64 43 (List.replicate 9 0) := by rw [← hW]; have := Blk.new (w.alloc (Obj.cells (nums IntKind.u64 xs).toArray 43)) .u64 43 (List.replicate 9 0); rwa [World.size_alloc] at this
  have HW := hid hW
  have bx0 : Hid (Blk ((w.alloc (Obj.cells (nums IntKind.u64 xs).toArray 43)).alloc (Obj.cells #[.int .u64 0, .int .u64 0, .int .u64 0, .int .u64 0, .int .u64 0, .int .u64 0, .int .u64 0, .int .u64 0, .int .u64 0] 43)) w.heap.size .u64 43 xs) := by rw [hW]; exact bx
  have hx9 : 9 ≤ xs.length := by omega
  have HX := hid hx
  have hinf : (Try.prog.info? 43).map (·.size) = some xs.length := by rw [hx]; kernel_rfl
  have hidx := run_index_row xs hx
  clear hW hx
  go_enter Try.func17, Try.ntmps17
  go_wp2_with (refine load_row rfl 43 _ rfl _ rfl bx0.out Try.underlying43 hinf ?_)
  rw [HW.out]
  clear HW bx0
  go_loopw [3, 7] (fun c i wr => ∃ (k : Nat) (ys : List Int), k ≤ 9 ∧ i = .int .i64 (k : Int) ∧ c = .int .u64 (dblC xs k) ∧ ys.length = 9 ∧ Hid (∀ j, dg ys j = if j < k then dblD xs j else 0) ∧ Blk wr (w.heap.size + 1) .u64 43 ys ∧ Below w.heap.size w wr) (fun _ i _ => 9 - (intOf i).toNat)
  case atStart => exact ⟨0, List.replicate 9 0, by omega, rfl, rfl, rfl, hid (fun j => by rw [dg_zeros]; simp), by_, hB⟩
  case round =>
    obtain ⟨k, ys, hk, rfl, rfl, hl, hd, hb, hBw⟩ := hrel
    clear by_ hB
    have hinf2 : Hid ((Try.prog.info? 43).map (·.size) = some ys.length) := by rw [hl]; exact hid (by kernel_rfl)
    by_cases h9 : k < 9
    · have hidk := hidx k h9
      have hc := hb.cell k (by omega)
      have hf := hb.frozen k
      have HB := hid hb
      have HL := hid hl
      clear hidx hb hl
      go_wp2
      go_roundw
      case rel => exact ⟨k + 1, ys.set k (dblD xs k), by omega, by go_num, rfl, by simp [HL.out], hid (fun j => by rw [dg_set, hd.out j, HL.out]; grind), HB.out.set_ k _, hBw.setCell (by simp) _⟩
      case measure => simp [intOf]; omega
    · obtain rfl : k = 9 := by omega
      have HB := hid hb
      have HL := hid hl
      clear hidx hb hl
      go_wp2_with (first | (refine load_row rfl 43 _ rfl _ rfl HB.out Try.underlying43 hinf2.out ?_) | (refine store_row rfl 43 _ _ rfl _ rfl rfl HB.out rfl hinf2.out ?_; rintro W' hW'; have HW' := hid hW'; clear hW'))
      have hb2 : Blk W' (w.heap.size + 1) .u64 43 ys := by rw [HW'.out]; exact HB.out.row ys
      have hB2 : Below w.heap.size w W' := by rw [HW'.out]; exact below_setRow hBw (by omega) _
      refine bodyPost_ret (v := .agg (nums .u64 ys).toArray) (results_cell_row rfl _ _ _ 43 _ (0, 0) _ rfl hb2 Try.underlying43 rfl (by rw [hinf2.out]; simp [nums])) rfl ?_
      exact ⟨ys, rfl, HL.out, fun j hj => by rw [hd.out, if_pos hj], hB2⟩
end Go.Proofs.Ytechbpcbccjppaa
