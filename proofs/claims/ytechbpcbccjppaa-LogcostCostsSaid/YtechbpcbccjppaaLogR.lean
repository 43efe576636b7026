/- The walk of logcost.Ratio. -/
import Derived.Test.YtechbpcbccjppaaLogC
import Derived.Test.YtechbpcbccjppaaLogN
import Derived.Deep.RegionWith
import Derived.Deep.DeepCutAuto
import Derived.Deep.CutBlock
namespace Go.Proofs.Ytechbpcbccjppaa
open Go.RowKit
set_option maxRecDepth 100000 in
set_option maxHeartbeats 1000000 in
theorem ratio_no (a b : Int) (w : World) (h : b < 1 ∨ a < b ∨ 2147483648 < a) :
    Calls Try.prog 11 #[.int .i64 a, .int .i64 b] w fun e w' => e = .returned (.tuple #[.int .i64 0, .int .i64 2]) ∧ Below w.heap.size w w' := by
  by_cases h1 : b < 1
  · clear h
    go_enter Try.func11, Try.ntmps11
    go_wp2
    go_step3
    go_wp2
    try rw [Exit.noGoto_ret]
    go_ret2
    exact ⟨rfl, Below.refl _ _⟩
  · by_cases h2 : a < b
    · clear h
      go_enter Try.func11, Try.ntmps11
      go_wp2
      go_step3
      go_wp2
      try rw [Exit.noGoto_ret]
      go_ret2
      exact ⟨rfl, Below.refl _ _⟩
    · have h3 : 2147483648 < a := by omega
      clear h
      go_enter Try.func11, Try.ntmps11
      go_wp2
      go_step3
      go_wp2
      try rw [Exit.noGoto_ret]
      go_ret2
      exact ⟨rfl, Below.refl _ _⟩
def RatioPost (a b : Int) (w : World) (e : Ending) (w' : World) : Prop := ∃ k : Int, IsRatio a b k ∧ e = .returned (.tuple #[.int .i64 k, .int .i64 0]) ∧ Below w.heap.size w w'
theorem info9 {xs : List Int} (h : xs.length = 9) : (Try.prog.info? 43).map (·.size) = some xs.length := by rw [h]; kernel_rfl
set_option maxRecDepth 100000 in
set_option maxHeartbeats 1000000 in
theorem ratio_yes (a b : Int) (w : World) (h1 : 1 ≤ b) (h2 : b ≤ a) (h3 : a ≤ 2147483648) :
    Calls Try.prog 11 #[.int .i64 a, .int .i64 b] w (RatioPost a b w) := by
  obtain ⟨W, hW⟩ : ∃ W, (w.alloc (Obj.cells #[.int .u64 a, .int .u64 0, .int .u64 0, .int .u64 0, .int .u64 0, .int .u64 0, .int .u64 0, .int .u64 0, .int .u64 0] 43)).alloc (Obj.cells #[.int .u64 b, .int .u64 0, .int .u64 0, .int .u64 0, .int .u64 0, .int .u64 0, .int .u64 0, .int .u64 0, .int .u64 0] 43) = W := ⟨_, rfl⟩
  have hB : Below w.heap.size w W := by rw [← hW]; exact balloc (balloc (Below.refl _ w) _) _
  have bx : Blk W w.heap.size .u64 43 [a, 0, 0, 0, 0, 0, 0, 0, 0] := by rw [← hW]; exact (Blk.new w .u64 43 [a, 0, 0, 0, 0, 0, 0, 0, 0]).alloc _
  have by_ : Blk W (w.heap.size + 1) .u64 43 [b, 0, 0, 0, 0, 0, 0, 0, 0] := by rw [← hW]; have := Blk.new (w.alloc (Obj.cells #[.int .u64 a, .int .u64 0, .int .u64 0, .int .u64 0, .int .u64 0, .int .u64 0, .int .u64 0, .int .u64 0, .int .u64 0] 43)) .u64 43 [b, 0, 0, 0, 0, 0, 0, 0, 0]; rwa [World.size_alloc] at this
  have HW := hid hW
  have d1 : decide (b < 1) = false := by simp; omega
  have d2 : decide (a < b) = false := by simp; omega
  have d3 : decide (2147483648 < a) = false := by simp; omega
  clear hW
  go_enter Try.func11, Try.ntmps11
  go_wp2
  go_step3
  go_wp2_with fail
  rw [HW.out]
  clear HW
  go_step3
  go_wp2_with fail
  go_loopw [8] (fun kv wr => ∃ (k : Nat) (ys : List Int), kv = .int .i64 (k : Int) ∧ Hid (Whole a b k ys) ∧ Hid (Blk wr w.heap.size .u64 43 [a, 0, 0, 0, 0, 0, 0, 0, 0]) ∧ Hid (Blk wr (w.heap.size + 1) .u64 43 ys) ∧ Below w.heap.size w wr) (fun k _ => 40 - (intOf k).toNat)
  case atStart => exact ⟨0, [b, 0, 0, 0, 0, 0, 0, 0, 0], rfl, hid (whole_zero h1 h2 h3), hid bx, hid by_, hB⟩
  case round =>
    obtain ⟨k, ys, rfl, hwh, hx, hy, hBw⟩ := hrel
    clear bx by_ hB
    have hk : (k : Int) < 32 := whole_lt h1 h3 hwh.out
    have hyl : Hid ((Try.prog.info? 43).map (·.size) = some ys.length) := by rw [hwh.out.1.1]; exact hid (by kernel_rfl)
    have hsz : w.heap.size + 1 < wr.heap.size := hy.out.lt
    go_wp2_with (refine load_row rfl 43 _ rfl _ rfl hy.out Try.underlying43 hyl.out ?_)
    refine (double_any ys hwh.out.1.1 _).mono ?_
    rintro e w1 ⟨zs, rfl, hzl, hzd, hb1⟩
    have HZ := hid (whole_dbl h3 hwh.out hzl hzd)
    clear hzl hzd
    have hx1 := hid (hx.out.below hb1)
    have hy1 := hid (hy.out.below hb1)
    have hB1 : Below w.heap.size w w1 := hBw.trans (hb1.mono (by omega))
    have hsz1 : w.heap.size + 1 < w1.heap.size := hy1.out.lt
    have hn1 := hid (Blk.new w1 .u64 43 (List.replicate 9 0))
    have hzi : Hid ((Try.prog.info? 43).map (·.size) = some zs.length) := by rw [HZ.out.1.1]; exact hid (by kernel_rfl)
    clear hx hy hb1 hBw hsz
    go_wp2_with (first | (refine store_row rfl 43 _ _ rfl _ rfl rfl hn1.out HZ.out.1.1.symm hzi.out ?_; rintro W' hW'; have hW2 := hid hW'; clear hW'; have hx2 : Hid (Blk W' w.heap.size .u64 43 [a, 0, 0, 0, 0, 0, 0, 0, 0]) := (by rw [hW2.out]; exact hid ((hx1.out.alloc _).row_far (by omega) _)); have hz2 : Hid (Blk W' w1.heap.size .u64 43 zs) := (by rw [hW2.out]; exact hid (hn1.out.row _)); have hy2 : Hid (Blk W' (w.heap.size + 1) .u64 43 ys) := (by rw [hW2.out]; exact hid ((hy1.out.alloc _).row_far (by omega) _)); have hB2 : Below w.heap.size w W' := (by rw [hW2.out]; exact below_setRow (balloc hB1 _) (by omega) _); clear hW2) | (refine load_row rfl 43 _ rfl _ rfl hx2.out Try.underlying43 (by kernel_rfl) ?_) | (refine load_row rfl 43 _ rfl _ rfl hz2.out Try.underlying43 hzi.out ?_))
    refine (less_any _ _ rfl HZ.out.1.1 _).mono ?_
    rintro e w2 ⟨rfl, hb2⟩
    have hx3 := hid (hx2.out.below hb2)
    have hz3 := hid (hz2.out.below hb2)
    have hy3 := hid (hy2.out.below hb2)
    have hB3 : Below w.heap.size w w2 := hB2.trans (hb2.mono (by have := hB2.size; omega))
    clear hx1 hy1 hB1 hn1 hx2 hz2 hy2 hB2 hb2
    by_cases hle : a < b * 2 ^ (k + 1)
    · have HR := hid (rest_zero h1 h2 h3 hwh.out hle)
      rw [whole_less h1 h2 h3 HZ.out, decide_eq_true hle]
      clear hle HZ hwh
      go_wp2_with fail
      go_loopw [36, 8] (fun iv kv wq => ∃ (i : Nat) (kk : Int) (xs ys : List Int), i ≤ 4 ∧ iv = .int .i64 (i : Int) ∧ kv = .int .i64 kk ∧ Hid (Rest a b i kk xs ys) ∧ Hid (Blk wq w.heap.size .u64 43 xs) ∧ Hid (Blk wq (w.heap.size + 1) .u64 43 ys) ∧ Below w.heap.size w wq) (fun i _ _ => 4 - (intOf i).toNat)
      case atStart => exact ⟨0, k, [a, 0, 0, 0, 0, 0, 0, 0, 0], ys, by omega, rfl, rfl, HR, hx3, hy3, hB3⟩
      case round =>
        clear HR hx3 hy3 hz3 hB3 hzi hyl
        obtain ⟨i, kk, xs, ys, hi, rfl, rfl, HR, hx, hy, hB⟩ := hrel
        by_cases h4 : i < 4
        · have hd4 : decide ((i : Int) < 4) = true := by simp; omega
          have hsz : w.heap.size + 1 < wr.heap.size := hy.out.lt
          have hxi : Hid ((Try.prog.info? 43).map (·.size) = some xs.length) := by rw [HR.out.1.1]; exact hid (by kernel_rfl)
          have hyi : Hid ((Try.prog.info? 43).map (·.size) = some ys.length) := by rw [HR.out.2.1.1]; exact hid (by kernel_rfl)
          go_upto_region 11 with (fail)
          go_cut [] (fun wq => ∃ xs' ys', Hid (SqOut xs 9 xs') ∧ Hid (SqOut ys 9 ys') ∧ Hid (Blk wq w.heap.size .u64 43 xs') ∧ Hid (Blk wq (w.heap.size + 1) .u64 43 ys') ∧ Below w.heap.size w wq)
          case first =>
            refine wp_region_any (by kernel_rfl) ?_
            change wpAny _ _ _ _ _ _ _ (World.drew _)
            refine wpAny_ready (rs := [0, 2]) (by kernel_rfl) (by simp) ?_
            refine rdy_load rfl rfl 43 _ rfl _ rfl hx.out Try.underlying43 hxi.out ?_ (rdy_load rfl rfl 43 _ rfl _ rfl hy.out Try.underlying43 hyi.out ?_ AllReady.nil)
            · refine wpAny_ready (rs := [1, 2]) (by kernel_rfl) (by simp) (rdy rfl rfl (fun K hK => ?_) (rdy_load rfl rfl 43 _ rfl _ rfl hy.out Try.underlying43 hyi.out ?_ AllReady.nil))
              · go_simp; refine (square_any xs HR.out.1 _).mono ?_; rintro e w3 ⟨xs', rfl, hsx, hb3⟩; have hx3 := hid (hx.out.below (w := wr.drew) hb3); have hy3 := hid (hy.out.below (w := wr.drew) hb3); have hB3 : Below w.heap.size w w3 := (hB.drew).trans (hb3.mono (by show w.heap.size ≤ wr.heap.size; omega)); have HS := hid hsx; clear hsx hb3; refine hK _ _ ?_; clear hK K
                refine wpAny_ready (rs := [2]) (by kernel_rfl) (by simp) (rdy_load rfl rfl 43 _ rfl _ rfl hy3.out Try.underlying43 hyi.out ?_ AllReady.nil)
                refine wpAny_ready (rs := [3]) (by kernel_rfl) (by simp) (rdy rfl rfl (fun K hK => ?_) AllReady.nil)
                go_simp; refine (square_any ys HR.out.2.1 _).mono ?_; rintro e w4 ⟨ys', rfl, hsy, hb4⟩; have hx4 := hid (hx3.out.below hb4); have hy4 := hid (hy3.out.below hb4); have hB4 : Below w.heap.size w w4 := hB3.trans (hb4.mono (by have := hB3.size; omega)); have HT := hid hsy; clear hsy hb4; refine hK _ _ ?_; clear hK K
                refine wpAny_ready (rs := [4]) (by kernel_rfl) (by simp) (rdy_store rfl rfl 43 _ _ rfl _ rfl rfl hx4.out (HR.out.1.1.trans HS.out.1.1.symm) (info9 HS.out.1.1) ?_ AllReady.nil)
                rintro W5 hW5
                have hx5 : Blk W5 w.heap.size .u64 43 xs' := by rw [hW5]; exact hx4.out.row _
                have hy5 : Blk W5 (w.heap.size + 1) .u64 43 ys := by rw [hW5]; exact hy4.out.row_far (by omega) _
                have hB5 : Below w.heap.size w W5 := by rw [hW5]; exact below_setRow hB4 (by omega) _
                clear hW5
                refine wpAny_ready (rs := [5]) (by kernel_rfl) (by simp) (rdy_store rfl rfl 43 _ _ rfl _ rfl rfl hy5 (HR.out.2.1.1.trans HT.out.1.1.symm) (info9 HT.out.1.1) ?_ AllReady.nil)
                rintro W6 hW6
                have hx6 : Blk W6 w.heap.size .u64 43 xs' := by rw [hW6]; exact hx5.row_far (by omega) _
                have hy6 : Blk W6 (w.heap.size + 1) .u64 43 ys' := by rw [hW6]; exact hy5.row _
                have hB6 : Below w.heap.size w W6 := by rw [hW6]; exact below_setRow hB5 (by omega) _
                clear hW6
                refine wpAny_done (by kernel_rfl) ?_ _
                go_wp2_with fail
                go_meet
                case rel => exact ⟨xs', ys', HS, HT, hid hx6, hid hy6, hB6⟩
              · refine wpAny_ready (rs := [1]) (by kernel_rfl) (by simp) (rdy rfl rfl (fun K hK => ?_) AllReady.nil)
                go_simp; refine (square_any xs HR.out.1 _).mono ?_; rintro e w3 ⟨xs', rfl, hsx, hb3⟩; have hx3 := hid (hx.out.below (w := wr.drew) hb3); have hy3 := hid (hy.out.below (w := wr.drew) hb3); have hB3 : Below w.heap.size w w3 := (hB.drew).trans (hb3.mono (by show w.heap.size ≤ wr.heap.size; omega)); have HS := hid hsx; clear hsx hb3; refine hK _ _ ?_; clear hK K
                refine wpAny_ready (rs := [3]) (by kernel_rfl) (by simp) (rdy rfl rfl (fun K hK => ?_) AllReady.nil)
                go_simp; refine (square_any ys HR.out.2.1 _).mono ?_; rintro e w4 ⟨ys', rfl, hsy, hb4⟩; have hx4 := hid (hx3.out.below hb4); have hy4 := hid (hy3.out.below hb4); have hB4 : Below w.heap.size w w4 := hB3.trans (hb4.mono (by have := hB3.size; omega)); have HT := hid hsy; clear hsy hb4; refine hK _ _ ?_; clear hK K
                refine wpAny_ready (rs := [4]) (by kernel_rfl) (by simp) (rdy_store rfl rfl 43 _ _ rfl _ rfl rfl hx4.out (HR.out.1.1.trans HS.out.1.1.symm) (info9 HS.out.1.1) ?_ AllReady.nil)
                rintro W5 hW5
                have hx5 : Blk W5 w.heap.size .u64 43 xs' := by rw [hW5]; exact hx4.out.row _
                have hy5 : Blk W5 (w.heap.size + 1) .u64 43 ys := by rw [hW5]; exact hy4.out.row_far (by omega) _
                have hB5 : Below w.heap.size w W5 := by rw [hW5]; exact below_setRow hB4 (by omega) _
                clear hW5
                refine wpAny_ready (rs := [5]) (by kernel_rfl) (by simp) (rdy_store rfl rfl 43 _ _ rfl _ rfl rfl hy5 (HR.out.2.1.1.trans HT.out.1.1.symm) (info9 HT.out.1.1) ?_ AllReady.nil)
                rintro W6 hW6
                have hx6 : Blk W6 w.heap.size .u64 43 xs' := by rw [hW6]; exact hx5.row_far (by omega) _
                have hy6 : Blk W6 (w.heap.size + 1) .u64 43 ys' := by rw [hW6]; exact hy5.row _
                have hB6 : Below w.heap.size w W6 := by rw [hW6]; exact below_setRow hB5 (by omega) _
                clear hW6
                refine wpAny_done (by kernel_rfl) ?_ _
                go_wp2_with fail
                go_meet
                case rel => exact ⟨xs', ys', HS, HT, hid hx6, hid hy6, hB6⟩
            · refine wpAny_ready (rs := [0]) (by kernel_rfl) (by simp) (rdy_load rfl rfl 43 _ rfl _ rfl hx.out Try.underlying43 hxi.out ?_ AllReady.nil)
              refine wpAny_ready (rs := [1]) (by kernel_rfl) (by simp) (rdy rfl rfl (fun K hK => ?_) AllReady.nil)
              go_simp; refine (square_any xs HR.out.1 _).mono ?_; rintro e w3 ⟨xs', rfl, hsx, hb3⟩; have hx3 := hid (hx.out.below (w := wr.drew) hb3); have hy3 := hid (hy.out.below (w := wr.drew) hb3); have hB3 : Below w.heap.size w w3 := (hB.drew).trans (hb3.mono (by show w.heap.size ≤ wr.heap.size; omega)); have HS := hid hsx; clear hsx hb3; refine hK _ _ ?_; clear hK K
              refine wpAny_ready (rs := [3]) (by kernel_rfl) (by simp) (rdy rfl rfl (fun K hK => ?_) AllReady.nil)
              go_simp; refine (square_any ys HR.out.2.1 _).mono ?_; rintro e w4 ⟨ys', rfl, hsy, hb4⟩; have hx4 := hid (hx3.out.below hb4); have hy4 := hid (hy3.out.below hb4); have hB4 : Below w.heap.size w w4 := hB3.trans (hb4.mono (by have := hB3.size; omega)); have HT := hid hsy; clear hsy hb4; refine hK _ _ ?_; clear hK K
              refine wpAny_ready (rs := [4]) (by kernel_rfl) (by simp) (rdy_store rfl rfl 43 _ _ rfl _ rfl rfl hx4.out (HR.out.1.1.trans HS.out.1.1.symm) (info9 HS.out.1.1) ?_ AllReady.nil)
              rintro W5 hW5
              have hx5 : Blk W5 w.heap.size .u64 43 xs' := by rw [hW5]; exact hx4.out.row _
              have hy5 : Blk W5 (w.heap.size + 1) .u64 43 ys := by rw [hW5]; exact hy4.out.row_far (by omega) _
              have hB5 : Below w.heap.size w W5 := by rw [hW5]; exact below_setRow hB4 (by omega) _
              clear hW5
              refine wpAny_ready (rs := [5]) (by kernel_rfl) (by simp) (rdy_store rfl rfl 43 _ _ rfl _ rfl rfl hy5 (HR.out.2.1.1.trans HT.out.1.1.symm) (info9 HT.out.1.1) ?_ AllReady.nil)
              rintro W6 hW6
              have hx6 : Blk W6 w.heap.size .u64 43 xs' := by rw [hW6]; exact hx5.row_far (by omega) _
              have hy6 : Blk W6 (w.heap.size + 1) .u64 43 ys' := by rw [hW6]; exact hy5.row _
              have hB6 : Below w.heap.size w W6 := by rw [hW6]; exact below_setRow hB5 (by omega) _
              clear hW6
              refine wpAny_done (by kernel_rfl) ?_ _
              go_wp2_with fail
              go_meet
              case rel => exact ⟨xs', ys', HS, HT, hid hx6, hid hy6, hB6⟩
          case rest =>
            obtain ⟨xs', ys', HS, HT, hx', hy', hB'⟩ := hcut
            clear hx hy hB hxi hyi hsz
            have HQ := hid (rest_sq h1 h2 h3 h4 HR.out HS.out HT.out)
            have hk0 : 0 ≤ kk := HR.out.2.2.2.1
            have hk1 : kk < 1000 := rest_lt h1 h2 h3 (by omega) HR.out
            have hyi : Hid ((Try.prog.info? 43).map (·.size) = some ys'.length) := hid (info9 HT.out.1.1)
            have hxi : Hid ((Try.prog.info? 43).map (·.size) = some xs'.length) := hid (info9 HS.out.1.1)
            clear HR
            have hsz : w.heap.size + 1 < wc.heap.size := hy'.out.lt
            go_wp2_with (refine load_row rfl 43 _ rfl _ rfl hy'.out Try.underlying43 hyi.out ?_)
            refine (double_any ys' HT.out.1.1 _).mono ?_
            rintro e w3 ⟨zs, rfl, hzl, hzd, hb3⟩
            have HZ := hid (rest_dbl HQ.out hzl hzd)
            clear hzl hzd
            have hx3 := hid (hx'.out.below hb3)
            have hy3 := hid (hy'.out.below hb3)
            have hB3 : Below w.heap.size w w3 := hB'.trans (hb3.mono (by omega))
            have hsz3 : w.heap.size + 1 < w3.heap.size := hy3.out.lt
            have hn3 := hid (Blk.new w3 .u64 43 (List.replicate 9 0))
            have hzi : Hid ((Try.prog.info? 43).map (·.size) = some zs.length) := hid (info9 HZ.out.1.1)
            clear hx' hy' hb3 hB' hsz
            go_wp2_with (first | (refine store_row rfl 43 _ _ rfl _ rfl rfl hn3.out HZ.out.1.1.symm hzi.out ?_; rintro W' hW'; have hW2 := hid hW'; clear hW'; have hx4 : Hid (Blk W' w.heap.size .u64 43 xs') := (by rw [hW2.out]; exact hid ((hx3.out.alloc _).row_far (by omega) _)); have hz4 : Hid (Blk W' w3.heap.size .u64 43 zs) := (by rw [hW2.out]; exact hid (hn3.out.row _)); have hy4 : Hid (Blk W' (w.heap.size + 1) .u64 43 ys') := (by rw [hW2.out]; exact hid ((hy3.out.alloc _).row_far (by omega) _)); have hB4 : Below w.heap.size w W' := (by rw [hW2.out]; exact below_setRow (balloc hB3 _) (by omega) _); clear hW2) | (refine load_row rfl 43 _ rfl _ rfl hx4.out Try.underlying43 hxi.out ?_) | (refine load_row rfl 43 _ rfl _ rfl hz4.out Try.underlying43 hzi.out ?_))
            refine (less_any _ _ HS.out.1.1 HZ.out.1.1 _).mono ?_
            rintro e w5 ⟨rfl, hb5⟩
            have hx5 := hid (hx4.out.below hb5)
            have hz5 := hid (hz4.out.below hb5)
            have hy5 := hid (hy4.out.below hb5)
            have hB5 : Below w.heap.size w w5 := hB4.trans (hb5.mono (by have := hB4.size; omega))
            clear hx3 hy3 hB3 hn3 hx4 hz4 hy4 hB4 hb5
            rw [lessTo_iff B64_pos HS.out.1 HZ.out.1]
            by_cases hle : valTo B64 xs' 9 < valTo B64 zs 9
            · have HN := hid (rest_no HQ.out HZ.out hle)
              rw [decide_eq_true hle]
              clear hle HQ HZ
              go_wp2_with fail
              go_roundw
              case rel => exact ⟨i + 1, kk * 2, xs', ys', by omega, by go_num, rfl, HN, hx5, hy5, hB5⟩
              case measure => simp [intOf]; omega
            · have HN := hid (rest_yes HQ.out HZ.out hle)
              have hyz : Hid (ys'.length = zs.length) := hid (HT.out.1.1.trans HZ.out.1.1.symm)
              rw [decide_eq_false hle]
              clear hle HQ
              go_wp2_with (first | (refine load_row rfl 43 _ rfl _ rfl hz5.out Try.underlying43 hzi.out ?_) | (refine store_row rfl 43 _ _ rfl _ rfl rfl hy5.out hyz.out hzi.out ?_; rintro W' hW'; have hW2 := hid hW'; clear hW'; have hx6 : Hid (Blk W' w.heap.size .u64 43 xs') := (by rw [hW2.out]; exact hid (hx5.out.row_far (by omega) _)); have hy6 : Hid (Blk W' (w.heap.size + 1) .u64 43 zs) := (by rw [hW2.out]; exact hid (hy5.out.row _)); have hB6 : Below w.heap.size w W' := (by rw [hW2.out]; exact below_setRow hB5 (by omega) _); clear hW2))
              go_roundw
              case rel => exact ⟨i + 1, kk * 2 + 1, xs', zs, by omega, by go_num, rfl, HN, hx6, hy6, hB6⟩
              case measure => simp [intOf]; omega
        · obtain rfl : i = 4 := by omega
          go_wp2_with fail
          rw [Exit.noGoto_ret]
          go_ret2
          exact ⟨kk, ratio_end HR.out, rfl, hB⟩
    · have hyz : Hid (ys.length = zs.length) := hid (hwh.out.1.1.trans HZ.out.1.1.symm)
      have hwh2 := hid (whole_next HZ.out hle)
      rw [whole_less h1 h2 h3 HZ.out, decide_eq_false hle]
      clear hle hwh
      go_wp2_with (first | (refine load_row rfl 43 _ rfl _ rfl hz3.out Try.underlying43 hzi.out ?_) | (refine store_row rfl 43 _ _ rfl _ rfl rfl hy3.out hyz.out hzi.out ?_; rintro W' hW'; have hW2 := hid hW'; clear hW'; have hx4 : Hid (Blk W' w.heap.size .u64 43 [a, 0, 0, 0, 0, 0, 0, 0, 0]) := (by rw [hW2.out]; exact hid (hx3.out.row_far (by omega) _)); have hy4 : Hid (Blk W' (w.heap.size + 1) .u64 43 zs) := (by rw [hW2.out]; exact hid (hy3.out.row _)); have hB4 : Below w.heap.size w W' := (by rw [hW2.out]; exact below_setRow hB3 (by omega) _); clear hW2))
      go_roundw
      case rel => exact ⟨k + 1, zs, by go_num, hwh2, hx4, hy4, hB4⟩
      case measure => simp [intOf]; omega
end Go.Proofs.Ytechbpcbccjppaa
