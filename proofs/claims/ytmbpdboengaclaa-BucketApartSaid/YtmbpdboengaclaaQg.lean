/- The walk of bucket's alive. -/
import Derived.Test.YtmbpdboengaclaaQf
namespace Go.Proofs.Ytmbpdboengaclaa
open Go.RowKit
set_option maxRecDepth 100000 in
set_option maxHeartbeats 1000000 in
theorem alive_any (w : World) : Calls Try.prog 9 #[] w fun e w' => e = .returned (.bool true) ∧ Below w.heap.size w w' := by
  have HB := hid (Below.refl w.heap.size w)
  go_enter Try.func9, Try.ntmps9
  go_wp2_with (first
    | (go_at_call 10; refine (new_l _ _).mono ?_; rintro e w1 ⟨-, hp⟩; obtain ⟨rfl, hq, hb⟩ := hp (by decide) (by decide); have HQ := hid hq; replace HB := hid hb; clear hp hq hb)
    | (go_at_call 11; refine (push_l HQ.out (fun k hk => Nat.le_trans HB.out.size hk) (Nat.le_of_lt (by decide)) _ _).mono ?_; rintro e w2 ⟨-, hp⟩; obtain ⟨rfl, hq, ht⟩ := hp (by decide) (by decide); simp [ins] at hq; replace HQ := hid hq; replace HB := hid (ht.below HB.out (fun k hk => hk)); clear hp hq ht)
    | (go_at_call 11; refine (push_nil _ _ _).mono ?_; rintro e w2 ⟨rfl, rfl⟩)
    | (go_at_call 14; refine (len_l HQ.out).mono ?_; rintro e w2 ⟨rfl, rfl⟩)
    | (go_at_call 13; refine (now_l HQ.out).mono ?_; rintro e w2 ⟨rfl, rfl⟩))
  have hq1 := HQ.out.bound
  refine (pop_l hq1 (Nat.le_of_lt (by decide))).mono ?_
  rintro e w3 ⟨ht, -, hp⟩
  obtain ⟨rfl, hq, -⟩ := hp _ _ rfl
  have HB3 := ht.below HB.out (fun k hk => hk.1)
  have hsz := ht.size
  clear HQ HB hp hq1
  have HQ := hid (hq.below (balloc (Below.refl _ w3) (.cells #[.int .i64 3, .int .i64 2] 31)))
  have HB := hid (balloc HB3 (.cells #[.int .i64 3, .int .i64 2] 31))
  have ca := heap_alloc_new w3 (.cells #[.int .i64 3, .int .i64 2] 31)
  go_wp2_with fail
  refine (pop_l HQ.out (Nat.le_of_lt (by decide))).mono ?_
  rintro e w4 ⟨ht4, -, hp4⟩
  obtain ⟨rfl, hq4, -⟩ := hp4 _ _ rfl
  have ca4 : w4.heap[w3.heap.size]? = some (.cells #[.int .i64 3, .int .i64 2] 31) := (ht4.block w3.heap.size (by simp) (fun hk => by have := hk.2; omega)).trans ca
  have HB4 := hid (balloc (ht4.below HB.out (fun k hk => hk.1)) (.cells #[.int .i64 5, .int .i64 1] 31))
  have cb := heap_alloc_new w4 (.cells #[.int .i64 5, .int .i64 1] 31)
  have ca5 := (Below.heap_alloc w4 (.cells #[.int .i64 5, .int .i64 1] 31) w3.heap.size (blk_lt ca4)).trans ca4
  replace HQ := hid (hq4.below (balloc (Below.refl _ w4) (.cells #[.int .i64 5, .int .i64 1] 31)))
  have va : (w4.alloc (.cells #[.int .i64 5, .int .i64 1] 31)).cell? ⟨w3.heap.size, 1, none⟩ = some (.int .i64 2) := by rw [cell_of_row _ _ 1 _ _ _ ca5]; rfl
  have vb : (w4.alloc (.cells #[.int .i64 5, .int .i64 1] 31)).cell? ⟨w4.heap.size, 1, none⟩ = some (.int .i64 1) := by rw [cell_of_row _ _ 1 _ _ _ cb]; rfl
  clear hq hq4 ht ht4 hp4 ca ca4 ca5 cb HB
  go_wp2_with (first
    | (go_at_call 11; refine (push_nil _ _ _).mono ?_; rintro e w2 ⟨rfl, rfl⟩)
    | (go_at_call 14; refine (len_l HQ.out).mono ?_; rintro e w2 ⟨rfl, rfl⟩)
    | (go_at_call 13; refine (now_l HQ.out).mono ?_; rintro e w2 ⟨rfl, rfl⟩))
  go_ret
  exact ⟨rfl, HB4.out⟩
end Go.Proofs.Ytmbpdboengaclaa
