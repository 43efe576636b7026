/- The walk of the law BucketEnds. -/
import Derived.Test.YtmbpdboengaclaaQg
namespace Go.Proofs.Ytmbpdboengaclaa
set_option linter.unusedVariables false
set_option linter.unusedSimpArgs false
open Go.RowKit
theorem ends_items (k v : Int) (h : 0 ≤ k) : ins 0 v (ins k v []) = [(0, v), (k, v)] := by
  simp only [ins]
  split
  · obtain rfl : k = 0 := by omega
    rfl
  · rfl
set_option maxRecDepth 100000 in
set_option maxHeartbeats 1000000 in
theorem ends_law (top v : Int) (wt : (Lit.int .u16 top).wf = true) (wv : (Lit.int .i64 v).wf = true) (w : World) :
    Calls Try.prog 5 #[.int .u16 top, .int .i64 v] w fun e w' => e = .returned (.bool true) ∧ Below w.heap.size w w' := by
  have ht : 0 ≤ top := by
    have h2 : (decide (IntKind.u16.min ≤ top) && decide (top ≤ IntKind.u16.max)) = true := wt
    rw [Bool.and_eq_true, decide_eq_true_eq, decide_eq_true_eq] at h2
    exact h2.1
  have ht2 : top ≤ 65535 := by
    have h2 : (decide (IntKind.u16.min ≤ top) && decide (top ≤ IntKind.u16.max)) = true := wt
    rw [Bool.and_eq_true, decide_eq_true_eq, decide_eq_true_eq] at h2
    exact h2.2
  clear wt wv
  have HB := hid (Below.refl w.heap.size w)
  go_enter Try.func5, Try.ntmps5
  go_wp2_with (first
    | (go_at_call 9; refine (alive_any _).mono ?_; rintro e w1 ⟨rfl, hb⟩; replace HB := hid hb; clear hb))
  have HF : Hid (∀ k, w1.heap.size ≤ k → w.heap.size ≤ k) := hid fun k hk => Nat.le_trans HB.out.size hk
  have hk0 : 0 ≤ top % 4352 := by omega
  have hk1 : top % 4352 ≤ 4351 := by omega
  generalize top % 4352 = k at hk0 hk1 ⊢
  clear ht ht2
  refine (new_l k w1).mono ?_
  rintro e w2 ⟨-, hp⟩
  obtain ⟨rfl, hq, hb⟩ := hp hk0 hk1
  have HN := hid hb.size
  have HQ := hid hq
  replace HB := hid (bthen HB.out hb)
  have HW := hid HB.out.size
  clear hp hq hb
  go_wp2_with fail
  refine (push_l HQ.out (fun k hk => Nat.le_trans HN.out hk) (by simp) _ _).mono ?_
  rintro e w3 ⟨hp1, -⟩
  obtain ⟨rfl, rfl⟩ := hp1 (by omega)
  clear hp1
  go_wp2_with fail
  refine (push_l HQ.out (fun k hk => Nat.le_trans HN.out hk) (by simp) _ _).mono ?_
  rintro e w3 ⟨hp1, -⟩
  obtain ⟨rfl, rfl⟩ := hp1 (by omega)
  clear hp1
  go_wp2_with fail
  refine (push_l HQ.out (fun k hk => Nat.le_trans HN.out hk) (by simp) _ _).mono ?_
  rintro e w3 ⟨-, hp2⟩
  obtain ⟨rfl, hq, ht⟩ := hp2 (by omega) (by omega)
  replace HQ := hid hq
  replace HB := hid (ht.below HB.out HF.out)
  replace HN := hid (Nat.le_trans HN.out ht.size)
  clear hp2 hq ht
  go_wp2_with fail
  refine (push_l HQ.out (fun k hk => Nat.le_trans HN.out hk) (by simp [ins_length]) _ _).mono ?_
  rintro e w4 ⟨-, hp2⟩
  obtain ⟨rfl, hq, ht⟩ := hp2 (by omega) (by omega)
  rw [ends_items k v hk0] at hq
  replace HQ := hid hq
  replace HB := hid (ht.below HB.out HF.out)
  replace HN := hid (Nat.le_trans HN.out ht.size)
  clear hp2 hq ht
  go_wp2_with (go_at_call 14; refine (len_l HQ.out).mono ?_; rintro e w2 ⟨rfl, rfl⟩)
  have hq1 := HQ.out.bound
  refine (pop_l hq1 (by simp)).mono ?_
  rintro e w5 ⟨ht, -, hp⟩
  obtain ⟨rfl, hq, -⟩ := hp _ _ rfl
  have HB3 := ht.below HB.out (fun k hk => HF.out k hk.1)
  have hsz := ht.size
  have HN3 := Nat.le_trans HN.out hsz
  clear HQ HB hp hq1 HW HN
  have HQ := hid (hq.below (balloc (Below.refl _ w5) (.cells #[.int .i64 0, .int .i64 v] 31)))
  have HB := hid (balloc HB3 (.cells #[.int .i64 0, .int .i64 v] 31))
  have ca := heap_alloc_new w5 (.cells #[.int .i64 0, .int .i64 v] 31)
  go_wp2_with fail
  refine (pop_l HQ.out (by simp)).mono ?_
  rintro e w6 ⟨ht4, -, hp4⟩
  obtain ⟨rfl, hq4, -⟩ := hp4 _ _ rfl
  have ca4 : w6.heap[w5.heap.size]? = some (.cells #[.int .i64 0, .int .i64 v] 31) := (ht4.block w5.heap.size (by simp) (fun hk => by have := hk.2; omega)).trans ca
  have HB4 := hid (balloc (ht4.below HB.out (fun k hk => HF.out k hk.1)) (.cells #[.int .i64 k, .int .i64 v] 31))
  have cb := heap_alloc_new w6 (.cells #[.int .i64 k, .int .i64 v] 31)
  have ca5 := (Below.heap_alloc w6 (.cells #[.int .i64 k, .int .i64 v] 31) w5.heap.size (blk_lt ca4)).trans ca4
  have va0 : (w6.alloc (.cells #[.int .i64 k, .int .i64 v] 31)).cell? ⟨w5.heap.size, 0, none⟩ = some (.int .i64 0) := by rw [cell_of_row _ _ 0 _ _ _ ca5]; rfl
  have va : (w6.alloc (.cells #[.int .i64 k, .int .i64 v] 31)).cell? ⟨w5.heap.size, 1, none⟩ = some (.int .i64 v) := by rw [cell_of_row _ _ 1 _ _ _ ca5]; rfl
  have vb0 : (w6.alloc (.cells #[.int .i64 k, .int .i64 v] 31)).cell? ⟨w6.heap.size, 0, none⟩ = some (.int .i64 k) := by rw [cell_of_row _ _ 0 _ _ _ cb]; rfl
  have vb : (w6.alloc (.cells #[.int .i64 k, .int .i64 v] 31)).cell? ⟨w6.heap.size, 1, none⟩ = some (.int .i64 v) := by rw [cell_of_row _ _ 1 _ _ _ cb]; rfl
  clear hq hq4 ht ht4 hp4 ca ca4 ca5 cb HB
  go_wp2_with (go_at_call 10; refine (new_l _ _).mono ?_; rintro e w2 ⟨hp, -⟩; obtain ⟨rfl, rfl⟩ := hp (by decide); clear hp)
  go_ret
  exact ⟨rfl, HB4.out⟩
end Go.Proofs.Ytmbpdboengaclaa
