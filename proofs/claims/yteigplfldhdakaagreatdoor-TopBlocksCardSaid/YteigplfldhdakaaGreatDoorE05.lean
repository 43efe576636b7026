/- align: best. -/
import Derived.Test.YteigplfldhdakaaGreatDoorE04
import Derived.Laws.MakeOwn
import Derived.Deep.Cut
import Derived.Deep.CutRange
set_option linter.unusedVariables false
set_option linter.unusedSimpArgs false
namespace Go.Proofs.YteigplfldhdakaaGreatDoor
open Go.RowKit
attribute [local go_sem ↓] Go.wp_at_zero Go.wp_at_succ
theorem load5 {W : World} {g : Nat} {v : Value} (hg : W.heap[g]? = some (.cells #[v] 5 (0, 0))) : (loadVar 5 ⟨g, 0, none⟩).run Tryz.prog W = .ok v W := by
  have hc := (box_cell hg).1
  have hu := Tryz.underlying5
  go_simp
def BestP (A B fl : List Int) (lb i j : Nat) (w : World) (e : Ending) (w' : World) : Prop :=
  e = .returned (.tuple #[.int .u8 (bestF A B fl lb i j).1, .int .u8 (bestF A B fl lb i j).2]) ∧ Below w.heap.size w w'
set_option maxRecDepth 100000 in
set_option maxHeartbeats 800000 in
theorem best_c (g : Nat) (va vb vf vk : Value) (A B fl kl : List Int) (i j : Nat) (hi : i ≤ A.length) (hj : j ≤ B.length) (hA : A.length ≤ 64) (hB : B.length ≤ 64) (hij : 0 < i + j) (hf : fl.length = (A.length + 1) * (B.length + 1)) (w : World) (h : GridAt w g va vb vf vk A B fl kl) :
    Calls Tryz.prog 129 #[.pointer (some ⟨g, 0, none⟩), .int .i64 i, .int .i64 j] w (BestP A B fl B.length i j w) := by
  obtain ⟨A1, ca, rfl, hca⟩ := SL.form h.a
  obtain ⟨A2, cb, rfl, hcb⟩ := SL.form h.b
  obtain ⟨A3, cf, rfl, hcf⟩ := BS.form h.f
  obtain ⟨c0, c1, c2, c3⟩ := grid_cells h.head
  have hg0 := blk_lt h.head
  have HG := hid h
  clear h
  rcases Nat.eq_zero_or_pos i with rfl | hi0
  · rcases Nat.eq_zero_or_pos j with rfl | hj0
    · omega
    · skip
      obtain ⟨j, rfl⟩ : ∃ k, j = k + 1 := ⟨j - 1, by omega⟩
      have hlt : gat B.length 0 j < fl.length := by rw [hf]; exact gat_lt (by omega) (by omega)
      have HF := hid hf
      clear hf
      obtain ⟨gf, of, rfl, hce, hfe, hgf⟩ := BS.item HG.out.f hlt
      have hE : bestF A B fl B.length 0 (j + 1) = tryK (0, 255) 3 (inc8 fl[gat B.length 0 j]) := by
        simp only [bestF, Nat.add_sub_cancel, Nat.zero_lt_succ, Nat.lt_irrefl, and_self, and_false, false_and, if_true, if_false, List.getD_eq_getElem?_getD, List.getElem?_eq_getElem hlt, Option.getD_some]
      obtain ⟨x, hx⟩ : ∃ x, fl[gat B.length 0 j] = x := ⟨_, rfl⟩
      rw [hx] at hce hE
      have HE := hid hE
      have hltI : ((gat B.length 0 j : Nat) : Int) < (fl.length : Int) := by omega
      have hlt0 : (0 : Int) ≤ ((gat B.length 0 j : Nat) : Int) := by omega
      clear hE hx
      obtain ⟨W, hW⟩ : ∃ W, (w.alloc (Obj.cells #[Value.int IntKind.u8 0] 5)).alloc (Obj.cells #[Value.int IntKind.u8 255] 5) = W := ⟨_, rfl⟩
      have hbW : Below w.heap.size w W := by rw [← hW]; exact balloc (balloc (Below.refl _ w) _) _
      have hk0 : W.heap[w.heap.size]? = some (.cells #[.int .u8 0] 5 (0, 0)) := by rw [← hW]; exact al2_0 _ _ _
      have hn0 : W.heap[w.heap.size + 1]? = some (.cells #[.int .u8 255] 5 (0, 0)) := by rw [← hW]; exact al2_1 _ _ _
      have d1 := (hbW.cell hg0).trans c1
      have d2 := (hbW.cell hg0).trans c2
      have d3 := (hbW.cell hgf).trans hce
      have HK0 := hid hk0
      have HN0 := hid hn0
      have HBW := hid hbW
      have hnk : w.heap.size + 1 ≠ w.heap.size := by omega
      have hwi : IntKind.i64.wrap (j : Int) = (j : Int) := by rw [IntKind.wrap_i64]; omega
      have hij1 : ((j + 1 : Nat) : Int) = (j : Int) + 1 := by omega
      clear hce c0 c1 c2 c3 hk0 hn0 hfe
      go_enter Tryz.func129, Tryz.ntmps129
      go_wp2
      try rw [hW]
      refine wp_region_still_tail 13 (by kernel_rfl) (by kernel_rfl) ?_
      simp only [List.take_succ_cons, List.take_zero, List.drop_succ_cons, List.drop_zero]
      repeat still_step
      still_call (at_i g _ B.length cb 0 j (by omega) (by omega) hB _ _ _ (by exact d1) (by omega) (by omega))
      repeat still_step
      refine wpStill_nil ?_
      change wpList _ _ _ _ _ W.drew
      go_wp2_with (go_at_call 179; refine (try_c _ _ hnk _ _ 255 0 _ (by exact HN0.out) (by exact HK0.out)).mono ?_; rintro e W3 ⟨rfl, hn1, hk1, ht1⟩; have HN3 := hid hn1; have HK3 := hid hk1; obtain ⟨l1, l2⟩ := box_cell hk1; obtain ⟨l3, l4⟩ := box_cell hn1; have HB3 := hid (ht1.below HBW.out.drew (fun b hb => by omega)); clear hn1 hk1 ht1)
      go_region
      all_goals go_wp2
      all_goals
        refine bodyPost_ret (results_cell2 (fn := Tryz.f129) rfl _ _ w.heap.size (w.heap.size + 1) _ _ rfl rfl (load5 (by exact set_other (box_set HK3.out _) (by omega) _ _)) (load5 (by exact box_set (set_other HN3.out (by omega) _ _) _))) rfl ?_
        refine ⟨?_, ?_⟩
        · rw [HE.out]
          rfl
        · exact (Touch.setCell (F := fun b => w.heap.size ≤ b) (p := ⟨w.heap.size + 1, 0, none⟩) (Touch.setCell (p := ⟨w.heap.size, 0, none⟩) (Touch.refl _ W3.drew) (.inl (Nat.le_refl _)) _) (.inl (Nat.le_succ _)) _).below HB3.out.drew (fun b h => h)
  · rcases Nat.eq_zero_or_pos j with rfl | hj0
    · skip
      obtain ⟨i, rfl⟩ : ∃ k, i = k + 1 := ⟨i - 1, by omega⟩
      have hlt : gat B.length i 0 < fl.length := by rw [hf]; exact gat_lt (by omega) (by omega)
      have HF := hid hf
      clear hf
      obtain ⟨gf, of, rfl, hce, hfe, hgf⟩ := BS.item HG.out.f hlt
      have hE : bestF A B fl B.length (i + 1) 0 = tryK (0, 255) 2 (inc8 fl[gat B.length i 0]) := by
        simp only [bestF, Nat.add_sub_cancel, Nat.zero_lt_succ, Nat.lt_irrefl, and_self, and_false, false_and, if_true, if_false, List.getD_eq_getElem?_getD, List.getElem?_eq_getElem hlt, Option.getD_some]
      obtain ⟨x, hx⟩ : ∃ x, fl[gat B.length i 0] = x := ⟨_, rfl⟩
      rw [hx] at hce hE
      have HE := hid hE
      have hltI : ((gat B.length i 0 : Nat) : Int) < (fl.length : Int) := by omega
      have hlt0 : (0 : Int) ≤ ((gat B.length i 0 : Nat) : Int) := by omega
      clear hE hx
      obtain ⟨W, hW⟩ : ∃ W, (w.alloc (Obj.cells #[Value.int IntKind.u8 0] 5)).alloc (Obj.cells #[Value.int IntKind.u8 255] 5) = W := ⟨_, rfl⟩
      have hbW : Below w.heap.size w W := by rw [← hW]; exact balloc (balloc (Below.refl _ w) _) _
      have hk0 : W.heap[w.heap.size]? = some (.cells #[.int .u8 0] 5 (0, 0)) := by rw [← hW]; exact al2_0 _ _ _
      have hn0 : W.heap[w.heap.size + 1]? = some (.cells #[.int .u8 255] 5 (0, 0)) := by rw [← hW]; exact al2_1 _ _ _
      have d1 := (hbW.cell hg0).trans c1
      have d2 := (hbW.cell hg0).trans c2
      have d3 := (hbW.cell hgf).trans hce
      have HK0 := hid hk0
      have HN0 := hid hn0
      have HBW := hid hbW
      have hnk : w.heap.size + 1 ≠ w.heap.size := by omega
      have hwi : IntKind.i64.wrap (i : Int) = (i : Int) := by rw [IntKind.wrap_i64]; omega
      have hij1 : ((i + 1 : Nat) : Int) = (i : Int) + 1 := by omega
      clear hce c0 c1 c2 c3 hk0 hn0 hfe
      go_enter Tryz.func129, Tryz.ntmps129
      go_wp2
      try rw [hW]
      refine wp_region_still_tail 13 (by kernel_rfl) (by kernel_rfl) ?_
      simp only [List.take_succ_cons, List.take_zero, List.drop_succ_cons, List.drop_zero]
      repeat still_step
      still_call (at_i g _ B.length cb i 0 (by omega) (by omega) hB _ _ _ (by exact d1) (by omega) (by omega))
      repeat still_step
      refine wpStill_nil ?_
      change wpList _ _ _ _ _ W.drew
      go_wp2_with (go_at_call 179; refine (try_c _ _ hnk _ _ 255 0 _ (by exact HN0.out) (by exact HK0.out)).mono ?_; rintro e W3 ⟨rfl, hn1, hk1, ht1⟩; have HN3 := hid hn1; have HK3 := hid hk1; obtain ⟨l1, l2⟩ := box_cell hk1; obtain ⟨l3, l4⟩ := box_cell hn1; have HB3 := hid (ht1.below HBW.out.drew (fun b hb => by omega)); clear hn1 hk1 ht1)
      go_region
      all_goals go_wp2
      all_goals
        refine bodyPost_ret (results_cell2 (fn := Tryz.f129) rfl _ _ w.heap.size (w.heap.size + 1) _ _ rfl rfl (load5 (by exact set_other (box_set HK3.out _) (by omega) _ _)) (load5 (by exact box_set (set_other HN3.out (by omega) _ _) _))) rfl ?_
        refine ⟨?_, ?_⟩
        · rw [HE.out]
          rfl
        · exact (Touch.setCell (F := fun b => w.heap.size ≤ b) (p := ⟨w.heap.size + 1, 0, none⟩) (Touch.setCell (p := ⟨w.heap.size, 0, none⟩) (Touch.refl _ W3.drew) (.inl (Nat.le_refl _)) _) (.inl (Nat.le_succ _)) _).below HB3.out.drew (fun b h => h)
    · obtain ⟨i, rfl⟩ : ∃ k, i = k + 1 := ⟨i - 1, by omega⟩
      obtain ⟨j, rfl⟩ : ∃ k, j = k + 1 := ⟨j - 1, by omega⟩
      have hlt : gat B.length i j < fl.length := by rw [hf]; exact gat_lt (by omega) (by omega)
      have hlt1 : gat B.length i (j + 1) < fl.length := by rw [hf]; exact gat_lt (by omega) (by omega)
      have hlt2 : gat B.length (i + 1) j < fl.length := by rw [hf]; exact gat_lt (by omega) (by omega)
      have HF := hid hf
      clear hf
      obtain ⟨gf, of, rfl, hce, hfe, hgf⟩ := BS.item HG.out.f hlt
      obtain ⟨gf', of', e', hce1, -, -⟩ := BS.item HG.out.f hlt1
      obtain ⟨rfl, rfl⟩ : gf = gf' ∧ of = of' := by simpa using e'
      obtain ⟨gf', of', e'', hce2, -, -⟩ := BS.item HG.out.f hlt2
      obtain ⟨rfl, rfl⟩ : gf = gf' ∧ of = of' := by simpa using e''
      clear e' e''
      obtain ⟨ga, oa, _, hva, _, _, hca2, -⟩ := SL.open_ HG.out.a (by omega)
      obtain ⟨gb, ob, _, hvb, _, _, hcb2, -⟩ := SL.open_ HG.out.b (by omega)
      obtain rfl : A1 = some ⟨ga, oa, none⟩ := (Value.slice.inj hva).1
      obtain rfl : A2 = some ⟨gb, ob, none⟩ := (Value.slice.inj hvb).1
      have hia : i < A.length := by omega
      have hjb : j < B.length := by omega
      have hda := hca2 i (by omega)
      have hdb := hcb2 j (by omega)
      rw [show (i32 A)[i]? = some (.int .i32 (A[i]'hia)) by simp [i32, hia]] at hda
      rw [show (i32 B)[j]? = some (.int .i32 (B[j]'hjb)) by simp [i32, hjb]] at hdb
      have hE : ∀ x y z : Int, x = fl[gat B.length i j] → y = fl[gat B.length i (j + 1)] → z = fl[gat B.length (i + 1) j] → ∀ a b, a = A[i] → b = B[j] →
          bestF A B fl B.length (i + 1) (j + 1) = tryK (tryK (if a = b then tryK (0, 255) 0 x else tryK (0, 255) 1 (inc8 x)) 2 (inc8 y)) 3 (inc8 z) := by
        rintro x y z rfl rfl rfl a b rfl rfl
        simp only [bestF, Nat.add_sub_cancel, Nat.zero_lt_succ, and_self, if_true, List.getD_eq_getElem?_getD, List.getElem?_eq_getElem hlt, List.getElem?_eq_getElem hlt1, List.getElem?_eq_getElem hlt2, List.getElem?_eq_getElem hia, List.getElem?_eq_getElem hjb, Option.getD_some]
      have hE2 := hE _ _ _ rfl rfl rfl _ _ rfl rfl
      obtain ⟨x, hx⟩ : ∃ x, fl[gat B.length i j] = x := ⟨_, rfl⟩
      obtain ⟨y, hy⟩ : ∃ y, fl[gat B.length i (j + 1)] = y := ⟨_, rfl⟩
      obtain ⟨z, hz⟩ : ∃ z, fl[gat B.length (i + 1) j] = z := ⟨_, rfl⟩
      obtain ⟨a, ha⟩ : ∃ a, A[i] = a := ⟨_, rfl⟩
      obtain ⟨b, hb⟩ : ∃ b, B[j] = b := ⟨_, rfl⟩
      rw [hx, hy, hz, ha, hb] at hE2
      rw [hx] at hce
      rw [hy] at hce1
      rw [hz] at hce2
      rw [ha] at hda
      rw [hb] at hdb
      have HE := hid hE2
      have hltI : ((gat B.length i j : Nat) : Int) < (fl.length : Int) := by omega
      have hltI1 : ((gat B.length i (j + 1) : Nat) : Int) < (fl.length : Int) := by omega
      have hltI2 : ((gat B.length (i + 1) j : Nat) : Int) < (fl.length : Int) := by omega
      have hlt0 : (0 : Int) ≤ ((gat B.length i j : Nat) : Int) := by omega
      clear hE hE2 hx hy hz ha hb hca2 hcb2 hva hvb
      obtain ⟨W, hW⟩ : ∃ W, (w.alloc (Obj.cells #[Value.int IntKind.u8 0] 5)).alloc (Obj.cells #[Value.int IntKind.u8 255] 5) = W := ⟨_, rfl⟩
      have hbW : Below w.heap.size w W := by rw [← hW]; exact balloc (balloc (Below.refl _ w) _) _
      have hsW : W.heap.size = w.heap.size + 2 := by rw [← hW]; simp
      have hk0 : W.heap[w.heap.size]? = some (.cells #[.int .u8 0] 5 (0, 0)) := by rw [← hW]; exact al2_0 _ _ _
      have hn0 : W.heap[w.heap.size + 1]? = some (.cells #[.int .u8 255] 5 (0, 0)) := by rw [← hW]; exact al2_1 _ _ _
      have hga : ga < w.heap.size := World.block_lt_of_cell? w _ hda
      have hgb : gb < w.heap.size := World.block_lt_of_cell? w _ hdb
      have hrd : ∀ W', Below w.heap.size w W' → W'.cell? ⟨g, 0, none⟩ = some (.slice (some ⟨ga, oa, none⟩) A.length ca) ∧ W'.cell? ⟨g, 1, none⟩ = some (.slice (some ⟨gb, ob, none⟩) B.length cb) ∧ W'.cell? ⟨g, 2, none⟩ = some (.slice (some ⟨gf, of, none⟩) fl.length cf) ∧
          W'.cell? ⟨gf, of + gat B.length i j, none⟩ = some (.int .u8 x) ∧ W'.cell? ⟨gf, of + gat B.length i (j + 1), none⟩ = some (.int .u8 y) ∧ W'.cell? ⟨gf, of + gat B.length (i + 1) j, none⟩ = some (.int .u8 z) ∧
          W'.cell? ⟨ga, oa + i, none⟩ = some (.int .i32 a) ∧ W'.cell? ⟨gb, ob + j, none⟩ = some (.int .i32 b) := fun W' h =>
        ⟨(h.cell hg0).trans c0, (h.cell hg0).trans c1, (h.cell hg0).trans c2, (h.cell hgf).trans hce, (h.cell hgf).trans hce1, (h.cell hgf).trans hce2, (h.cell hga).trans hda, (h.cell hgb).trans hdb⟩
      obtain ⟨d0, d1, d2, d3, d4, d5, d6, d7⟩ := hrd W hbW
      have HRD := hid hrd
      have HK0 := hid hk0
      have HN0 := hid hn0
      have HBW := hid hbW
      have hnk : w.heap.size + 1 ≠ w.heap.size := by omega
      have hwi : IntKind.i64.wrap (i : Int) = (i : Int) := by rw [IntKind.wrap_i64]; omega
      have hwj : IntKind.i64.wrap (j : Int) = (j : Int) := by rw [IntKind.wrap_i64]; omega
      have hij1 : ((i + 1 : Nat) : Int) = (i : Int) + 1 := by omega
      have hij2 : ((j + 1 : Nat) : Int) = (j : Int) + 1 := by omega
      clear hrd hce hce1 hce2 hda hdb c0 c1 c2 c3 hk0 hn0 hfe
      by_cases hab : a = b
      · subst hab
        go_enter Tryz.func129, Tryz.ntmps129
        go_wp2
        try rw [hW]
        go_quiet ((go_at_call 130; exact Calls.quiet_of_same (at_i g _ B.length cb i j (by omega) (by omega) hB _ _ _ d1 (by omega) (by omega))))
        go_wp2
        go_quiet (fail)
        go_wp2_with (go_at_call 179; refine (try_c _ _ hnk _ _ 255 0 _ (by exact HN0.out) (by exact HK0.out)).mono ?_; rintro e W1 ⟨rfl, hn1, hk1, ht1⟩; have HN1 := hid hn1; have HK1 := hid hk1; have HB1 := hid (ht1.below (bdrew HBW.out _) (fun b hb => by omega)); obtain ⟨d0, d1, d2, d3, d4, d5, d6, d7⟩ := HRD.out W1 HB1.out; clear hn1 hk1 ht1)
        refine wp_region_still_tail 13 (by kernel_rfl) (by kernel_rfl) ?_
        simp only [List.take_succ_cons, List.take_zero, List.drop_succ_cons, List.drop_zero]
        repeat still_step
        still_call (at_i g _ B.length cb i (j + 1) (by omega) (by omega) hB _ _ _ (by exact d1) (by omega) (by omega))
        repeat still_step
        refine wpStill_nil ?_
        change wpList _ _ _ _ _ W1.drew
        go_wp2_with (go_at_call 179; refine (try_c _ _ hnk _ _ _ _ _ (by exact HN1.out) (by exact HK1.out)).mono ?_; rintro e W2 ⟨rfl, hn1, hk1, ht1⟩; have HN2 := hid hn1; have HK2 := hid hk1; have HB2 := hid (ht1.below HB1.out.drew (fun b hb => by omega)); obtain ⟨e0, e1, e2, e3, e4, e5, e6, e7⟩ := HRD.out W2 HB2.out; clear hn1 hk1 ht1)
        refine wp_region_still_tail 13 (by kernel_rfl) (by kernel_rfl) ?_
        simp only [List.take_succ_cons, List.take_zero, List.drop_succ_cons, List.drop_zero]
        repeat still_step
        still_call (at_i g _ B.length cb (i + 1) j (by omega) (by omega) hB _ _ _ (by exact e1) (by omega) (by omega))
        repeat still_step
        refine wpStill_nil ?_
        change wpList _ _ _ _ _ W2.drew
        go_wp2_with (go_at_call 179; refine (try_c _ _ hnk _ _ _ _ _ (by exact HN2.out) (by exact HK2.out)).mono ?_; rintro e W3 ⟨rfl, hn1, hk1, ht1⟩; have HN3 := hid hn1; have HK3 := hid hk1; obtain ⟨l1, l2⟩ := box_cell hk1; obtain ⟨l3, l4⟩ := box_cell hn1; have HB3 := hid (ht1.below HB2.out.drew (fun b hb => by omega)); clear hn1 hk1 ht1)
        go_region
        all_goals go_wp2
        all_goals
          refine bodyPost_ret (results_cell2 (fn := Tryz.f129) rfl _ _ w.heap.size (w.heap.size + 1) _ _ rfl rfl (load5 (by exact set_other (box_set HK3.out _) (by omega) _ _)) (load5 (by exact box_set (set_other HN3.out (by omega) _ _) _))) rfl ?_
          refine ⟨?_, ?_⟩
          · rw [HE.out]
            rfl
          · exact (Touch.setCell (F := fun b => w.heap.size ≤ b) (p := ⟨w.heap.size + 1, 0, none⟩) (Touch.setCell (p := ⟨w.heap.size, 0, none⟩) (Touch.refl _ W3.drew) (.inl (Nat.le_refl _)) _) (.inl (Nat.le_succ _)) _).below HB3.out.drew (fun b h => h)
      · skip
        have hab2 : (a == b) = false := by simp [hab]
        have HAB := hid hab
        clear hab
        go_enter Tryz.func129, Tryz.ntmps129
        go_wp2
        try rw [hW]
        go_quiet ((go_at_call 130; exact Calls.quiet_of_same (at_i g _ B.length cb i j (by omega) (by omega) hB _ _ _ d1 (by omega) (by omega))))
        go_wp2
        go_quiet (fail)
        go_wp2_with (go_at_call 179; refine (try_c _ _ hnk _ _ 255 0 _ (by exact HN0.out) (by exact HK0.out)).mono ?_; rintro e W1 ⟨rfl, hn1, hk1, ht1⟩; have HN1 := hid hn1; have HK1 := hid hk1; have HB1 := hid (ht1.below (bdrew HBW.out _) (fun b hb => by omega)); obtain ⟨d0, d1, d2, d3, d4, d5, d6, d7⟩ := HRD.out W1 HB1.out; clear hn1 hk1 ht1)
        refine wp_region_still_tail 13 (by kernel_rfl) (by kernel_rfl) ?_
        simp only [List.take_succ_cons, List.take_zero, List.drop_succ_cons, List.drop_zero]
        repeat still_step
        still_call (at_i g _ B.length cb i (j + 1) (by omega) (by omega) hB _ _ _ (by exact d1) (by omega) (by omega))
        repeat still_step
        refine wpStill_nil ?_
        change wpList _ _ _ _ _ W1.drew
        go_wp2_with (go_at_call 179; refine (try_c _ _ hnk _ _ _ _ _ (by exact HN1.out) (by exact HK1.out)).mono ?_; rintro e W2 ⟨rfl, hn1, hk1, ht1⟩; have HN2 := hid hn1; have HK2 := hid hk1; have HB2 := hid (ht1.below HB1.out.drew (fun b hb => by omega)); obtain ⟨e0, e1, e2, e3, e4, e5, e6, e7⟩ := HRD.out W2 HB2.out; clear hn1 hk1 ht1)
        refine wp_region_still_tail 13 (by kernel_rfl) (by kernel_rfl) ?_
        simp only [List.take_succ_cons, List.take_zero, List.drop_succ_cons, List.drop_zero]
        repeat still_step
        still_call (at_i g _ B.length cb (i + 1) j (by omega) (by omega) hB _ _ _ (by exact e1) (by omega) (by omega))
        repeat still_step
        refine wpStill_nil ?_
        change wpList _ _ _ _ _ W2.drew
        go_wp2_with (go_at_call 179; refine (try_c _ _ hnk _ _ _ _ _ (by exact HN2.out) (by exact HK2.out)).mono ?_; rintro e W3 ⟨rfl, hn1, hk1, ht1⟩; have HN3 := hid hn1; have HK3 := hid hk1; obtain ⟨l1, l2⟩ := box_cell hk1; obtain ⟨l3, l4⟩ := box_cell hn1; have HB3 := hid (ht1.below HB2.out.drew (fun b hb => by omega)); clear hn1 hk1 ht1)
        go_region
        all_goals go_wp2
        all_goals
          refine bodyPost_ret (results_cell2 (fn := Tryz.f129) rfl _ _ w.heap.size (w.heap.size + 1) _ _ rfl rfl (load5 (by exact set_other (box_set HK3.out _) (by omega) _ _)) (load5 (by exact box_set (set_other HN3.out (by omega) _ _) _))) rfl ?_
          refine ⟨?_, ?_⟩
          · rw [HE.out, if_neg HAB.out]
            rfl
          · exact (Touch.setCell (F := fun b => w.heap.size ≤ b) (p := ⟨w.heap.size + 1, 0, none⟩) (Touch.setCell (p := ⟨w.heap.size, 0, none⟩) (Touch.refl _ W3.drew) (.inl (Nat.le_refl _)) _) (.inl (Nat.le_succ _)) _).below HB3.out.drew (fun b h => h)
/- align: fill. -/
/-- the first n cells, row by row: how few, and the kinds -/
def fillF (A B : List Int) : Nat → List Int × List Int
  | 0 => ([], [])
  | n + 1 => if n = 0 then ([0], [0]) else
      ((fillF A B n).1 ++ [(bestF A B (fillF A B n).1 B.length (n / (B.length + 1)) (n % (B.length + 1))).2], (fillF A B n).2 ++ [(bestF A B (fillF A B n).1 B.length (n / (B.length + 1)) (n % (B.length + 1))).1])
theorem fillF_len (A B : List Int) : ∀ n, (fillF A B n).1.length = n ∧ (fillF A B n).2.length = n
  | 0 => ⟨rfl, rfl⟩
  | n + 1 => by
    have h := fillF_len A B n
    unfold fillF
    by_cases h0 : n = 0
    · subst h0; exact ⟨rfl, rfl⟩
    · rw [if_neg h0]; simp [h]
theorem bestF_congr {A B f1 f2 : List Int} {lb i j : Nat} (hj : j ≤ lb) (h : ∀ k, k < gat lb i j → f1.getD k 0 = f2.getD k 0) : bestF A B f1 lb i j = bestF A B f2 lb i j := by
  have e : ∀ a b, a ≤ i → b ≤ j → (a < i ∨ b < j) → f1.getD (gat lb a b) 0 = f2.getD (gat lb a b) 0 := fun a b ha hb hab => h _ (by
    unfold gat
    rcases hab with h1 | h1
    · have h2 : (a + 1) * (lb + 1) ≤ i * (lb + 1) := Nat.mul_le_mul_right _ h1
      rw [Nat.add_mul] at h2
      omega
    · have h2 : a * (lb + 1) ≤ i * (lb + 1) := Nat.mul_le_mul_right _ ha
      omega)
  unfold bestF
  by_cases hi0 : 0 < i
  · by_cases hj0 : 0 < j
    · rw [e (i - 1) (j - 1) (by omega) (by omega) (by omega), e (i - 1) j (by omega) (by omega) (by omega), e i (j - 1) (by omega) (by omega) (by omega)]
    · simp only [hi0, hj0, and_false, if_false, if_true]
      rw [e (i - 1) j (by omega) (by omega) (by omega)]
  · by_cases hj0 : 0 < j
    · simp only [hi0, hj0, false_and, if_false, if_true]
      rw [e i (j - 1) (by omega) (by omega) (by omega)]
    · simp only [hi0, hj0, false_and, if_false]
theorem gat_div {lb i j : Nat} (hj : j ≤ lb) : gat lb i j / (lb + 1) = i ∧ gat lb i j % (lb + 1) = j := by
  unfold gat
  rw [Nat.mul_comm]
  exact ⟨by rw [Nat.mul_add_div (by omega), Nat.div_eq_of_lt (by omega)]; omega, by rw [Nat.mul_add_mod, Nat.mod_eq_of_lt (by omega)]⟩
def zer (n : Nat) : List Int := List.replicate n 0
/-- what the grid holds when n cells are filled -/
def padF (l : List Int) (N : Nat) : List Int := l ++ zer (N - l.length)
theorem padF_len {l : List Int} {N : Nat} (h : l.length ≤ N) : (padF l N).length = N := by simp [padF, zer]; omega
theorem padF_getD {l : List Int} {N k : Nat} (h : k < l.length) : (padF l N).getD k 0 = l.getD k 0 := by
  simp only [padF, List.getD_eq_getElem?_getD]
  rw [List.getElem?_append_left h]
theorem padF_set {l : List Int} {N : Nat} (h : l.length < N) (x : Int) : (padF l N).set l.length x = padF (l ++ [x]) N := by
  unfold padF zer
  rw [List.set_append_right _ _ (Nat.le_refl _), Nat.sub_self, show N - l.length = (N - (l ++ [x]).length) + 1 by simp; omega, List.replicate_succ, List.set_cons_zero, List.append_assoc]
  rfl
theorem padF_zero {l : List Int} {N : Nat} (h : l.length < N) : padF l N = padF (l ++ [0]) N := by
  unfold padF zer
  rw [show N - l.length = (N - (l ++ [0]).length) + 1 by simp; omega, List.replicate_succ, List.append_assoc]
  rfl
theorem mk119 (W : World) {n : Nat} (hn : n ≤ 4225) : (Instr.makeSlice 119 (.int .i64 (n : Int)) (.int .i64 (n : Int))).run Tryz.prog W = .ok (.slice (some ⟨W.heap.size, 0, none⟩) n n) (W.alloc (.cells (by8 (zer n)).toArray 5)) := by
  obtain ⟨i0, hi0, hz0, hz1, hz2⟩ := info_parts info5
  have h := run_makeSlice (P := Tryz.prog) W 119 5 i0 (.int .u8 0) Tryz.underlying119 hi0 hz0 .i64 .i64 (n : Int) (n : Int) (by omega) (Int.le_refl _) (by rw [hz1]; simp; omega) (by rw [hz2]; omega) (by omega)
  rw [hz1, Int.toNat_natCast, Nat.mul_one] at h
  rw [h]
  have he : madeCells (Value.cells (.int .u8 0)) n = (by8 (zer n)).toArray := by
    apply Array.ext_getElem?
    intro i
    by_cases hi : i < n
    · simp [madeCells, by8, zer, Value.cells, hi, Nat.mod_one]
    · simp [madeCells, by8, zer, hi]
  rw [he]
/- align: fill, walked. -/
/-- the grid under way: n cells are filled -/
structure Fil (w wr : World) (g kf kk N : Nat) (va vb : Value) (A B : List Int) (n : Nat) : Prop where
  grid : GridAt wr g va vb (.slice (some ⟨kf, 0, none⟩) N N) (.slice (some ⟨kk, 0, none⟩) N N) A B (padF (fillF A B n).1 N) (padF (fillF A B n).2 N)
  ne : kf ≠ kk
  lf : w.heap.size ≤ kf
  lk : w.heap.size ≤ kk
  below : Below w.heap.size w wr
theorem BS.row {w : World} {g : Nat} {xs : List Int} {n : Nat} (h : w.heap[g]? = some (.cells (by8 xs).toArray 5 (0, 0))) (hn : xs.length = n) (hm : n ≤ maxLen) : BS w (.slice (some ⟨g, 0, none⟩) n n) xs := by
  subst hn
  exact ⟨by simp [by8], .inr ⟨g, 0, xs.length, _, rfl, h, Nat.le_refl _, hm, by simp [by8], by rw [List.drop_zero]; exact List.take_of_length_le (by simp [by8])⟩⟩
theorem cell_far {w : World} {s k : Nat} (h : s ≠ k) (i j : Nat) (v : Value) : (w.setCell ⟨k, j, none⟩ v).cell? ⟨s, i, none⟩ = w.cell? ⟨s, i, none⟩ := World.cell?_of_block (Below.heap_setCell w ⟨k, j, none⟩ v s h)
theorem zer_length (n : Nat) : (zer n).length = n := by simp [zer]
theorem fil_start {w w3 : World} {s N : Nat} {va vb va0 vb0 : Value} {RA RB : List Int} (hN : N ≤ 4225) (hg : w3.heap[s]? = some (.cells #[va, vb, va0, vb0] 243 (0, 0))) (hs : w3.heap.size = s + 1) (hb : Below w.heap.size w w3) (hws : w.heap.size ≤ s) (ha : RS w3 va RA) (hbb : RS w3 vb RB)
    (kf kk : Nat) (hk : (kf = s + 1 ∧ kk = s + 1 + 1) ∨ (kf = s + 1 + 1 ∧ kk = s + 1)) :
    Fil w (((((w3.setCell ⟨s, 2, none⟩ (.slice (some ⟨kf, 0, none⟩) N N)).setCell ⟨s, 3, none⟩ (.slice (some ⟨kk, 0, none⟩) N N)).alloc (.cells (by8 (zer N)).toArray 5)).alloc (.cells (by8 (zer N)).toArray 5)).drew) s kf kk N va vb RA RB 0 := by
  obtain ⟨w4, hw4⟩ : ∃ w4, (w3.setCell ⟨s, 2, none⟩ (.slice (some ⟨kf, 0, none⟩) N N)).setCell ⟨s, 3, none⟩ (.slice (some ⟨kk, 0, none⟩) N N) = w4 := ⟨_, rfl⟩
  have hs4 : w4.heap.size = s + 1 := by rw [← hw4]; simpa [World.setCell] using hs
  have hg4 : w4.heap[s]? = some (.cells #[va, vb, .slice (some ⟨kf, 0, none⟩) N N, .slice (some ⟨kk, 0, none⟩) N N] 243 (0, 0)) := by
    rw [← hw4]
    exact heap_setCell_same _ s 3 _ _ _ (heap_setCell_same _ s 2 _ _ _ hg)
  have hto : Touch (fun b => b = s) w3 w4 := by
    rw [← hw4]
    exact Touch.setCell (p := ⟨s, 3, none⟩) (Touch.setCell (F := fun b => b = s) (p := ⟨s, 2, none⟩) (Touch.refl _ w3) (.inl rfl) _) (.inl rfl) _
  have nt : ∀ {v : Value} {xs : List Int}, RS w3 v xs → ∀ k, v.ownBlock = some k → ¬ k = s := fun h k hk e => by
    obtain ⟨cur, hc⟩ := SL.typed h k hk
    rw [e, hg] at hc
    simp at hc
  have ha4 : RS w4 va RA := SL.touch ha hto (nt ha)
  have hb4 : RS w4 vb RB := SL.touch hbb hto (nt hbb)
  rw [hw4]
  have hz0 : padF (fillF RA RB 0).1 N = zer N := by simp [padF, fillF]
  have hz1 : padF (fillF RA RB 0).2 N = zer N := by simp [padF, fillF]
  have h0 := al2_0 w4 (.cells (by8 (zer N)).toArray 5) (.cells (by8 (zer N)).toArray 5)
  have h1 := al2_1 w4 (.cells (by8 (zer N)).toArray 5) (.cells (by8 (zer N)).toArray 5)
  rw [hs4] at h0 h1
  have hm : N ≤ maxLen := by simp only [maxLen]; omega
  refine ⟨⟨alloc_keep (alloc_keep hg4 _) _, (SL.alloc (SL.alloc ha4 _) _).drewN 1, (SL.alloc (SL.alloc hb4 _) _).drewN 1, ?_, ?_⟩, by omega, by omega, by omega, ?_⟩
  · rw [hz0]
    refine BS.drewN (BS.row ?_ (zer_length N) hm) 1
    rcases hk with ⟨rfl, rfl⟩ | ⟨rfl, rfl⟩
    · exact h0
    · exact h1
  · rw [hz1]
    refine BS.drewN (BS.row ?_ (zer_length N) hm) 1
    rcases hk with ⟨rfl, rfl⟩ | ⟨rfl, rfl⟩
    · exact h1
    · exact h0
  · have h5 : Below w.heap.size w w4 := hto.below hb (fun k hk => by omega)
    exact (balloc (balloc h5 _) _).drew
theorem BS.put {w : World} {g n : Nat} {xs : List Int} (h : BS w (.slice (some ⟨g, 0, none⟩) n n) xs) {j : Nat} (hj : j < xs.length) (x : Int) : BS (w.setCell ⟨g, j, none⟩ (.int .u8 x)) (.slice (some ⟨g, 0, none⟩) n n) (xs.set j x) := by
  obtain ⟨A, c, he, _⟩ := BS.form h
  have e1 := (Value.slice.inj he).2.1
  subst e1
  have h2 := SL.set_ (g := g) (off := 0) (cap := xs.length) (j := j) h (by omega) (.int .u8 x)
  rw [Nat.zero_add] at h2
  unfold BS
  rw [List.length_set, by8_set]
  exact h2
theorem fil_step {w wq W2 : World} {s kf kk N : Nat} {va vb : Value} {RA RB : List Int} {n i j : Nat} (h : Fil w wq s kf kk N va vb RA RB n) (hb : Below wq.heap.size wq W2) (hn : n = gat RB.length i j) (hj : j ≤ RB.length) (hnN : n < N) (hn0 : n ≠ 0) (b : Int × Int)
    (hbest : b = bestF RA RB (padF (fillF RA RB n).1 N) RB.length i j) (hws : w.heap.size ≤ s) :
    Fil w ((W2.setCell ⟨kk, n, none⟩ (.int .u8 b.1)).setCell ⟨kf, n, none⟩ (.int .u8 b.2)) s kf kk N va vb RA RB (n + 1) := by
  obtain ⟨l1, l2⟩ := fillF_len RA RB n
  have hb2 : b = bestF RA RB (fillF RA RB n).1 RB.length (n / (RB.length + 1)) (n % (RB.length + 1)) := by
    obtain ⟨d1, d2⟩ := gat_div (lb := RB.length) (i := i) hj
    rw [hbest, hn, d1, d2]
    refine bestF_congr hj (fun k hk => padF_getD ?_)
    rw [← hn, l1]
    omega
  have hf1 : (fillF RA RB (n + 1)).1 = (fillF RA RB n).1 ++ [b.2] := by rw [fillF, if_neg hn0, hb2]
  have hf2 : (fillF RA RB (n + 1)).2 = (fillF RA RB n).2 ++ [b.1] := by rw [fillF, if_neg hn0, hb2]
  have G := h.grid.keep hb
  have hne := h.ne
  have nh : ∀ {k : Nat} {xs : List Int} {m : Nat}, BS W2 (.slice (some ⟨k, 0, none⟩) m m) xs → s ≠ k := fun {k xs m} hk e => by
    obtain ⟨cur, hc⟩ := SL.typed hk k rfl
    rw [← e, G.head] at hc
    simp at hc
  have hsk := nh G.k
  have hsf := nh G.f
  have np : ∀ {k : Nat} {v : Value} {xs ys : List Int} {m : Nat}, RS W2 v xs → BS W2 (.slice (some ⟨k, 0, none⟩) m m) ys → ∀ q, v.ownBlock = some q → q ≠ k := fun {k v xs ys m} hv hk q hq e => by
    obtain ⟨cur, hc⟩ := SL.typed hk k rfl
    obtain ⟨cur2, hc2⟩ := SL.typed hv q hq
    rw [e, hc] at hc2
    simp at hc2
  have hto : Touch (fun q => w.heap.size ≤ q) W2 ((W2.setCell ⟨kk, n, none⟩ (.int .u8 b.1)).setCell ⟨kf, n, none⟩ (.int .u8 b.2)) :=
    Touch.setCell (p := ⟨kf, n, none⟩) (Touch.setCell (p := ⟨kk, n, none⟩) (Touch.refl _ W2) (.inl h.lk) _) (.inl h.lf) _
  refine ⟨⟨set_other (set_other G.head hsk _ _) hsf _ _, ?_, ?_, ?_, ?_⟩, hne, h.lf, h.lk, hto.below (h.below.trans (hb.mono h.below.size)) (fun q hq => hq)⟩
  · exact SL.far (SL.far G.a (np G.a G.k) _) (np G.a G.f) _
  · exact SL.far (SL.far G.b (np G.b G.k) _) (np G.b G.f) _
  · rw [hf1, ← padF_set (by rw [l1]; exact hnN), l1]
    refine BS.put (SL.far G.f (fun q hq e => ?_) _) (by rw [padF_len (by omega)]; exact hnN) _
    have e1 : kf = q := by simpa [Value.ownBlock] using hq
    exact hne (e1.trans e)
  · rw [hf2, ← padF_set (by rw [l2]; exact hnN), l2]
    refine SL.far (BS.put G.k (by rw [padF_len (by omega)]; exact hnN) _) (fun q hq e => ?_) _
    have e1 : kk = q := by simpa [Value.ownBlock] using hq
    exact hne (e1.trans e).symm
theorem fil_zero {w wq : World} {s kf kk N : Nat} {va vb : Value} {RA RB : List Int} (h : Fil w wq s kf kk N va vb RA RB 0) (hN : 0 < N) : Fil w wq s kf kk N va vb RA RB 1 := by
  have e1 : padF (fillF RA RB 0).1 N = padF (fillF RA RB 1).1 N := padF_zero (l := []) hN
  have e2 : padF (fillF RA RB 0).2 N = padF (fillF RA RB 1).2 N := padF_zero (l := []) hN
  refine ⟨?_, h.ne, h.lf, h.lk, h.below⟩
  have := h.grid
  rw [e1, e2] at this
  exact this
noncomputable def pairErr (a b : List UInt8) : Int := if tokErr a = 0 then tokErr b else tokErr a
def FillP (a b : ByteArray) (w : World) (e : Ending) (w' : World) : Prop :=
  Below w.heap.size w w' ∧ ((pairErr (bys a) (bys b) ≠ 0 ∧ e = .returned (.tuple #[.pointer none, .int .i64 (pairErr (bys a) (bys b))])) ∨
    (pairErr (bys a) (bys b) = 0 ∧ tokErr (bys a) = 0 ∧ tokErr (bys b) = 0 ∧ cntR (bys a) ≤ 64 ∧ cntR (bys b) ≤ 64 ∧ ∃ g va vb vf vk, e = .returned (.tuple #[.pointer (some ⟨g, 0, none⟩), .int .i64 0]) ∧
      GridAt w' g va vb vf vk (runesOf (bys a)) (runesOf (bys b)) (fillF (runesOf (bys a)) (runesOf (bys b)) ((cntR (bys a) + 1) * (cntR (bys b) + 1))).1 (fillF (runesOf (bys a)) (runesOf (bys b)) ((cntR (bys a) + 1) * (cntR (bys b) + 1))).2))
set_option maxRecDepth 100000 in
set_option maxHeartbeats 1000000 in
theorem fill_c (a b : ByteArray) (ha : a.size ≤ 1048576) (hb : b.size ≤ 1048576) (w : World) (hT : Tab w) : Calls Tryz.prog 85 #[.string a, .string b] w (FillP a b w) := by
  have hta := token_c a ha w hT
  by_cases hea : tokErr (bys a) = 0
  · have hta2 : Calls Tryz.prog 118 #[.string a] w fun e w' => Below w.heap.size w w' ∧ 0 < cntR (bys a) ∧ cntR (bys a) ≤ 64 ∧ ∃ A c, e = .returned (.tuple #[.slice A (cntR (bys a)) c, .int .i64 0]) ∧ RS w' (.slice A (cntR (bys a)) c) (runesOf (bys a)) ∧ ∀ b, (Value.slice A (cntR (bys a)) c).ownBlock = some b → w.heap.size ≤ b := hta.mono fun e w' ⟨h1, h2⟩ => by
      rcases h2 with ⟨h2, _⟩ | ⟨_, _, h3, h4, h2⟩
      · exact absurd hea h2
      · exact ⟨h1, h3, h4, h2⟩
    have HEA := hid hea
    by_cases heb : tokErr (bys b) = 0
    · have htb2 : ∀ W, Tab W → Calls Tryz.prog 118 #[.string b] W fun e w' => Below W.heap.size W w' ∧ 0 < cntR (bys b) ∧ cntR (bys b) ≤ 64 ∧ ∃ A c, e = .returned (.tuple #[.slice A (cntR (bys b)) c, .int .i64 0]) ∧ RS w' (.slice A (cntR (bys b)) c) (runesOf (bys b)) ∧ ∀ k, (Value.slice A (cntR (bys b)) c).ownBlock = some k → W.heap.size ≤ k := fun W hW => (token_c b hb W hW).mono fun e w' ⟨h1, h2⟩ => by
        rcases h2 with ⟨h2, _⟩ | ⟨_, _, h3, h4, h2⟩
        · exact absurd heb h2
        · exact ⟨h1, h3, h4, h2⟩
      have HEB := hid heb
      have HTB := hid htb2
      clear hta hea heb htb2
      go_enter Tryz.func85, Tryz.ntmps85
      go_wp2_with (first
        | (go_at_call_of 118 a; refine hta2.mono ?_; rintro e w1 ⟨hb1, h1, h2, A1, c1, rfl, hr1, ho1⟩; have HB1 := hid hb1; have HR1 := hid hr1; have HT1 := hid (hT.bel hb1); have HO1 := hid ho1; clear hb1 hr1 ho1)
        | (go_at_call_of 118 b; refine (HTB.out w1 HT1.out).mono ?_; rintro e w2 ⟨hb2, h3, h4, A2, c2, rfl, hr2, ho2⟩; have HB2 := hid (bthen HB1.out hb2); have HR2 := hid hr2; have HR1b : Hid (RS w2 _ _) := hid (SL.keep HR1.out fun k hk => hb2.block k (SL.lt HR1.out k hk)); clear hb2 hr2 ho2))
      have hRAl : (runesOf (bys a)).length = cntR (bys a) := runesTo_length _ _
      have hRBl : (runesOf (bys b)).length = cntR (bys b) := runesTo_length _ _
      obtain ⟨la, hla⟩ : ∃ la, cntR (bys a) = la := ⟨_, rfl⟩
      obtain ⟨lb, hlb⟩ : ∃ lb, cntR (bys b) = lb := ⟨_, rfl⟩
      obtain ⟨RA, hRA⟩ : ∃ RA, runesOf (bys a) = RA := ⟨_, rfl⟩
      obtain ⟨RB, hRB⟩ : ∃ RB, runesOf (bys b) = RB := ⟨_, rfl⟩
      have HF : Hid (∀ e w', Below w.heap.size w w' → (∃ g va vb vf vk, e = .returned (.tuple #[.pointer (some ⟨g, 0, none⟩), .int .i64 0]) ∧ GridAt w' g va vb vf vk RA RB (fillF RA RB ((la + 1) * (lb + 1))).1 (fillF RA RB ((la + 1) * (lb + 1))).2) → FillP a b w e w') := hid (fun e w' h1 h2 => by
        refine ⟨h1, .inr ⟨?_, HEA.out, HEB.out, by omega, by omega, ?_⟩⟩
        · rw [pairErr, if_pos HEA.out, HEB.out]
        · rw [hRA, hRB, hla, hlb]; exact h2)
      rw [hla] at HR1 HR1b HO1 h1 h2 hRAl ⊢
      rw [hlb] at HR2 h3 h4 hRBl ⊢
      rw [hRA] at HR1 HR1b hRAl
      rw [hRB] at HR2 hRBl
      obtain ⟨N, hN⟩ : ∃ N, (la + 1) * (lb + 1) = N := ⟨_, rfl⟩
      have hN1 : N ≤ 4225 := by rw [← hN]; exact Nat.mul_le_mul (show la + 1 ≤ 65 by omega) (show lb + 1 ≤ 65 by omega)
      have hNp : 0 < N := by rw [← hN]; exact Nat.mul_pos (by omega) (by omega)
      have hw : wrap64 (((la : Int) + 1) * ((lb : Int) + 1)) = (N : Int) := by
        have e : ((la : Int) + 1) * ((lb : Int) + 1) = (N : Int) := by rw [← hN]; simp
        rw [e]; unfold wrap64; omega
      rw [hw]
      rw [hN] at HF
      have HN := hid hN
      have hmk := fun W => mk119 W hN1
      clear hw hN hla hlb hRA hRB
      obtain ⟨w3, hw3⟩ : ∃ w3, w2.alloc (Obj.cells #[Value.slice A1 la c1, Value.slice A2 lb c2, Value.slice none 0 0, Value.slice none 0 0] 243) = w3 := ⟨_, rfl⟩
      have hg3 : w3.heap[w2.heap.size]? = some (.cells #[Value.slice A1 la c1, Value.slice A2 lb c2, Value.slice none 0 0, Value.slice none 0 0] 243 (0, 0)) := by rw [← hw3]; exact heap_alloc_new _ _
      have hs3 : w3.heap.size = w2.heap.size + 1 := by rw [← hw3]; simp
      have HB3 : Hid (Below w.heap.size w w3) := hid (by rw [← hw3]; exact balloc HB2.out _)
      have HR13 : Hid (RS w3 (Value.slice A1 la c1) RA) := hid (by rw [← hw3]; exact SL.alloc HR1b.out _)
      have HR23 : Hid (RS w3 (Value.slice A2 lb c2) RB) := hid (by rw [← hw3]; exact SL.alloc HR2.out _)
      obtain ⟨g0, g1, g2, g3⟩ := grid_cells hg3
      have gf2 := frozen_of_row w3 w2.heap.size 2 _ _ hg3
      have gf3 := frozen_of_row w3 w2.heap.size 3 _ _ hg3
      rw [hw3]
      have HG3 := hid hg3
      clear hg3 hw3
      go_cut [] (fun wq => ∃ kf kk, Hid (Fil w wq w2.heap.size kf kk N (.slice A1 la c1) (.slice A2 lb c2) RA RB 0))
      case first =>
        go_region
        all_goals go_wp2
        all_goals go_meet
        case rel => exact ⟨_, _, hid (fil_start hN1 HG3.out hs3 HB3.out HB2.out.size HR13.out HR23.out _ _ (.inl ⟨rfl, rfl⟩))⟩
        case rel => exact ⟨_, _, hid (fil_start hN1 HG3.out hs3 HB3.out HB2.out.size HR13.out HR23.out _ _ (.inr ⟨rfl, rfl⟩))⟩
      case rest =>
        obtain ⟨kf, kk, HFil⟩ := hcut
        clear hmk HG3 HR13 HR23 g0 g1 g2 g3 gf2 gf3 HR2 HR1 HR1b HB1 HT1 hta2 HTB HO1
        go_wp2
        go_loopw [53] (fun iv wr => ∃ i : Nat, i ≤ la + 1 ∧ iv = .int .i64 (i : Int) ∧ Hid (Fil w wr w2.heap.size kf kk N (.slice A1 la c1) (.slice A2 lb c2) RA RB (i * (lb + 1)))) (fun iv _ => la + 1 - (intOf iv).toNat)
        case atStart => exact ⟨0, by omega, rfl, by rw [Nat.zero_mul]; exact HFil⟩
        case round =>
          obtain ⟨i, hi, rfl, HFi⟩ := hrel
          clear HFil
          by_cases hil : i < la + 1
          · have hil2 : (i : Int) < (la : Int) + 1 := by omega
            go_wp2
            go_loopw [59] (fun jv wq => ∃ j : Nat, j ≤ lb + 1 ∧ jv = .int .i64 (j : Int) ∧ Hid (Fil w wq w2.heap.size kf kk N (.slice A1 la c1) (.slice A2 lb c2) RA RB (i * (lb + 1) + j))) (fun jv _ => lb + 1 - (intOf jv).toNat)
            case atStart => exact ⟨0, by omega, rfl, HFi⟩
            case round =>
              obtain ⟨j, hj, rfl, HFj⟩ := hrel
              clear HFi
              by_cases hjl : j < lb + 1
              · have hjl2 : (j : Int) < (lb : Int) + 1 := by omega
                have hgl : gat lb i j < N := by rw [← HN.out]; exact gat_lt (by omega) (by omega)
                have hge : gat lb i j = i * (lb + 1) + j := rfl
                have HGE := hid hge
                clear hge
                by_cases hij : 0 < i + j
                · have hij2 : (0 : Int) < (i : Int) + (j : Int) := by omega
                  obtain ⟨q0, q1, q2, q3⟩ := grid_cells HFj.out.grid.head
                  obtain ⟨b, hb⟩ : ∃ b, bestF RA RB (padF (fillF RA RB (i * (lb + 1) + j)).1 N) RB.length i j = b := ⟨_, rfl⟩
                  have hbc : ∀ W, GridAt W w2.heap.size (.slice A1 la c1) (.slice A2 lb c2) (.slice (some ⟨kf, 0, none⟩) N N) (.slice (some ⟨kk, 0, none⟩) N N) RA RB (padF (fillF RA RB (i * (lb + 1) + j)).1 N) (padF (fillF RA RB (i * (lb + 1) + j)).2 N) →
                      Calls Tryz.prog 129 #[.pointer (some ⟨w2.heap.size, 0, none⟩), .int .i64 i, .int .i64 j] W fun e w' => e = .returned (.tuple #[.int .u8 b.1, .int .u8 b.2]) ∧ Below W.heap.size W w' := fun W hW =>
                    (best_c w2.heap.size _ _ _ _ RA RB _ _ i j (by omega) (by omega) (by omega) (by omega) hij (by rw [padF_len (by rw [(fillF_len RA RB _).1]; have := HGE.out; omega), hRAl, hRBl]; exact HN.out.symm) W hW).mono fun e w' ⟨h1, h2⟩ => ⟨by rw [h1, hb], h2⟩
                  have HBC := hid hbc
                  have HBE := hid hb
                  clear hbc hb
                  have HGd : Hid (GridAt wr.drew w2.heap.size (.slice A1 la c1) (.slice A2 lb c2) (.slice (some ⟨kf, 0, none⟩) N N) (.slice (some ⟨kk, 0, none⟩) N N) RA RB (padF (fillF RA RB (i * (lb + 1) + j)).1 N) (padF (fillF RA RB (i * (lb + 1) + j)).2 N)) := hid (HFj.out.grid.keep ((Below.refl _ wr).drew))
                  have hnek := HFj.out.ne
                  have nes : w2.heap.size ≠ kk := fun e => by
                    obtain ⟨cur, hc⟩ := SL.typed HFj.out.grid.k kk rfl
                    rw [← e, HFj.out.grid.head] at hc
                    simp at hc
                  have nef : w2.heap.size ≠ kf := fun e => by
                    obtain ⟨cur, hc⟩ := SL.typed HFj.out.grid.f kf rfl
                    rw [← e, HFj.out.grid.head] at hc
                    simp at hc
                  have hnek2 : kk ≠ kf := fun e => hnek e.symm
                  have HCL : Hid (∀ W2 : World, GridAt W2 w2.heap.size (.slice A1 la c1) (.slice A2 lb c2) (.slice (some ⟨kf, 0, none⟩) N N) (.slice (some ⟨kk, 0, none⟩) N N) RA RB (padF (fillF RA RB (i * (lb + 1) + j)).1 N) (padF (fillF RA RB (i * (lb + 1) + j)).2 N) →
                      ∃ x1 x2, W2.cell? ⟨kk, gat lb i j, none⟩ = some x1 ∧ W2.cell? ⟨kf, gat lb i j, none⟩ = some x2 ∧ W2.frozen? ⟨kk, gat lb i j, none⟩ = false ∧ W2.frozen? ⟨kf, gat lb i j, none⟩ = false) := hid (fun W2 h => by
                    have lf : (padF (fillF RA RB (i * (lb + 1) + j)).1 N).length = N := padF_len (by rw [(fillF_len RA RB _).1]; have := HGE.out; omega)
                    have lk : (padF (fillF RA RB (i * (lb + 1) + j)).2 N).length = N := padF_len (by rw [(fillF_len RA RB _).2]; have := HGE.out; omega)
                    have hf := h.f
                    have hk := h.k
                    obtain ⟨Af, cf, ef, _⟩ := BS.form hf
                    obtain ⟨rfl, -, rfl⟩ := Value.slice.inj ef
                    obtain ⟨Ak, ck, ek, _⟩ := BS.form hk
                    obtain ⟨rfl, -, rfl⟩ := Value.slice.inj ek
                    rw [show Value.slice (some ⟨kf, 0, none⟩) N N = .slice (some ⟨kf, 0, none⟩) (padF (fillF RA RB (i * (lb + 1) + j)).1 N).length N by rw [lf]] at hf
                    rw [show Value.slice (some ⟨kk, 0, none⟩) N N = .slice (some ⟨kk, 0, none⟩) (padF (fillF RA RB (i * (lb + 1) + j)).2 N).length N by rw [lk]] at hk
                    obtain ⟨g1, o1, e1, d1, f1, -⟩ := BS.item hf (i := gat lb i j) (by rw [lf]; exact hgl)
                    obtain ⟨g2, o2, e2, d2, f2, -⟩ := BS.item hk (i := gat lb i j) (by rw [lk]; exact hgl)
                    obtain ⟨rfl, rfl⟩ : kf = g1 ∧ 0 = o1 := by simpa using e1
                    obtain ⟨rfl, rfl⟩ : kk = g2 ∧ 0 = o2 := by simpa using e2
                    rw [Nat.zero_add] at d1 d2
                    exact ⟨_, _, d2, d1, f2 _, f1 _⟩)
                  have hgI : ((gat lb i j : Nat) : Int) < (N : Int) := by omega
                  have hg0 : (0 : Int) ≤ ((gat lb i j : Nat) : Int) := by omega
                  go_wp2
                  go_region_held3 (fun w' => w'.cell? ⟨w2.heap.size, 1, none⟩ = some (.slice A2 lb c2) ∧ w'.cell? ⟨w2.heap.size, 2, none⟩ = some (.slice (some ⟨kf, 0, none⟩) N N) ∧ w'.cell? ⟨w2.heap.size, 3, none⟩ = some (.slice (some ⟨kk, 0, none⟩) N N))
                    (first | exact ⟨q1, q2, q3⟩ | exact ⟨r1, r2, r3⟩ | exact ⟨(cell_far nes _ _ _).trans r1, (cell_far nes _ _ _).trans r2, (cell_far nes _ _ _).trans r3⟩ | exact ⟨(cell_far nef _ _ _).trans ((cell_far nes _ _ _).trans r1), (cell_far nef _ _ _).trans ((cell_far nes _ _ _).trans r2), (cell_far nef _ _ _).trans ((cell_far nes _ _ _).trans r3)⟩ | go_keep)
                    ((first
                      | (go_at_call 130; refine (at_i w2.heap.size A2 lb c2 i j (by omega) (by omega) h4 _ _ _ (by exact q1) (by omega) (by omega)).mono ?_; rintro e w' ⟨rfl, rfl⟩)
                      | (go_at_call 129; refine (HBC.out _ HGd.out).mono ?_; rintro e W2 ⟨rfl, hbb⟩; have hbb2 : Below wr.heap.size wr W2 := ⟨hbb.os, hbb.tape, hbb.output, hbb.size, hbb.block⟩; have HBB := hid hbb2; have HG2 := hid (HFj.out.grid.keep hbb2); obtain ⟨r0, r1, r2, r3⟩ := grid_cells HG2.out.head; obtain ⟨x1, x2, y1, y2, y3, y4⟩ := HCL.out W2 HG2.out; clear hbb hbb2)))
                  have HST : Hid (Fil w ((W2.setCell ⟨kk, gat lb i j, none⟩ (.int .u8 b.1)).setCell ⟨kf, gat lb i j, none⟩ (.int .u8 b.2)) w2.heap.size kf kk N (.slice A1 la c1) (.slice A2 lb c2) RA RB (i * (lb + 1) + (j + 1))) := hid (by
                    have h := fil_step (n := i * (lb + 1) + j) (i := i) (j := j) HFj.out HBB.out (by rw [hRBl]; rfl) (by omega) (by have := HGE.out; omega) (by
                      intro e
                      have h5 : i * (lb + 1) = 0 := by omega
                      rcases Nat.mul_eq_zero.1 h5 with h6 | h6 <;> omega) b HBE.out.symm HB2.out.size
                    rw [← HGE.out] at h
                    rw [← Nat.add_assoc, ← HGE.out]
                    exact h)
                  clear HG2 r0 r1 r2 r3 y1 y2 y3 y4 q0 q1 q2 q3
                  go_wp2
                  exact ⟨⟨j + 1, by omega, by simp, HST⟩, by simp [intOf]; omega⟩
                · have hij2 : ¬ (0 : Int) < (i : Int) + (j : Int) := by omega
                  obtain ⟨rfl, rfl⟩ : i = 0 ∧ j = 0 := by omega
                  have HST : Hid (Fil w wr w2.heap.size kf kk N (.slice A1 la c1) (.slice A2 lb c2) RA RB (0 * (lb + 1) + (0 + 1))) := hid (by
                    have h := HFj.out
                    rw [Nat.zero_mul] at h ⊢
                    exact fil_zero h hNp)
                  go_wp2
                  exact ⟨⟨1, by omega, by simp, HST⟩, by simp [intOf]⟩
              · obtain rfl : j = lb + 1 := by omega
                have HST : Hid (Fil w wr w2.heap.size kf kk N (.slice A1 la c1) (.slice A2 lb c2) RA RB ((i + 1) * (lb + 1))) := hid (by
                  have h := HFj.out
                  rw [Nat.add_mul, Nat.one_mul]
                  exact h)
                go_wp2
                exact ⟨⟨i + 1, by omega, by simp, HST⟩, by simp [intOf]; omega⟩
          · obtain rfl : i = la + 1 := by omega
            go_wp2
            go_ret2
            have h := HFi.out
            rw [HN.out] at h
            have e1 : padF (fillF RA RB N).1 N = (fillF RA RB N).1 := by simp [padF, zer, (fillF_len RA RB N).1]
            have e2 : padF (fillF RA RB N).2 N = (fillF RA RB N).2 := by simp [padF, zer, (fillF_len RA RB N).2]
            have hg := h.grid
            rw [e1, e2] at hg
            exact HF.out _ _ h.below ⟨w2.heap.size, _, _, _, _, rfl, hg⟩
    · have htb2 : ∀ W, Tab W → Calls Tryz.prog 118 #[.string b] W fun e w' => Below W.heap.size W w' ∧ e = .returned (.tuple #[.slice none 0 0, .int .i64 (tokErr (bys b))]) := fun W hW => (token_c b hb W hW).mono fun e w' ⟨h1, h2⟩ => by
        rcases h2 with ⟨_, h2⟩ | ⟨h2, _⟩
        · exact ⟨h1, h2⟩
        · exact absurd h2 heb
      have HP : Hid (pairErr (bys a) (bys b) = tokErr (bys b)) := hid (by rw [pairErr, if_pos hea])
      have HTB := hid htb2
      have HNE := hid heb
      obtain ⟨q, hq⟩ : ∃ q, tokErr (bys b) = q := ⟨_, rfl⟩
      rw [hq] at HTB HP HNE heb
      have hqn : (q != 0) = true := by rw [bne_iff_ne]; exact heb
      clear hta hea heb htb2 hq
      go_enter Tryz.func85, Tryz.ntmps85
      go_wp2_with (first
        | (go_at_call_of 118 a; refine hta2.mono ?_; rintro e w1 ⟨hb1, h1, h2, A1, c1, rfl, hr1, ho1⟩; have HB1 := hid hb1; have HT1 := hid (hT.bel hb1); clear hb1 hr1 ho1)
        | (go_at_call_of 118 b; refine (HTB.out w1 HT1.out).mono ?_; rintro e w2 ⟨hb2, rfl⟩; have HB2 := hid (bthen HB1.out hb2); clear hb2))
      go_ret2
      exact ⟨HB2.out, .inl ⟨by rw [HP.out]; exact HNE.out, by rw [HP.out]; rfl⟩⟩
  · have hta2 : Calls Tryz.prog 118 #[.string a] w fun e w' => Below w.heap.size w w' ∧ e = .returned (.tuple #[.slice none 0 0, .int .i64 (tokErr (bys a))]) := hta.mono fun e w' ⟨h1, h2⟩ => by
      rcases h2 with ⟨_, h2⟩ | ⟨h2, _⟩
      · exact ⟨h1, h2⟩
      · exact absurd h2 hea
    have HP : Hid (pairErr (bys a) (bys b) = tokErr (bys a)) := hid (by rw [pairErr, if_neg hea])
    have HNE := hid hea
    obtain ⟨q, hq⟩ : ∃ q, tokErr (bys a) = q := ⟨_, rfl⟩
    rw [hq] at hta2 HP HNE hea
    have hqn : (q != 0) = true := by rw [bne_iff_ne]; exact hea
    clear hta hea hq
    go_enter Tryz.func85, Tryz.ntmps85
    go_wp2_with (go_at_call_of 118 a; refine hta2.mono ?_; rintro e w1 ⟨hb1, rfl⟩; have HB1 := hid hb1; clear hb1)
    go_ret2
    exact ⟨HB1.out, .inl ⟨by rw [HP.out]; exact HNE.out, by rw [HP.out]; rfl⟩⟩
end Go.Proofs.YteigplfldhdakaaGreatDoor
/- align, plain: what kinds the grid may hold; the steps from its end. -/
namespace Go.Proofs.YteigplfldhdakaaGreatDoor
/-- may this kind stand at (i, j)? -/
def okKind (i j : Nat) (k : Int) : Prop := 0 ≤ k ∧ k ≤ 3 ∧ (k ≠ 3 → 0 < i) ∧ (k ≠ 2 → 0 < j)
theorem tryK_cases (s : Int × Int) (k f : Int) : (f < s.2 ∧ tryK s k f = (k, f)) ∨ (s.2 ≤ f ∧ tryK s k f = s) := by
  unfold tryK
  by_cases h : f < s.2
  · exact .inl ⟨h, if_pos h⟩
  · exact .inr ⟨by omega, if_neg h⟩
theorem inc8_of {x : Int} (h0 : 0 ≤ x) (h1 : x ≤ 254) : inc8 x = x + 1 := by unfold inc8; omega
theorem bestF_ok {A B fl : List Int} {lb i j : Nat} (hij : 0 < i + j) (hi : i ≤ 64) (hj : j ≤ 64)
    (h : ∀ a b, a ≤ i → b ≤ j → (a < i ∨ b < j) → 0 ≤ fl.getD (gat lb a b) 0 ∧ fl.getD (gat lb a b) 0 ≤ (a + b : Nat)) :
    0 ≤ (bestF A B fl lb i j).2 ∧ (bestF A B fl lb i j).2 ≤ (i + j : Nat) ∧ okKind i j (bestF A B fl lb i j).1 := by
  unfold bestF
  by_cases hi0 : 0 < i
  · have h2 := h (i - 1) j (by omega) (by omega) (by omega)
    have e2 := inc8_of h2.1 (by omega)
    by_cases hj0 : 0 < j
    · have h3 := h i (j - 1) (by omega) (by omega) (by omega)
      have e3 := inc8_of h3.1 (by omega)
      have h1 := h (i - 1) (j - 1) (by omega) (by omega) (by omega)
      have e1 := inc8_of h1.1 (by omega)
      simp only [hi0, hj0, and_self, if_true]
      rw [e1, e2, e3]
      generalize fl.getD (gat lb (i - 1) (j - 1)) 0 = x at h1 ⊢
      generalize fl.getD (gat lb (i - 1) j) 0 = y at h2 ⊢
      generalize fl.getD (gat lb i (j - 1)) 0 = z at h3 ⊢
      have key : ∀ s : Int × Int, (0 ≤ s.1 ∧ s.1 ≤ 3 ∧ 0 ≤ s.2) → 0 ≤ (tryK (tryK s 2 (y + 1)) 3 (z + 1)).2 ∧ (tryK (tryK s 2 (y + 1)) 3 (z + 1)).2 ≤ (i + j : Nat) ∧ okKind i j (tryK (tryK s 2 (y + 1)) 3 (z + 1)).1 := by
        intro s hs
        rcases tryK_cases s 2 (y + 1) with ⟨c1, d1⟩ | ⟨c1, d1⟩
        · rw [d1]
          rcases tryK_cases (2, y + 1) 3 (z + 1) with ⟨c2, d2⟩ | ⟨c2, d2⟩
          · rw [d2]; exact ⟨by dsimp only; omega, by dsimp only; omega, by unfold okKind; dsimp only; omega⟩
          · rw [d2]; exact ⟨by dsimp only; omega, by dsimp only; omega, by unfold okKind; dsimp only; omega⟩
        · rw [d1]
          rcases tryK_cases s 3 (z + 1) with ⟨c2, d2⟩ | ⟨c2, d2⟩
          · rw [d2]; exact ⟨by dsimp only; omega, by dsimp only; omega, by unfold okKind; dsimp only; omega⟩
          · rw [d2]; exact ⟨by omega, by omega, by unfold okKind; omega⟩
      apply key
      by_cases hab : A.getD (i - 1) 0 = B.getD (j - 1) 0
      · rw [if_pos hab]
        rcases tryK_cases (0, 255) 0 x with ⟨c1, d1⟩ | ⟨c1, d1⟩ <;> rw [d1] <;> dsimp only <;> omega
      · rw [if_neg hab]
        rcases tryK_cases (0, 255) 1 (x + 1) with ⟨c1, d1⟩ | ⟨c1, d1⟩ <;> rw [d1] <;> dsimp only <;> omega
    · simp only [hi0, hj0, and_false, if_false, if_true]
      rw [e2]
      generalize fl.getD (gat lb (i - 1) j) 0 = y at h2 ⊢
      rcases tryK_cases (0, 255) 2 (y + 1) with ⟨c1, d1⟩ | ⟨c1, d1⟩
      · rw [d1]; exact ⟨by dsimp only; omega, by dsimp only; omega, by unfold okKind; dsimp only; omega⟩
      · dsimp only at c1; omega
  · have hj0 : 0 < j := by omega
    have h3 := h i (j - 1) (by omega) (by omega) (by omega)
    have e3 := inc8_of h3.1 (by omega)
    simp only [hi0, hj0, false_and, if_false, if_true]
    rw [e3]
    generalize fl.getD (gat lb i (j - 1)) 0 = z at h3 ⊢
    rcases tryK_cases (0, 255) 3 (z + 1) with ⟨c1, d1⟩ | ⟨c1, d1⟩
    · rw [d1]; exact ⟨by dsimp only; omega, by dsimp only; omega, by unfold okKind; dsimp only; omega⟩
    · dsimp only at c1; omega
theorem gat_inj {lb i j : Nat} (hj : j ≤ lb) {n : Nat} (h : gat lb i j = n) : n / (lb + 1) = i ∧ n % (lb + 1) = j := by rw [← h]; exact gat_div hj
theorem getD_append_left {l m : List Int} {k : Nat} (h : k < l.length) : (l ++ m).getD k 0 = l.getD k 0 := by
  simp only [List.getD_eq_getElem?_getD]
  rw [List.getElem?_append_left h]
theorem getD_append_last {l : List Int} {x : Int} {k : Nat} (h : k = l.length) : (l ++ [x]).getD k 0 = x := by
  subst h
  simp [List.getD_eq_getElem?_getD]
theorem fillF_ok (A B : List Int) (hA : A.length ≤ 64) (hB : B.length ≤ 64) : ∀ n, n ≤ (A.length + 1) * (B.length + 1) → ∀ i j, j ≤ B.length → gat B.length i j < n →
    0 ≤ (fillF A B n).1.getD (gat B.length i j) 0 ∧ (fillF A B n).1.getD (gat B.length i j) 0 ≤ (i + j : Nat) ∧ (0 < i + j → okKind i j ((fillF A B n).2.getD (gat B.length i j) 0))
  | 0, _, i, j, _, h => absurd h (by omega)
  | n + 1, hn, i, j, hj, h => by
    have ih := fillF_ok A B hA hB n (by omega)
    obtain ⟨l1, l2⟩ := fillF_len A B n
    unfold fillF
    by_cases hn0 : n = 0
    · subst hn0
      rw [if_pos rfl]
      have hg : gat B.length i j = 0 := by omega
      have hij : i = 0 ∧ j = 0 := by
        unfold gat at hg
        have h1 : i * (B.length + 1) = 0 := by omega
        rcases Nat.mul_eq_zero.1 h1 with h2 | h2 <;> omega
      rw [hg, hij.1, hij.2]
      exact ⟨by decide, by decide, fun h => by omega⟩
    · rw [if_neg hn0]
      by_cases hlt : gat B.length i j < n
      · dsimp only
        rw [getD_append_left (by omega), getD_append_left (by omega)]
        exact ih i j hj hlt
      · have he : gat B.length i j = n := by omega
        obtain ⟨d1, d2⟩ := gat_inj hj he
        dsimp only
        rw [d1, d2, getD_append_last (by omega), getD_append_last (by omega)]
        have hi : i ≤ A.length := by
          rcases Nat.lt_or_ge A.length i with h1 | h1
          · have h2 : (A.length + 1) * (B.length + 1) ≤ i * (B.length + 1) := Nat.mul_le_mul_right _ h1
            unfold gat at he
            omega
          · exact h1
        have hij : 0 < i + j := by
          rcases Nat.eq_zero_or_pos (i + j) with h1 | h1
          · exfalso
            obtain ⟨rfl, rfl⟩ : i = 0 ∧ j = 0 := by omega
            unfold gat at he
            omega
          · exact h1
        obtain ⟨r1, r2, r3⟩ := bestF_ok (A := A) (B := B) (fl := (fillF A B n).1) (lb := B.length) hij (by omega) (by omega) (fun a b ha hb hab => by
          have hlt2 : gat B.length a b < n := by
            rw [← he]
            unfold gat
            rcases hab with h1 | h1
            · have h2 : (a + 1) * (B.length + 1) ≤ i * (B.length + 1) := Nat.mul_le_mul_right _ h1
              rw [Nat.add_mul] at h2
              omega
            · have h2 : a * (B.length + 1) ≤ i * (B.length + 1) := Nat.mul_le_mul_right _ ha
              omega
          have := ih a b (by omega) hlt2
          exact ⟨this.1, this.2.1⟩)
        exact ⟨r1, r2, fun _ => r3⟩
/-- a step: its kind, and the two runes -/
abbrev Stp := Int × Int × Int
/-- where a step of this kind came from -/
def fromI (k : Int) (i : Nat) : Nat := if k = 3 then i else i - 1
def fromJ (k : Int) (j : Nat) : Nat := if k = 2 then j else j - 1
def stpAt (A B : List Int) (k : Int) (i j : Nat) : Stp := (k, if k = 3 then 0 else A.getD (i - 1) 0, if k = 2 then 0 else B.getD (j - 1) 0)
/-- the steps of a grid, from the last one -/
def backF (A B kl : List Int) : Nat → Nat → Nat → List Stp
  | 0, _, _ => []
  | n + 1, i, j => if i + j = 0 then [] else
      stpAt A B (kl.getD (gat B.length i j) 0) i j :: backF A B kl n (fromI (kl.getD (gat B.length i j) 0) i) (fromJ (kl.getD (gat B.length i j) 0) j)
def okGrid (A B kl : List Int) : Prop := ∀ i j, i ≤ A.length → j ≤ B.length → 0 < i + j → okKind i j (kl.getD (gat B.length i j) 0)
theorem from_lt {k : Int} {i j : Nat} (h : okKind i j k) (hij : 0 < i + j) : fromI k i + fromJ k j < i + j ∧ fromI k i ≤ i ∧ fromJ k j ≤ j := by
  obtain ⟨h1, h2, h3, h4⟩ := h
  unfold fromI fromJ
  by_cases h5 : k = 3
  · have := h4 (by omega)
    rw [if_pos h5, if_neg (by omega)]
    omega
  · have := h3 h5
    rw [if_neg h5]
    split <;> omega
theorem backF_more {A B kl : List Int} (hg : okGrid A B kl) : ∀ (n m i j : Nat), i ≤ A.length → j ≤ B.length → i + j ≤ n → i + j ≤ m → backF A B kl n i j = backF A B kl m i j
  | 0, m, i, j, _, _, h, _ => by
    obtain ⟨rfl, rfl⟩ : i = 0 ∧ j = 0 := by omega
    cases m <;> simp [backF]
  | n + 1, 0, i, j, _, _, _, h => by
    obtain ⟨rfl, rfl⟩ : i = 0 ∧ j = 0 := by omega
    simp [backF]
  | n + 1, m + 1, i, j, hi, hj, h, h' => by
    unfold backF
    by_cases h0 : i + j = 0
    · rw [if_pos h0, if_pos h0]
    · rw [if_neg h0, if_neg h0]
      obtain ⟨f1, f2, f3⟩ := from_lt (hg i j hi hj (by omega)) (by omega)
      rw [backF_more hg n m _ _ (by omega) (by omega) (by omega) (by omega)]
def stepsB (A B kl : List Int) (i j : Nat) : List Stp := backF A B kl (i + j) i j
theorem stepsB_zero (A B kl : List Int) : stepsB A B kl 0 0 = [] := rfl
theorem stepsB_cons {A B kl : List Int} (hg : okGrid A B kl) {i j : Nat} (hi : i ≤ A.length) (hj : j ≤ B.length) (hij : 0 < i + j) :
    stepsB A B kl i j = stpAt A B (kl.getD (gat B.length i j) 0) i j :: stepsB A B kl (fromI (kl.getD (gat B.length i j) 0) i) (fromJ (kl.getD (gat B.length i j) 0) j) := by
  obtain ⟨n, hn⟩ : ∃ n, i + j = n + 1 := ⟨i + j - 1, by omega⟩
  obtain ⟨f1, f2, f3⟩ := from_lt (hg i j hi hj hij) hij
  unfold stepsB
  rw [hn, backF, if_neg (by omega), backF_more hg n _ _ _ (by omega) (by omega) (by omega) (Nat.le_refl _)]
theorem stepsB_len {A B kl : List Int} (hg : okGrid A B kl) : ∀ (n i j : Nat), i ≤ A.length → j ≤ B.length → i + j ≤ n → (stepsB A B kl i j).length ≤ i + j
  | 0, i, j, _, _, h => by
    obtain ⟨rfl, rfl⟩ : i = 0 ∧ j = 0 := by omega
    simp [stepsB_zero]
  | n + 1, i, j, hi, hj, h => by
    by_cases h0 : i + j = 0
    · obtain ⟨rfl, rfl⟩ : i = 0 ∧ j = 0 := by omega
      simp [stepsB_zero]
    · obtain ⟨f1, f2, f3⟩ := from_lt (hg i j hi hj (by omega)) (by omega)
      rw [stepsB_cons hg hi hj (by omega), List.length_cons]
      have := stepsB_len hg n _ _ (by omega) (by omega) (show fromI (kl.getD (gat B.length i j) 0) i + fromJ (kl.getD (gat B.length i j) 0) j ≤ n by omega)
      omega
theorem okGrid_fill (A B : List Int) (hA : A.length ≤ 64) (hB : B.length ≤ 64) : okGrid A B (fillF A B ((A.length + 1) * (B.length + 1))).2 := fun i j hi hj hij =>
  (fillF_ok A B hA hB _ (Nat.le_refl _) i j hj (gat_lt hi hj)).2.2 hij
/-- the steps of two rows of runes, in order -/
def stepsF (A B : List Int) : List Stp := (stepsB A B (fillF A B ((A.length + 1) * (B.length + 1))).2 A.length B.length).reverse
end Go.Proofs.YteigplfldhdakaaGreatDoor
