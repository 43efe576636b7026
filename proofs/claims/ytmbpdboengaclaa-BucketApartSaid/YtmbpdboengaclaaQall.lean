/- The walk of the law BucketAll. -/
import Derived.Test.YtmbpdboengaclaaQh
namespace Go.Proofs.Ytmbpdboengaclaa
set_option linter.unusedVariables false
set_option linter.unusedSimpArgs false
open Go.RowKit
/-- some block of an items' slice: its cells -/
theorem cellsI_length : ∀ l : List (Int × Int), (cellsI l).length = l.length * 2
  | [] => rfl
  | p :: r => by
    have := cellsI_length r
    simp only [cellsI, List.flatMap_cons, List.length_append, List.length_cons] at this ⊢
    simp at this ⊢
    omega
theorem cellsI_get : ∀ (l : List (Int × Int)) (i : Nat) (p : Int × Int), l[i]? = some p → (cellsI l)[i * 2]? = some (.int .i64 p.1) ∧ (cellsI l)[i * 2 + 1]? = some (.int .i64 p.2)
  | [], i, p, h => by simp at h
  | a :: r, 0, p, h => by
    obtain rfl : a = p := by simpa using h
    simp [cellsI]
  | a :: r, i + 1, p, h => by
    have h2 := cellsI_get r i p (by simpa using h)
    have e : cellsI (a :: r) = [.int .i64 a.1, .int .i64 a.2] ++ cellsI r := by simp [cellsI]
    rw [e, List.getElem?_append_right (by simp; omega), List.getElem?_append_right (by simp; omega)]
    have e1 : (i + 1) * 2 - [Value.int IntKind.i64 a.1, Value.int IntKind.i64 a.2].length = i * 2 := by simp; omega
    have e2 : (i + 1) * 2 + 1 - [Value.int IntKind.i64 a.1, Value.int IntKind.i64 a.2].length = i * 2 + 1 := by simp; omega
    rw [e1, e2]
    exact h2
theorem cellsI_one (l : List (Int × Int)) : ∀ u ∈ cellsI l, u.oneCell' = true := fun u hu => by
  obtain ⟨p, _, hp⟩ := List.mem_flatMap.1 hu
  simp only [List.mem_cons, List.not_mem_nil, or_false] at hp
  rcases hp with rfl | rfl <;> rfl
set_option maxRecDepth 100000 in
set_option maxHeartbeats 2000000 in
theorem all_law (a : Option Addr) (len cap : Nat) (zs : List Int) (w : World) (hz : IsRow .u16 w a len cap zs) :
    Calls Try.prog 7 #[.slice a len cap] w fun e w' => e = .returned (.bool true) ∧ Below w.heap.size w w' := by
  have HB := hid (Below.refl w.heap.size w)
  have HZ := hid hz
  have hl1 := hz.le
  clear hz
  obtain ⟨i0, hi0, hz0, hz1, hz2⟩ := info_parts info31
  go_enter Try.func7, Try.ntmps7
  go_wp2_with (first
    | (go_at_call 9; refine (alive_any _).mono ?_; rintro e w1 ⟨rfl, hb⟩; replace HB := hid hb; clear hb)
    | (go_at_call 10; refine (new_l _ _).mono ?_; rintro e w2 ⟨-, hp⟩; obtain ⟨rfl, hq, hb⟩ := hp (by decide) (by decide); have HN := hid hb.size; have HQ := hid hq; have HW := hid HB.out.size; replace HB := hid (bthen HB.out hb); clear hp hq hb))
  · go_ret
    exact ⟨rfl, HB.out⟩
  have hl3 : len ≤ 300 := by omega
  have HF : Hid (∀ k, w1.heap.size ≤ k → w.heap.size ≤ k) := hid fun k hk => Nat.le_trans HW.out hk
  go_loopw [25] (fun iv wr => ∃ (i : Nat) (L : List (Int × Int)), i ≤ len ∧ iv = .int .i64 (i : Int) ∧ Hid (QL (fun k => w1.heap.size ≤ k) wr w1.heap.size L 4351 0) ∧ L.length ≤ i ∧ Hid (Below w.heap.size w wr) ∧ Hid (w1.heap.size ≤ wr.heap.size)) (fun iv _ => len - (intOf iv).toNat)
  case atStart => exact ⟨0, [], by omega, rfl, HQ, Nat.le_refl _, HB, HN⟩
  case round =>
    obtain ⟨i, L, hi, rfl, HQ2, hL, HB2, HN2⟩ := hrel
    by_cases hlt : i < len
    · obtain ⟨x, rfl, hc, hz0', hz1'⟩ := HZ.out.get HB2.out hlt
      have hlt2 : (i : Int) < (len : Int) := by omega
      go_wp2_with fail
      refine (push_l HQ2.out (fun k hk => Nat.le_trans HN2.out hk) (by omega) _ _).mono ?_
      rintro e w3 ⟨hp1, hp2⟩
      by_cases hc5 : el zs i ≤ 4351
      · obtain ⟨rfl, hq, ht⟩ := hp2 (by omega) hc5
        have hL2 := ins_length (el zs i) (i : Int) L
        go_wp2
        go_roundw
        case rel => exact ⟨i + 1, _, by omega, by simp, hid hq, by omega, hid (ht.below HB2.out HF.out), hid (Nat.le_trans HN2.out ht.size)⟩
        case measure => simp [intOf]; omega
      · obtain ⟨rfl, rfl⟩ := hp1 (by omega)
        go_wp2
        go_roundw
        case rel => exact ⟨i + 1, _, by omega, by simp, HQ2, by omega, HB2, HN2⟩
        case measure => simp [intOf]; omega
    · obtain rfl : i = len := by omega
      go_wp2_with fail
      obtain ⟨N0, hN0⟩ : ∃ N0, N0 = wr.heap.size := ⟨_, rfl⟩
      obtain ⟨Fq, hFq⟩ : ∃ Fq : Nat → Prop, Fq = fun k => w1.heap.size ≤ k ∧ k < wr.heap.size := ⟨_, rfl⟩
      have HF1 : Hid (∀ k, Fq k → w.heap.size ≤ k ∧ k < N0) := hid (fun k hk => by rw [hFq] at hk; exact ⟨HF.out k hk.1, by rw [hN0]; exact hk.2⟩)
      have hq1 : QL Fq wr w1.heap.size L 4351 0 := by rw [hFq]; exact HQ2.out.bound
      clear hFq
      refine (all_l hq1 (by omega)).mono ?_
      rintro e w3 ⟨va, rfl, hown, hnil, hb3⟩
      have hq3 := hq1.below hb3
      have HB3 := hid (HB2.out.trans (hb3.mono HB2.out.size))
      by_cases hLn : L = []
      · obtain rfl := hnil.2 hLn
        subst hLn
        have HQ3 := hid (hq3.below (balloc (Below.refl _ w3) (.cells #[] 31)))
        have HB4 := hid (balloc HB3.out (.cells #[] 31))
        clear hown hq3 hq1 hnil HB3
        go_wp2_with fail
        go_loopw [43] (fun iv wr => iv = .int .i64 0 ∧ wr = w3.alloc (.cells #[] 31)) (fun _ _ => 0)
        case atStart => exact ⟨rfl, rfl⟩
        case round =>
          obtain ⟨rfl, rfl⟩ := hrel
          go_wp2_with (go_at_call 14; refine (len_l HQ3.out).mono ?_; rintro e w2 ⟨rfl, rfl⟩)
          go_loopw [58] (fun iv wr => iv = .int .i64 0 ∧ wr = w3.alloc (.cells #[] 31)) (fun _ _ => 0)
          case atStart => exact ⟨rfl, rfl⟩
          case round =>
            obtain ⟨rfl, rfl⟩ := hrel
            go_wp2_with fail
            refine (all_l HQ3.out (by simp)).mono ?_
            rintro e w5 ⟨vb, rfl, hown5, hnil5, hb5⟩
            obtain rfl := hnil5.2 rfl
            have HQ5 := hid (HQ3.out.below hb5)
            have HB5 := hid (bthen HB4.out hb5)
            go_wp2_with (go_at_call 14; refine (len_l HQ5.out).mono ?_; rintro e w2 ⟨rfl, rfl⟩)
            go_ret
            exact ⟨rfl, HB5.out⟩
      · have hLp : 0 < L.length := List.length_pos_iff.2 hLn
        rcases hown.2 with ⟨rfl, h0⟩ | ⟨ga, ca, cur, rfl, hge, hga, hnc, hm, hs, hx⟩
        · omega
        have hL300 : L.length ≤ 300 := by omega
        have hq4 := hq3.below (balloc (Below.refl _ w3) (.cells #[] 31))
        have hga4 : (w3.alloc (.cells #[] 31)).heap[ga]? = some (.cells cur 31 (0, 0)) := (Below.heap_alloc w3 _ ga (blk_lt hga)).trans hga
        have hSLe : SL (w3.alloc (.cells #[] 31)) 31 2 (.slice (some ⟨w3.heap.size, 0, none⟩) 0 0) 0 [] := ⟨rfl, .inr ⟨w3.heap.size, 0, 0, #[], rfl, heap_alloc_new w3 _, by omega, by simp [maxLen], by simp, by simp⟩⟩
        have hnews : ∀ (j : Nat) (u : Value), (cellsI L)[j]? = some u → (w3.alloc (.cells #[] 31)).cell? ((⟨ga, 0, none⟩ : Addr).add j) = some u := fun j u hu => by
          rw [Addr.add_lit, cell_of_row _ ga _ _ _ _ hga4, Nat.zero_add, ← Array.getElem?_toList]
          rw [← hx, List.getElem?_take] at hu
          split at hu
          · exact hu
          · cases hu
        have hone := cellsI_one L
        have hcl := cellsI_length L
        have h63 : 0 + L.length ≤ maxLen := by simp only [maxLen]; omega
        have hby : (0 + L.length) * 16 ≤ 140737488355328 := by omega
        have hgal := blk_lt hga
        go_wp2_with (at_builtin; refine wpList_append_SL rfl _ _ _ rfl 31 i0 _ 2 16 Try.underlying51 hi0 hz0 hz1 hz2 rfl Nat.two_pos (.slice (some ⟨w3.heap.size, 0, none⟩) 0 0) 0 [] rfl hSLe ⟨ga, 0, none⟩ L.length ca (cellsI L) rfl hcl hnews hone hLp h63 hby ?_; intro gb offb capb w4 hs4 hg4 ho4; have HS4 := hid hs4; have HG4 := hid hg4; have HO4 := hid ho4; clear hs4 hg4 ho4)
        have hs4 := HS4.out
        rw [Nat.zero_add, List.nil_append] at hs4
        have hgb : w3.heap.size ≤ gb := by
          rcases HO4.out with h | h
          · have : w3.heap.size = gb := by simpa [Value.ownBlock] using h
            omega
          · simp at h; omega
        have hb4 : Below w3.heap.size w3 w4 := by
          refine ⟨HG4.out.os, HG4.out.tape, HG4.out.output, by have := HG4.out.size; simp at this; omega, fun k hk => ?_⟩
          refine (HG4.out.block k (by simp; omega) (fun e => ?_)).trans (Below.heap_alloc w3 _ k hk)
          have : k = w3.heap.size := by simpa [Value.ownBlock] using e
          omega
        have hQ4 := hid (hq3.below hb4)
        have hB4 := hid (bthen HB3.out hb4)
        have hga5 : w4.heap[ga]? = some (.cells cur 31 (0, 0)) := (hb4.block ga hgal).trans hga
        have hS4 := hid hs4
        have HGE : Hid (N0 ≤ ga) := hid (by rw [hN0]; exact hge)
        have HGB : Hid (w.heap.size ≤ ga) := hid (Nat.le_trans HB2.out.size hge)
        have hsz3 := hid hb3.size
        have hs2 : L.length * 2 ≤ cur.size := by have : L.length * 2 ≤ ca * 2 := Nat.mul_le_mul_right _ hnc; omega
        clear HS4 HG4 HO4 hs4 hb4 hga hga4 hSLe hnews hq4 hq3 hq1 hown hnil hb3 HB3 hx hs hm
        go_loopw [43] (fun iv wq => ∃ j : Nat, j ≤ L.length ∧ iv = .int .i64 (j : Int) ∧ Hid (∃ cs, wq.heap[ga]? = some (.cells cs 31 (0, 0)) ∧ cs.size = cur.size) ∧ Hid (Touch (fun k => k = ga) w4 wq)) (fun iv _ => L.length - (intOf iv).toNat)
        case atStart => exact ⟨0, by omega, rfl, hid ⟨cur, hga5, rfl⟩, hid (Touch.refl _ _)⟩
        case round =>
          obtain ⟨j, hj, rfl, HC, HT⟩ := hrel
          by_cases hjl : j < L.length
          · obtain ⟨cs, hcs, hcn⟩ := HC.out
            have hj2 : (j : Int) < (L.length : Int) := by omega
            obtain ⟨u, hu⟩ : ∃ u, wr.cell? ⟨ga, j * 2 + 1, none⟩ = some u := ⟨cs[j * 2 + 1]'(by omega), by rw [cell_of_row wr ga _ _ _ _ hcs]; exact Array.getElem?_eq_getElem _⟩
            have huf : wr.frozen? ⟨ga, j * 2 + 1, none⟩ = false := frozen_of_row wr ga _ _ _ hcs
            go_wp2_with fail
            go_roundw
            case rel => exact ⟨j + 1, by omega, by simp, hid ⟨_, heap_setCell_same _ ga (j * 2 + 1) _ _ _ hcs, by simp [hcn]⟩, hid (HT.out.setCell (p := ⟨ga, j * 2 + 1, none⟩) (.inl rfl) _)⟩
            case measure => simp [intOf]; omega
          · obtain rfl : j = L.length := by omega
            have hB5 : Hid (Below w.heap.size w wr) := hid (HT.out.below hB4.out (fun k hk => by rw [hk]; exact HGB.out))
            have hQ5 := hid (hQ4.out.touch HT.out (fun k hk e => by have := HGE.out; have := (HF1.out k hk).2; omega))
            have hS5 := hid (hS4.out.touch HT.out (fun k hk e => by
              have : gb = k := by simpa [Value.ownBlock] using hk
              omega))
            clear HC HT hB4 hQ4 hS4
            go_wp2_with (go_at_call 14; refine (len_l hQ5.out).mono ?_; rintro e w2 ⟨rfl, rfl⟩)
            have HGB2 : Hid (N0 ≤ gb) := hid (by have := HGE.out; omega)
            go_loopw [58] (fun iv wq => ∃ (j : Nat) (now : Int), j ≤ L.length ∧ iv = .int .i64 (j : Int) ∧ Hid (QL Fq wq w1.heap.size (L.drop j) 4351 now) ∧ Hid (SL wq 31 2 (.slice (some ⟨gb, offb, none⟩) L.length capb) L.length (cellsI L)) ∧ Hid (Below w.heap.size w wq)) (fun iv _ => L.length - (intOf iv).toNat)
            case atStart => exact ⟨0, 0, by omega, rfl, hQ5, hS5, hB5⟩
            case round =>
              obtain ⟨j, now, hj, rfl, HQ6, HS6, HB6⟩ := hrel
              clear hQ5 hS5 hB5
              by_cases hjl : j < L.length
              · obtain ⟨g', off', cap', hv', _, _, hgc, _⟩ := HS6.out.open_ hLp
                simp only [Value.slice.injEq, Option.some.injEq, Addr.mk.injEq, and_true, true_and] at hv'
                obtain ⟨⟨rfl, rfl⟩, rfl⟩ := hv'
                obtain ⟨hg1, hg2⟩ := cellsI_get L j L[j] (List.getElem?_eq_getElem hjl)
                have k1 : wr.cell? ⟨gb, offb + j * 2, none⟩ = some (.int .i64 L[j].1) := (hgc (j * 2) (by omega)).trans hg1
                have k2 : wr.cell? ⟨gb, offb + j * 2 + 1, none⟩ = some (.int .i64 L[j].2) := (hgc (j * 2 + 1) (by omega)).trans hg2
                have hj2 : (j : Int) < (L.length : Int) := by omega
                have hdr := List.drop_eq_getElem_cons hjl
                clear hgc hg1 hg2
                go_wp2_with fail
                have hQx := HQ6.out.below (balloc (Below.refl _ wr) (.cells #[.int .i64 L[j].1, .int .i64 L[j].2] 31))
                have hSx := HS6.out.alloc (.cells #[.int .i64 L[j].1, .int .i64 L[j].2] 31)
                have hBx := balloc HB6.out (.cells #[.int .i64 L[j].1, .int .i64 L[j].2] 31)
                have hxx := heap_alloc_new wr (.cells #[.int .i64 L[j].1, .int .i64 L[j].2] 31)
                have hgbl := HS6.out.lt gb rfl
                refine (pop_l hQx (by rw [List.length_drop]; omega)).mono ?_
                rintro e w6 ⟨ht, -, hp⟩
                obtain ⟨rfl, hq6, -⟩ := hp _ _ hdr
                have hx6 : w6.heap[wr.heap.size]? = some (.cells #[.int .i64 L[j].1, .int .i64 L[j].2] 31 (0, 0)) := (ht.block wr.heap.size (by simp) (fun hk => by have := (HF1.out _ hk).2; have := HGB2.out; omega)).trans hxx
                have hx7 := (Below.heap_alloc w6 (.cells #[.int .i64 L[j].1, .int .i64 L[j].2] 31) wr.heap.size (blk_lt hx6)).trans hx6
                have hy7 := heap_alloc_new w6 (.cells #[.int .i64 L[j].1, .int .i64 L[j].2] 31)
                have c1 : (w6.alloc (.cells #[.int .i64 L[j].1, .int .i64 L[j].2] 31)).cell? ⟨wr.heap.size, 0, none⟩ = some (.int .i64 L[j].1) := by rw [cell_of_row _ _ 0 _ _ _ hx7]; rfl
                have c2 : (w6.alloc (.cells #[.int .i64 L[j].1, .int .i64 L[j].2] 31)).cell? ⟨wr.heap.size, 1, none⟩ = some (.int .i64 L[j].2) := by rw [cell_of_row _ _ 1 _ _ _ hx7]; rfl
                have c3 : (w6.alloc (.cells #[.int .i64 L[j].1, .int .i64 L[j].2] 31)).cell? ⟨w6.heap.size, 0, none⟩ = some (.int .i64 L[j].1) := by rw [cell_of_row _ _ 0 _ _ _ hy7]; rfl
                have c4 : (w6.alloc (.cells #[.int .i64 L[j].1, .int .i64 L[j].2] 31)).cell? ⟨w6.heap.size, 1, none⟩ = some (.int .i64 L[j].2) := by rw [cell_of_row _ _ 1 _ _ _ hy7]; rfl
                have HQ9 := hid (hq6.below (balloc (Below.refl _ w6) (.cells #[.int .i64 L[j].1, .int .i64 L[j].2] 31)))
                have HS9 := hid ((hSx.touch ht (fun k hk hf => by
                  have e : gb = k := by simpa [Value.ownBlock] using hk
                  have := (HF1.out _ hf).2
                  have := HGB2.out
                  omega)).alloc (.cells #[.int .i64 L[j].1, .int .i64 L[j].2] 31))
                have HB9 := hid (balloc (ht.below hBx (fun k hk => (HF1.out k hk).1)) (.cells #[.int .i64 L[j].1, .int .i64 L[j].2] 31))
                clear hQx hSx hBx hxx ht hp hq6 hx6 hx7 hy7 k1 k2 hdr
                go_wp2_with fail
                go_roundw
                case rel => exact ⟨j + 1, _, by omega, by simp, HQ9, HS9, HB9⟩
                case measure => simp [intOf]; omega
              · obtain rfl : j = L.length := by omega
                have hq7 := HQ6.out
                rw [List.drop_length] at hq7
                go_wp2_with fail
                refine (all_l hq7 (by simp)).mono ?_
                rintro e w5 ⟨vb, rfl, hown5, hnil5, hb5⟩
                obtain rfl := hnil5.2 rfl
                have HQ8 := hid (hq7.below hb5)
                have HB8 := hid (bthen HB6.out hb5)
                go_wp2_with (go_at_call 14; refine (len_l HQ8.out).mono ?_; rintro e w2 ⟨rfl, rfl⟩)
                go_ret
                exact ⟨rfl, HB8.out⟩
end Go.Proofs.Ytmbpdboengaclaa
