/- BinOwn: the law's own function, walked. -/
import Derived.Test.YtlonmjmjmnondaaBforms
namespace Go.Proofs.Ytlonmjmjmnondaa
set_option linter.unusedVariables false
set_option linter.unusedSimpArgs false
open Go.RowKit
attribute [local go_sem ↓] Go.wp_at_zero Go.wp_at_succ
/-- v is a slice of n bytes, whatever they are; it can be written -/
def U8 (w : World) (v : Value) (n : Nat) : Prop :=
  (v = .slice none 0 0 ∧ n = 0) ∨ ∃ g off c cur, v = .slice (some ⟨g, off, none⟩) n c ∧ n ≤ c ∧ w.heap[g]? = some (.cells cur 5 (0, 0)) ∧ off + n ≤ cur.size ∧ ∀ i, i < n → ∃ b : Nat, b < 256 ∧ cur[off + i]? = some (.int .u8 (b : Int))
theorem BS.u8 {w : World} {v : Value} {xs : List Int} (h : BS w v xs) (hx : Bytes xs) : U8 w v xs.length := by
  rcases h.2 with ⟨rfl, h0⟩ | ⟨g, off, cap, cur, rfl, hg, hn, hm, hs, hc⟩
  · exact .inl ⟨rfl, h0⟩
  · refine .inr ⟨g, off, cap, cur, rfl, hn, hg, by omega, fun i hi => ?_⟩
    have h1 := hx xs[i] (List.getElem_mem hi)
    refine ⟨xs[i].toNat, by omega, ?_⟩
    have h2 := by8_get hi
    rw [← hc, List.getElem?_take, if_pos (by omega), List.getElem?_drop, Array.getElem?_toList] at h2
    rw [h2, Int.toNat_of_nonneg h1.1]
theorem U8.set {w : World} {v : Value} {n : Nat} (h : U8 w v n) (g o b : Nat) (hb : b < 256) : U8 (w.setCell ⟨g, o, none⟩ (.int .u8 (b : Int))) v n := by
  rcases h with h | ⟨g', off, c, cur, hv, hn, hg, hs, hc⟩
  · exact .inl h
  · by_cases e : g' = g
    · subst e
      refine .inr ⟨g', off, c, cur.setIfInBounds o (.int .u8 (b : Int)), hv, hn, heap_setCell_same w g' o cur 5 _ hg, by simpa using hs, fun i hi => ?_⟩
      rw [Array.getElem?_setIfInBounds]
      by_cases e2 : o = off + i
      · rw [if_pos e2, if_pos (by omega)]
        exact ⟨b, hb, rfl⟩
      · rw [if_neg e2]
        exact hc i hi
    · exact .inr ⟨g', off, c, cur, hv, hn, (Below.heap_setCell w ⟨g, o, none⟩ _ g' e).trans hg, hs, hc⟩
theorem U8.place {w : World} {A : Option Addr} {n c : Nat} (h : U8 w (.slice A n c) n) {i : Nat} (hi : i < n) : ∃ g off b, A = some ⟨g, off, none⟩ ∧ b < 256 ∧ w.cell? ⟨g, off + i, none⟩ = some (.int .u8 ((b : Nat) : Int)) ∧ (∀ k, w.frozen? ⟨g, k, none⟩ = false) ∧ (∃ cur, w.heap[g]? = some (.cells cur 5 (0, 0))) := by
  rcases h with ⟨_, h0⟩ | ⟨g, off, c', cur, hv, hn, hg, hs, hc⟩
  · omega
  · simp only [Value.slice.injEq, true_and] at hv
    obtain ⟨rfl, rfl⟩ := hv
    obtain ⟨b, hb, hcb⟩ := hc i hi
    exact ⟨g, off, b, rfl, hb, by rw [cell_of_row w g _ _ _ _ hg, hcb], fun k => frozen_of_row w g k _ _ hg, cur, hg⟩
theorem U8.le {w : World} {A : Option Addr} {n c : Nat} (h : U8 w (.slice A n c) n) : n ≤ c := by
  rcases h with ⟨h1, h0⟩ | ⟨g, off, c', cur, hv, hn, _⟩
  · omega
  · simp only [Value.slice.injEq, true_and] at hv
    omega
theorem U8.keep {w w' : World} {v : Value} {n : Nat} (h : U8 w v n) (hk : ∀ k, v.ownBlock = some k → w'.heap[k]? = w.heap[k]?) : U8 w' v n := by
  rcases h with h | ⟨g, off, c, cur, rfl, hn, hg, r⟩
  · exact .inl h
  · exact .inr ⟨g, off, c, cur, rfl, hn, (hk g rfl).trans hg, r⟩
/-- the three slices whose bytes are counted up -/
structure Three (W : World) (lit : Nat) (v1 v2 v3 : Value) (n1 n2 n3 : Nat) : Prop where
  row : W.heap[lit]? = some (.cells #[v1, v2, v3] 25 (0, 0))
  u1 : U8 W v1 n1
  u2 : U8 W v2 n2
  u3 : U8 W v3 n3
theorem Three.set {W : World} {lit : Nat} {v1 v2 v3 : Value} {n1 n2 n3 : Nat} (h : Three W lit v1 v2 v3 n1 n2 n3) {g o b : Nat} (hg : ∃ cur, W.heap[g]? = some (.cells cur 5 (0, 0))) (hb : b < 256) :
    Three (W.setCell ⟨g, o, none⟩ (.int .u8 (b : Int))) lit v1 v2 v3 n1 n2 n3 := by
  refine ⟨(Below.heap_setCell W ⟨g, o, none⟩ _ lit (fun e => ?_)).trans h.row, h.u1.set g o b hb, h.u2.set g o b hb, h.u3.set g o b hb⟩
  obtain ⟨cur, hc⟩ := hg
  have e2 : lit = g := e
  rw [← e2, h.row] at hc
  simp at hc
set_option maxRecDepth 100000 in
set_option maxHeartbeats 4000000 in
theorem own_rb {w : World} {v : Value} {xs : List Int} (h : RB w v xs) (hx : Bytes xs) : Calls Try.prog 7 #[v] w fun e w' => e = .returned (.bool true) ∧ Below w.heap.size w w' := by
  obtain ⟨A, c, rfl, hc⟩ := h.form
  have hle := h.le
  have HS := hid h
  have HX := hid hx
  clear h hx
  by_cases hbig : (3000 : Int) < (xs.length : Int)
  · go_enter Try.func7, Try.ntmps7
    go_wp2_with (go_at_call 10; refine (alive_any _).mono ?_; rintro e w1 ⟨rfl, hb1⟩; have HB1 := hid hb1; clear hb1)
    go_ret
    exact ⟨rfl, HB1.out⟩
  · obtain ⟨i0, hi0, hz0, hz1, hz2⟩ := info_parts info5
    have hone := by8_one xs
    have h63 : xs.length ≤ maxLen := by simp only [maxLen]; omega
    have hbytes : xs.length * 1 ≤ 140737488355328 := by omega
    have HN := hid (Nat.zero_add xs.length)
    have hl7 : xs.length ≤ 10000000 := by omega
    have hl8 : xs.length ≤ 100000000 := by omega
    have hl15 : xs.length ≤ 140737488351232 := by omega
    have hl0 : (0 : Int) ≤ (xs.length : Int) := by omega
    obtain ⟨zs, hzs⟩ : ∃ zs, sealB xs = zs := ⟨_, rfl⟩
    have HZ := hid hzs
    have HZB : Hid (Bytes zs) := hid (by rw [← hzs]; exact HX.out.sealed)
    have hzl : zs.length ≤ 10000000 := by rw [← hzs, sealB_length]; omega
    have HHD : Hid (headB zs = xs) := hid (by rw [← hzs, headB, sealB_length, Nat.add_sub_cancel, sealB, List.take_left])
    have HSE : Hid (sealB (headB zs) = zs) := hid (by rw [HHD.out, hzs])
    have HZ4 : Hid (4 ≤ zs.length) := hid (by rw [← hzs, sealB_length]; omega)
    clear hzs
    go_enter Try.func7, Try.ntmps7
    go_wp2_with (first
      | (go_at_call 10; refine (alive_any _).mono ?_; rintro e w1 ⟨rfl, hb1⟩; have HB1 := hid hb1; have hall := hid (SR.below (SR.below HS.out hb1) (balloc (Below.refl _ w1) (.cells #[] 5))); have hlit : Hid (SL (w1.alloc (.cells #[] 5)) 5 1 (.slice (some ⟨w1.heap.size, 0, none⟩) 0 0) 0 []) := hid (SL.lit w1 5 1 0 #[] rfl (by simp [maxLen])); have HF1 := hid (balloc (Below.refl _ w1) (.cells #[] 5)); clear hb1)
      | (at_builtin; refine wpList_append_SRs rfl _ _ _ rfl 5 i0 _ 1 Try.underlying25 hi0 hz0 hz1 hz2 rfl (.slice (some ⟨w1.heap.size, 0, none⟩) 0 0) 0 [] rfl hlit.out _ xs.length (by8 xs) rfl hall.out hone xs.length (by8 xs) HN.out rfl h63 hbytes ?_; intro A2 c2 w2 hs1 hg1 ho1; have HI2 : Hid (BS w2 (.slice A2 xs.length c2) xs) := hid hs1; have HW2 := hid (bthen HB1.out (HF1.out.grown hg1 (by rw [World.size_alloc]; omega) lit_own)); have HO2 : Hid (∀ k, (Value.slice A2 xs.length c2).ownBlock = some k → w.heap.size ≤ k) := hid (fun k hk => Nat.le_trans HB1.out.size ((ho1 k hk).elim (lit_own k) (fun h => (by rw [World.size_alloc] at h; omega)))); have HWR := hid (WL.fresh w2 (fun k => w2.heap.size ≤ k) (Nat.le_refl _)); have HI2a := hid (HI2.out.alloc (.cells #[.slice none 0 0] 27)); clear hs1 hg1 ho1)
      | (go_at_call 14; refine (raw_w HWR.out (fun k hk => (by rw [World.size_alloc] at hk; omega)) (by simp) HI2a.out.rb hl8).mono ?_; rintro e w3 ⟨rfl, hw3, ht3⟩; rw [List.nil_append] at hw3; have HWR3 := hid hw3.bound; have HT3 := hid ht3; have HI3 := hid (HI2a.out.touch ht3 (fun k hk hF => absurd (HI2.out.lt k hk) (Nat.not_lt.2 hF))); have HW3 := hid (ht3.below (balloc HW2.out (.cells #[.slice none 0 0] 27)) (fun k hk => Nat.le_trans HW2.out.size hk)); clear hw3 ht3)
      | (go_at_call 19; refine (read_any HI3.out.rb hl15).mono ?_; rintro e w4 ⟨q, rfl, hr4, hw4⟩; have HR4 := hid hr4.bound; have HI4 := hid (HI3.out.below hw4); have HWR4 := hid (HWR3.out.below hw4); have HB4 := hid hw4; have HW4 := hid (bthen HW3.out hw4); clear hr4 hw4)
      | (go_at_call 26; refine (seal_any HI4.out.rb HX.out hl7).mono ?_; rw [HZ.out]; rintro e w5 ⟨A5, c5, rfl, hb5, ho5, hw5⟩; have HS5 := hid hb5; have HOS5 := hid ho5; have HI5 := hid (HI4.out.below hw5); have HWR5 := hid (HWR4.out.below hw5); have HR5 := hid (HR4.out.below hw5); have HB5 := hid hw5; have HW5 := hid (bthen HW4.out hw5); clear hb5 ho5 hw5)
      | (go_at_call 22; refine (open_any HS5.out.rb HZB.out hzl).mono ?_; rintro e w6 ⟨-, -, hp⟩; obtain ⟨A6, c6, he, hb6, ho6, hw6⟩ := hp HZ4.out HSE.out; rw [HHD.out] at he hb6 ho6; subst he; have HO6 := hid hb6; have HOO6 := hid ho6; have HS6 := hid (HS5.out.below hw6); have HI6 := hid (HI5.out.below hw6); have HWR6 := hid (HWR5.out.below hw6); have HR6 := hid (HR5.out.below hw6); have HB6 := hid hw6; have HW6 := hid (bthen HW5.out hw6); clear hp hb6 ho6 hw6)
      | (go_at_call 28; refine (raw_r HR6.out hl15 _).mono ?_; rintro e w7 ⟨-, -, hp⟩; obtain ⟨A7, c7, he, hb7, ho7, hr7, ht7⟩ := hp hl0 (Int.le_refl _); rw [Int.toNat_natCast] at he hb7 ho7; rw [List.take_length] at hb7; subst he; have HX7 := hid hb7; have HOX7 := hid ho7; have h23 : w2.heap.size ≤ w3.heap.size := (Nat.le_trans (by rw [World.size_alloc]; omega) HT3.out.size); have HI7 := hid (HI6.out.touch ht7 (fun k hk hF => (by have := HI2.out.lt k hk; omega))); have HS7 := hid (HS6.out.touch ht7 (fun k hk hF => (by have := HOS5.out k hk; omega))); have HO7 := hid (HO6.out.touch ht7 (fun k hk hF => (by have := HOO6.out k hk; have := HB5.out.size; omega))); have HWR7 := hid (HWR6.out.touch ht7 (fun k hk hF => (by omega))); have HW7 := hid (ht7.below HW6.out (fun k hk => (by have := HW3.out.size; omega))); have HB7 := hid ht7.size; clear hp hb7 ho7 hr7 ht7)
      | (go_at_call 18; refine (bytes_w HWR7.out hl15).mono ?_; rintro e w8 ⟨A8, c8, rfl, hb8, ho8, hw8⟩; have HY8 := hid hb8; have HOY8 := hid ho8; have HB8 := hid hw8; clear hb8 ho8 hw8))
    obtain ⟨G, hG⟩ : ∃ G : Nat → Prop, G = fun k => (Value.slice A2 xs.length c2).ownBlock = some k ∨ (Value.slice A8 xs.length c8).ownBlock = some k ∨ (Value.slice A5 zs.length c5).ownBlock = some k := ⟨_, rfl⟩
    obtain ⟨W9, hW9⟩ : ∃ W9, w8.alloc (.cells #[.slice A2 xs.length c2, .slice A8 xs.length c8, .slice A5 zs.length c5] 25) = W9 := ⟨_, rfl⟩
    have h23 : w2.heap.size ≤ w3.heap.size := (Nat.le_trans (by rw [World.size_alloc]; omega) HT3.out.size)
    have h34 := HB4.out.size
    have h45 := HB5.out.size
    have h56 := HB6.out.size
    have h67 := HB7.out
    have h03 := HW3.out.size
    have hb79 : Below w7.heap.size w7 W9 := by rw [← hW9]; exact balloc HB8.out _
    have hth : Three W9 w8.heap.size (.slice A2 xs.length c2) (.slice A8 xs.length c8) (.slice A5 zs.length c5) xs.length xs.length zs.length := by
      refine ⟨by rw [← hW9]; exact heap_alloc_new w8 _, (HI7.out.below hb79).u8 HX.out, ?_, (HS7.out.below hb79).u8 HZB.out⟩
      rw [← hW9]
      exact (HY8.out.alloc _).u8 HX.out
    have HTH := hid hth
    have HGO : Hid (∀ k, (Value.slice A6 xs.length c6).ownBlock = some k → ¬ G k) := hid (fun k hk hg => by
      rw [hG] at hg
      have h1 := HOO6.out k hk
      have h2 := HO6.out.lt k hk
      rcases hg with h | h | h
      · have := HI2.out.lt k h; omega
      · have := HOY8.out k h; omega
      · have := HS5.out.lt k h; omega)
    have HGX : Hid (∀ k, (Value.slice A7 xs.length c7).ownBlock = some k → ¬ G k) := hid (fun k hk hg => by
      rw [hG] at hg
      have h1 := HOX7.out k hk
      have h2 := HX7.out.lt k hk
      rcases hg with h | h | h
      · have := HI2.out.lt k h; omega
      · have := HOY8.out k h; omega
      · have := HS5.out.lt k h; omega)
    have HGW : Hid (∀ k, w2.heap.size ≤ k ∧ k < w3.heap.size → ¬ G k) := hid (fun k hk hg => by
      rw [hG] at hg
      rcases hg with h | h | h
      · have := HI2.out.lt k h; omega
      · have := HOY8.out k h; omega
      · have := HOS5.out k h; omega)
    have HGB : Hid (∀ k, G k → w.heap.size ≤ k) := hid (fun k hg => by
      rw [hG] at hg
      have := HW7.out.size
      rcases hg with h | h | h
      · exact HO2.out k h
      · have := HOY8.out k h; omega
      · have := HOS5.out k h; omega)
    have HO9 := hid (HO7.out.below hb79)
    have HX9 := hid (HX7.out.below hb79)
    have HWR9 := hid (HWR7.out.below hb79)
    have HW9 := hid (bthen HW7.out hb79)
    have HG1 : Hid (∀ k, (Value.slice A2 xs.length c2).ownBlock = some k → G k) := hid (fun k h => by rw [hG]; exact .inl h)
    have HG2 : Hid (∀ k, (Value.slice A8 xs.length c8).ownBlock = some k → G k) := hid (fun k h => by rw [hG]; exact .inr (.inl h))
    have HG3 : Hid (∀ k, (Value.slice A5 zs.length c5).ownBlock = some k → G k) := hid (fun k h => by rw [hG]; exact .inr (.inr h))
    rw [hW9]
    obtain ⟨L, hL⟩ : ∃ L, w8.heap.size = L := ⟨_, rfl⟩
    rw [hL] at HTH ⊢
    clear hG hW9 h23 h34 h45 h56 h67 h03 hb79 hth hL
    clear HI2 HI3 HI4 HI5 HI6 HI7 HS5 HS6 HS7 HO6 HO7 HX7 HY8 HOS5 HOO6 HOX7 HOY8 HWR HWR3 HWR4 HWR5 HWR6 HWR7 HR4 HR5 HR6 HB4 HB5 HB6 HB7 HB8 HT3 HI2a hall hlit HF1
    go_loopw [47] (fun iv wr => ∃ i : Nat, i ≤ 3 ∧ iv = .int .i64 (i : Int) ∧ Hid (Three wr L (.slice A2 xs.length c2) (.slice A8 xs.length c8) (.slice A5 zs.length c5) xs.length xs.length zs.length) ∧ Hid (Touch G W9 wr)) (fun iv _ => 3 - (intOf iv).toNat)
    case atStart => exact ⟨0, by omega, rfl, HTH, hid (Touch.refl _ _)⟩
    case round =>
      obtain ⟨i, hi, rfl, HT, HTO⟩ := hrel
      by_cases hlt : i < 3
      · have hlt2 : (i : Int) < 3 := by omega
        have hi0 : (0 : Int) ≤ (i : Int) := by omega
        obtain ⟨An, n, cn, hcell, hsel, hgn, hn⟩ : ∃ (An : Option Addr) (n cn : Nat), wr.cell? ⟨L, i, none⟩ = some (.slice An n cn) ∧
            Hid (∀ wq, Three wq L (.slice A2 xs.length c2) (.slice A8 xs.length c8) (.slice A5 zs.length c5) xs.length xs.length zs.length → U8 wq (.slice An n cn) n) ∧ Hid (∀ k, (Value.slice An n cn).ownBlock = some k → G k) ∧ n ≤ 10000000 := by
          rcases (by omega : i = 0 ∨ i = 1 ∨ i = 2) with rfl | rfl | rfl
          · exact ⟨A2, xs.length, c2, by rw [cell_of_row wr L 0 _ _ _ HT.out.row]; rfl, hid (fun wq h => h.u1), HG1, hl7⟩
          · exact ⟨A8, xs.length, c8, by rw [cell_of_row wr L 1 _ _ _ HT.out.row]; rfl, hid (fun wq h => h.u2), HG2, hl7⟩
          · exact ⟨A5, zs.length, c5, by rw [cell_of_row wr L 2 _ _ _ HT.out.row]; rfl, hid (fun wq h => h.u3), HG3, hzl⟩
        go_wp2
        clear hcell
        go_loopw [53] (fun jv wq => ∃ j : Nat, j ≤ n ∧ jv = .int .i64 (j : Int) ∧ Hid (Three wq L (.slice A2 xs.length c2) (.slice A8 xs.length c8) (.slice A5 zs.length c5) xs.length xs.length zs.length) ∧ Hid (Touch G W9 wq)) (fun jv _ => n - (intOf jv).toNat)
        case atStart => exact ⟨0, by omega, rfl, HT, HTO⟩
        case round =>
          obtain ⟨j, hj, rfl, HTq, HTOq⟩ := hrel
          by_cases hjl : j < n
          · have hjl2 : (j : Int) < (n : Int) := by omega
            have hj0 : (0 : Int) ≤ (j : Int) := by omega
            have hu := hsel.out _ HTq.out
            obtain ⟨g, off, b, rfl, hb, e1, f1, hg5⟩ := hu.place hjl
            have HU5 := hid hg5
            have hbm : (b + 1) % 256 < 256 := Nat.mod_lt _ (by decide)
            have hbi : ((b : Int) + 1) % 256 = (((b + 1) % 256 : Nat) : Int) := by omega
            obtain ⟨b1, hb1⟩ : ∃ b1, (b + 1) % 256 = b1 := ⟨_, rfl⟩
            rw [hb1] at hbm hbi
            clear hu hg5 hb1
            go_wp2
            go_roundw
            case rel => exact ⟨j + 1, by omega, by simp, hid (HTq.out.set HU5.out hbm), hid (HTOq.out.setCell (p := ⟨g, off + j, none⟩) (.inl (hgn.out g rfl)) _)⟩
            case measure => simp [intOf]; omega
          · obtain rfl : j = n := by omega
            go_wp2
            go_roundw
            case rel => exact ⟨i + 1, by omega, by simp, HTq, HTOq⟩
            case measure => simp [intOf]; omega
      · obtain rfl : i = 3 := by omega
        have HBW := hid (HTO.out.below HW9.out HGB.out)
        have HSE := hid (HS.out.below HBW.out)
        have HOE := hid (HO9.out.touch HTO.out HGO.out)
        have HXE := hid (HX9.out.touch HTO.out HGX.out)
        have HWE := hid (HWR9.out.touch HTO.out HGW.out)
        go_wp2_with (first
          | (have _h := HDONE; go_at_call 17; refine (same_any HYD.out.rb HSD.out HX.out HX.out).mono ?_; rintro e w7 ⟨rfl, rfl⟩; rw [eqB_self]; clear _h)
          | (have _h := HONE; go_at_call 17; refine (same_any HXE.out.rb HSE.out HX.out HX.out).mono ?_; rintro e w7 ⟨rfl, rfl⟩; rw [eqB_self]; clear HONE _h; have HTWO : Hid True := hid trivial)
          | (have _h := HTWO; go_at_call 18; refine (bytes_w HWE.out hl15).mono ?_; rintro e wd ⟨Ad, cd, rfl, hbd, hod, hwd⟩; have HYD := hid hbd; have HSD := hid (HSE.out.below hwd); have HWD := hid (bthen HBW.out hwd); have HDONE : Hid True := hid trivial; clear HTWO _h hbd hod hwd)
          | (go_at_call 17; refine (same_any HOE.out.rb HSE.out HX.out HX.out).mono ?_; rintro e w7 ⟨rfl, rfl⟩; rw [eqB_self]; have HONE : Hid True := hid trivial))
        go_ret
        exact ⟨rfl, HWD.out⟩
theorem own_law (a : Option Addr) (len cap : Nat) (zs : List Int) (w : World) (hz : IsRow .u8 w a len cap zs) :
    Calls Try.prog 7 #[.slice a len cap] w fun e w' => e = .returned (.bool true) ∧ Below w.heap.size w w' := by
  obtain ⟨xs, rfl, hx, h⟩ := hz.rb
  exact own_rb h hx
end Go.Proofs.Ytlonmjmjmnondaa
