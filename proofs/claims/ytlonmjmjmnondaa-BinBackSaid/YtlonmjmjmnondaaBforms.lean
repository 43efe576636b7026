/- BinForms: the law's own function, walked. -/
import Derived.Test.YtlonmjmjmnondaaBr
import Derived.Test.YtlonmjmjmnondaaBi
import Derived.BigQuiet
import Derived.StillTailTactics
import Derived.Test.YtlonmjmjmnondaaWLast
namespace Go.Proofs.Ytlonmjmjmnondaa
set_option linter.unusedVariables false
set_option linter.unusedSimpArgs false
open Go.RowKit
open Go.Proofs.YtlonmjmjmnondaaW.PrintLast
attribute [local go_sem ↓] Go.wp_at_zero Go.wp_at_succ
set_option maxRecDepth 100000 in
set_option maxHeartbeats 4000000 in
theorem forms_rb {w : World} {v : Value} {xs : List Int} (h : RB w v xs) (hx : Bytes xs) : Calls Try.prog 4 #[v] w fun e w' => e = .returned (.bool true) ∧ Below w.heap.size w w' := by
  obtain ⟨A, c, rfl, hc⟩ := h.form
  have hle := h.le
  have HS := hid h
  have HX := hid hx
  clear h hx
  by_cases hbig : (5000 : Int) < (xs.length : Int)
  · go_enter Try.func4, Try.ntmps4
    go_wp2_with (go_at_call 10; refine (alive_any _).mono ?_; rintro e w1 ⟨rfl, hb1⟩; have HB1 := hid hb1; clear hb1)
    go_ret
    exact ⟨rfl, HB1.out⟩
  · have hl : xs.length ≤ 140737488351232 := by omega
    obtain ⟨⟨N, K, er⟩, hf⟩ : ∃ r, fst 0 0 xs = r := ⟨_, rfl⟩
    have HR := hid hf
    by_cases her : er = 0
    · subst her
      obtain ⟨n, k, hN, hK, hk1, hk5, hkl, he, -⟩ := fst_enc xs 0 0 N K HX.out (by decide) hf
      have hn30 : N ≤ 1073741824 := by
        rcases fst_facts xs 0 0 with h | h | h
        · rw [hf] at h; exact h.2.2.2.2
        · rw [hf] at h; simp at h
        · rw [hf] at h; simp at h
      have hN2 : N = (n : Int) := by rw [hN]; simp
      have hK2 : K = (k : Int) := by rw [hK]; simp
      subst hN2 hK2
      obtain ⟨rs, hrs⟩ : ∃ rs, xs.drop k = rs := ⟨_, rfl⟩
      have HRS := hid hrs
      have hrl : rs.length = xs.length - k := by rw [← hrs, List.length_drop]
      have hsub : (xs.length : Int) - (rs.length : Int) = (k : Int) := by omega
      obtain ⟨es, hes⟩ : ∃ es, encN n = es := ⟨_, rfl⟩
      have HES := hid hes
      rw [hes] at he
      have HE := hid he
      have hel : es.length = k := by rw [he, List.length_take]; omega
      have HEL := hid hel
      have HEB : Hid (Bytes es) := hid (fun x hx => HX.out x (List.mem_of_mem_take (by rw [← he]; exact hx)))
      have hk1i : (1 : Int) ≤ (k : Int) := by omega
      have hk5i : (k : Int) ≤ 5 := by omega
      have hkli : (k : Int) ≤ (xs.length : Int) := by omega
      have hkci : (k : Int) ≤ (c : Int) := by omega
      have hk0i : (0 : Int) ≤ (k : Int) := by omega
      clear hf hN hK hrs hrl hes he hel
      go_enter Try.func4, Try.ntmps4
      go_wp2_with (first
        | (go_at_call 10; refine (alive_any _).mono ?_; rintro e w1 ⟨rfl, hb1⟩; have HB1 := hid hb1; have HS1 := hid (HS.out.below hb1); clear hb1)
        | (go_at_call 19; refine (read_any HS1.out hl).mono ?_; rintro e w2 ⟨q, rfl, hr2, hw2⟩; have HR2 := hid hr2; have HW2 := hid (bthen HB1.out hw2); clear hr2 hw2)
        | (go_at_call 20; refine (num_r HR2.out HX.out).mono ?_; rintro e w3 ⟨-, hp⟩; rw [HR.out] at hp; obtain ⟨rfl, hr3, ht3⟩ := hp rfl; rw [Int.toNat_natCast, HRS.out] at hr3; have HW3 := hid (ht3.below HW2.out (fun k hk => Nat.le_trans HB1.out.size hk)); have HR3 := hid hr3; have HN3 := hid (WL.fresh w3 (fun k => w3.heap.size ≤ k) (Nat.le_refl _)); have HA3 := hid (balloc (Below.refl _ w3) (.cells #[.slice none 0 0] 27)); clear hp hr3 ht3)
        | (go_at_call 15; refine (num_w HN3.out (fun k hk => (by rw [World.size_alloc] at hk; omega)) (by simp) _).mono ?_; rintro e w4 ⟨-, hp⟩; obtain ⟨rfl, hw4, ht4⟩ := hp (by omega) (by omega); rw [Int.toNat_natCast, List.nil_append, HES.out] at hw4; have hb4 := ht4.below HA3.out (fun k hk => hk); have HR4 := hid (HR3.out.below hb4); have HN4 := hid hw4; have HW4 := hid (bthen HW3.out hb4); have HS4 := hid (HS.out.below HW4.out); clear hp hw4 ht4 hb4)
        | (go_at_call 21; refine (left_r HR4.out).mono ?_; rintro e w5 ⟨rfl, rfl⟩))
      refine start_ (ds := []) (S := fun _ => True) #[false, false, false, false, false, false, false, false, false, false, false, false, false, false] (by kernel_rfl) (by rfl) (by rfl) trivial (fun hHeld => ?_)
      refine pure_ (i := 0) (N := (some 55)) (v := ?_) (a' := ?_) #[true, false, false, false, false, false, false, false, false, false, false, false, false, false] rfl rfl (by kernel_rfl) (fun _ _ _ h => h) (Or.inl ⟨by rfl, ?_⟩) ?_ ?_
      rotate_left
      · intro w'
        go_simp
        with_reducible rfl
      rotate_left
      · simp only [Act.put, List.setIfInBounds_toArray, List.set_cons_zero, List.set_cons_succ]
        rfl
      refine pure_ (i := 1) (N := (some 56)) (v := ?_) (a' := ?_) #[true, true, false, false, false, false, false, false, false, false, false, false, false, false] rfl rfl (by kernel_rfl) (fun _ _ _ h => h) (Or.inl ⟨by rfl, ?_⟩) ?_ ?_
      rotate_left
      · intro w'
        go_simp
        with_reducible rfl
      rotate_left
      · simp only [Act.put, List.setIfInBounds_toArray, List.set_cons_zero, List.set_cons_succ]
        rfl
      refine pure_ (i := 2) (N := (some 57)) (v := ?_) (a' := ?_) #[true, true, true, false, false, false, false, false, false, false, false, false, false, false] rfl rfl (by kernel_rfl) (fun _ _ _ h => h) (Or.inl ⟨by rfl, ?_⟩) ?_ ?_
      rotate_left
      · intro w'
        go_simp
        with_reducible rfl
      rotate_left
      · simp only [Act.put, List.setIfInBounds_toArray, List.set_cons_zero, List.set_cons_succ]
        rfl
      refine pure_ (i := 3) (N := (some 58)) (v := ?_) (a' := ?_) #[true, true, true, true, false, false, false, false, false, false, false, false, false, false] rfl rfl (by kernel_rfl) (fun _ _ _ h => h) (Or.inl ⟨by rfl, ?_⟩) ?_ ?_
      rotate_left
      · intro w'
        go_simp
        with_reducible rfl
      rotate_left
      · simp only [Act.put, List.setIfInBounds_toArray, List.set_cons_zero, List.set_cons_succ]
        rfl
      refine pure_ (i := 4) (N := (some 59)) (v := ?_) (a' := ?_) #[true, true, true, true, true, false, false, false, false, false, false, false, false, false] rfl rfl (by kernel_rfl) (fun _ _ _ h => h) (Or.inl ⟨by rfl, ?_⟩) ?_ ?_
      rotate_left
      · intro w'
        go_simp
        with_reducible rfl
      rotate_left
      · simp only [Act.put, List.setIfInBounds_toArray, List.set_cons_zero, List.set_cons_succ]
        rfl
      refine pure_ (i := 5) (N := (some 60)) (v := ?_) (a' := ?_) #[true, true, true, true, true, true, false, false, false, false, false, false, false, false] rfl rfl (by kernel_rfl) (fun _ _ _ h => h) (Or.inl ⟨by rfl, ?_⟩) ?_ ?_
      rotate_left
      · intro w'
        go_simp
        with_reducible rfl
      rotate_left
      · simp only [Act.put, List.setIfInBounds_toArray, List.set_cons_zero, List.set_cons_succ]
        rfl
      refine pure_ (i := 6) (N := (some 61)) (v := ?_) (a' := ?_) #[true, true, true, true, true, true, true, false, false, false, false, false, false, false] rfl rfl (by kernel_rfl) (fun _ _ _ h => h) (Or.inl ⟨by rfl, ?_⟩) ?_ ?_
      rotate_left
      · intro w'
        go_simp
        with_reducible rfl
      rotate_left
      · simp only [Act.put, List.setIfInBounds_toArray, List.set_cons_zero, List.set_cons_succ]
        rfl
      refine pure_ (i := 8) (N := (some 63)) (v := ?_) (a' := ?_) #[true, true, true, true, true, true, true, false, true, false, false, false, false, false] rfl rfl (by kernel_rfl) (fun _ _ _ h => h) (Or.inl ⟨by rfl, ?_⟩) ?_ ?_
      rotate_left
      · intro w'
        go_simp
        with_reducible rfl
      rotate_left
      · simp only [Act.put, List.setIfInBounds_toArray, List.set_cons_zero, List.set_cons_succ]
        rfl
      refine pure_ (i := 9) (N := (some 64)) (v := ?_) (a' := ?_) #[true, true, true, true, true, true, true, false, true, true, false, false, false, false] rfl rfl (by kernel_rfl) (fun _ _ _ h => h) (Or.inl ⟨by rfl, ?_⟩) ?_ ?_
      rotate_left
      · intro w'
        go_simp
        with_reducible rfl
      rotate_left
      · simp only [Act.put, List.setIfInBounds_toArray, List.set_cons_zero, List.set_cons_succ]
        rfl
      refine pure_ (i := 10) (N := (some 65)) (v := ?_) (a' := ?_) #[true, true, true, true, true, true, true, false, true, true, true, false, false, false] rfl rfl (by kernel_rfl) (fun _ _ _ h => h) (Or.inl ⟨by rfl, ?_⟩) ?_ ?_
      rotate_left
      · intro w'
        go_simp
        with_reducible rfl
      rotate_left
      · simp only [Act.put, List.setIfInBounds_toArray, List.set_cons_zero, List.set_cons_succ]
        rfl
      refine one_ (i := 7) (N := (some 62)) #[true, true, true, true, true, true, true, true, true, true, true, false, false, false] rfl rfl (by kernel_rfl) (by decide) (fun K hK => ?_)
      refine goes_ Try.func18 (by kernel_rfl) rfl #[.pointer (some ⟨w3.heap.size, 0, none⟩)] (by rfl) rfl rfl (by go_simp) ?_
      have HND := hid (HN4.out.below (Below.refl _ w4).drew)
      have HWD := hid (HW4.out.drew)
      have HSD := hid (HS4.out.below (Below.refl _ w4).drew)
      have hel6 : es.length ≤ 140737488351232 := by have := HEL.out; omega
      refine (bytes_w HND.out hel6).mono ?_
      rintro e w6 ⟨A6, c6, rfl, hb6, ho6, hw6⟩
      have HB6 := hid hb6
      have HW6 := hid (bthen HWD.out hw6)
      have HT6 := hid ((HSD.out.take hkl).below hw6)
      clear hb6 ho6 hw6
      refine ⟨_, rfl, ?_⟩
      refine hK.out _ _ trivial (fun hHeld => ?_)
      clear hK K
      refine norm_ (a' := ?_) ?_ ?_
      rotate_left
      · simp only [Act.put, List.setIfInBounds_toArray, List.set_cons_zero, List.set_cons_succ]
        rfl
      refine one_ (i := 11) (N := (some 66)) #[true, true, true, true, true, true, true, true, true, true, true, true, false, false] rfl rfl (by kernel_rfl) (by decide) (fun K hK => ?_)
      refine goes_ Try.func17 (by kernel_rfl) rfl #[.slice A6 es.length c6, .slice A k c] (by rfl) rfl rfl (by go_simp) ?_
      refine (same_any HB6.out.rb HT6.out HEB.out (fun x hx => HX.out x (List.mem_of_mem_take hx))).mono ?_
      rintro e w7 ⟨he, rfl⟩
      rw [← HE.out, eqB_self] at he
      subst he
      refine ⟨_, rfl, ?_⟩
      refine hK.out _ _ trivial (fun hHeld => ?_)
      clear hK K
      refine norm_ (a' := ?_) ?_ ?_
      rotate_left
      · simp only [Act.put, List.setIfInBounds_toArray, List.set_cons_zero, List.set_cons_succ]
        rfl
      refine pure_ (i := 12) (N := (some 67)) (v := ?_) (a' := ?_) #[true, true, true, true, true, true, true, true, true, true, true, true, true, false] rfl rfl (by kernel_rfl) (fun _ _ _ h => h) (Or.inl ⟨by rfl, ?_⟩) ?_ ?_
      rotate_left
      · intro w'
        go_simp
        with_reducible rfl
      rotate_left
      · simp only [Act.put, List.setIfInBounds_toArray, List.set_cons_zero, List.set_cons_succ]
        rfl
      refine pure_ (i := 13) (N := (some 2)) (v := ?_) (a' := ?_) #[true, true, true, true, true, true, true, true, true, true, true, true, true, true] rfl rfl (by kernel_rfl) (fun _ _ _ h => h) (Or.inl ⟨by rfl, ?_⟩) ?_ ?_
      rotate_left
      · intro w'
        go_simp
        with_reducible rfl
      rotate_left
      · simp only [Act.put, List.setIfInBounds_toArray, List.set_cons_zero, List.set_cons_succ]
        rfl
      refine done_ (by kernel_rfl) ?_
      go_wp2
      go_ret
      exact ⟨rfl, HW6.out⟩
    · have hnk : N = 0 ∧ K = 0 ∧ (er = 7 ∨ er = 9) := by
        rcases fst_facts xs 0 0 with h | h | h
        · rw [hf] at h; exact absurd h.1 her
        · rw [hf] at h; simp at h; exact ⟨h.1, h.2.1, .inl h.2.2⟩
        · rw [hf] at h; simp at h; exact ⟨h.1, h.2.1, .inr h.2.2⟩
      obtain ⟨rfl, rfl, her2⟩ := hnk
      clear hf
      have HER := hid her
      rcases her2 with rfl | rfl
      all_goals
        clear her
        go_enter Try.func4, Try.ntmps4
        go_wp2_with (first
          | (go_at_call 10; refine (alive_any _).mono ?_; rintro e w1 ⟨rfl, hb1⟩; have HB1 := hid hb1; have HS1 := hid (HS.out.below hb1); clear hb1)
          | (go_at_call 19; refine (read_any HS1.out hl).mono ?_; rintro e w2 ⟨q, rfl, hr2, hw2⟩; have HR2 := hid hr2; have HW2 := hid (bthen HB1.out hw2); clear hr2 hw2)
          | (go_at_call 20; refine (num_r HR2.out HX.out).mono ?_; rintro e w3 ⟨hp, -⟩; rw [HR.out] at hp; obtain ⟨rfl, rfl⟩ := hp (by decide); clear hp)
          | (go_at_call 21; refine (left_r HR2.out).mono ?_; rintro e w4 ⟨rfl, rfl⟩))
        go_ret
        exact ⟨rfl, HW2.out⟩
theorem forms_law (a : Option Addr) (len cap : Nat) (zs : List Int) (w : World) (hz : IsRow .u8 w a len cap zs) :
    Calls Try.prog 4 #[.slice a len cap] w fun e w' => e = .returned (.bool true) ∧ Below w.heap.size w w' := by
  obtain ⟨xs, rfl, hx, h⟩ := hz.rb
  exact forms_rb h hx
end Go.Proofs.Ytlonmjmjmnondaa
