/- The Reader's Text and Raw, walked. -/
import Derived.Test.YtlonmjmjmnondaaBh
import Derived.Laws.BytesArg
namespace Go.Proofs.Ytlonmjmjmnondaa
set_option linter.unusedVariables false
set_option linter.unusedSimpArgs false
open Go.RowKit
attribute [local go_sem ↓] Go.wp_at_zero Go.wp_at_succ
/-- string(bytes) -/
theorem RB.str {w : World} {A : Option Addr} {n c : Nat} {xs : List Int} (h : RB w (.slice A n c) xs) (hn : xs.length = n) : (convert 25 9 (.slice A n c)).run Try.prog w = .ok (.string (strOfNums xs)) w := by
  subst hn
  exact run_convert_SR 25 5 9 Try.underlying25 Try.underlying5 Try.underlying9 h
theorem elem25 : Try.prog.elem 25 = 5 := by simp [Program.elem, Try.underlying25]
/-- b[k : k+m], under one name -/
theorem cut_mid (A : Option Addr) (n c k m : Nat) (i j : Int) (hi : i = k) (hj : j = ((k + m : Nat) : Int)) (hkm : k + m ≤ c) : ∃ A1, (∀ W, (Instr.slice 25 (.slice A n c) (some (.int .i64 i)) (some (.int .i64 j)) none).run Try.prog W = .ok (.slice A1 m (c - k)) W) ∧
    ∀ w xs, xs.length = n → RB w (.slice A n c) xs → k + m ≤ n → RB w (.slice A1 m (c - k)) ((xs.drop k).take m) := by
  subst hi hj
  obtain ⟨i0, hi0, hz0, hz1, hz2⟩ := info_parts info5
  refine ⟨if c = k then A else A.map (·.add k), fun W => ?_, fun w xs hn h hk => ?_⟩
  · have hu : Try.prog.underlying 25 = some (.slice (Try.prog.elem 25)) := by rw [elem25]; exact Try.underlying25
    have e : k + m - k = m := by omega
    rw [run_slice_lh W 25 A n c hu .i64 .i64 (k : Int) ((k + m : Nat) : Int) (Int.natCast_nonneg _) (by omega) (by omega), elem25]
    have e2 : ((k + m : Nat) : Int).toNat - (k : Int).toNat = m := by omega
    simp only [e2, Int.toNat_natCast]
    simp [sizeOf, typeInfo, hi0, hz1, sliced, Result.andThen]
  · subst hn
    have h1 := h.drop (k := k) (by omega)
    rw [← List.length_drop (l := xs) (i := k)] at h1
    exact h1.take (by rw [List.length_drop]; omega)
/-- b[k:], under one name -/
theorem cut_tail (A : Option Addr) (n c k : Nat) (i : Int) (hi : i = k) (hk : k ≤ n) : ∃ A2, (∀ W, (Instr.slice 25 (.slice A n c) (some (.int .i64 i)) none none).run Try.prog W = .ok (.slice A2 (n - k) (c - k)) W) ∧ A2 = if c = k then A else A.map (·.add k) := by
  subst hi
  obtain ⟨i0, hi0, hz0, hz1, hz2⟩ := info_parts info5
  refine ⟨_, fun W => ?_, rfl⟩
  have hu : Try.prog.underlying 25 = some (.slice (Try.prog.elem 25)) := by rw [elem25]; exact Try.underlying25
  rw [run_slice_l W 25 A n c hu .i64 (k : Int) (Int.natCast_nonneg _) (by omega), elem25]
  simp [sizeOf, typeInfo, hi0, hz1, sliced, Result.andThen]
def RTextP (F : Nat → Prop) (w : World) (q : Nat) (xs : List Int) (e : Ending) (w' : World) : Prop :=
  ((fst 0 0 xs).2.2 ≠ 0 → e = .returned (.tuple #[.string ⟨#[]⟩, .int .i64 (fst 0 0 xs).2.2]) ∧ w = w') ∧
  ((fst 0 0 xs).2.2 = 0 → 1048576 < (fst 0 0 xs).1 → e = .returned (.tuple #[.string ⟨#[]⟩, .int .i64 5]) ∧ w = w') ∧
  ((fst 0 0 xs).2.2 = 0 → (fst 0 0 xs).1 ≤ 1048576 → (xs.length : Int) - (fst 0 0 xs).2.1 < (fst 0 0 xs).1 → e = .returned (.tuple #[.string ⟨#[]⟩, .int .i64 9]) ∧ w = w') ∧
  ((fst 0 0 xs).2.2 = 0 → (fst 0 0 xs).1 ≤ 1048576 → (fst 0 0 xs).1 ≤ (xs.length : Int) - (fst 0 0 xs).2.1 →
    e = .returned (.tuple #[.string (strOfNums ((xs.drop (fst 0 0 xs).2.1.toNat).take (fst 0 0 xs).1.toNat)), .int .i64 0]) ∧ WL 67 F w' q (xs.drop ((fst 0 0 xs).2.1.toNat + (fst 0 0 xs).1.toNat)) ∧ Touch F w w')
set_option maxRecDepth 100000 in
set_option maxHeartbeats 2000000 in
theorem text_r {F : Nat → Prop} {w : World} {q : Nat} {xs : List Int} (h : WL 67 F w q xs) (hx : ∀ x ∈ xs, 0 ≤ x ∧ x ≤ 255) : Calls Try.prog 30 #[.pointer (some ⟨q, 0, none⟩)] w (RTextP F w q xs) := by
  obtain ⟨v, h⟩ := h
  obtain ⟨A, c, rfl, hc⟩ := h.bs.form
  have e0 := h.cell
  have f0 := h.frozen
  have hle := h.bs.le
  have HH := hid h
  have HX := hid hx
  have hff := fst_facts xs 0 0
  unfold RTextP
  generalize hr : fst 0 0 xs = r at hff ⊢
  have HR := hid hr
  clear h hx hr
  obtain ⟨r1, r2, r3⟩ := r
  rcases hff with ⟨h1, h2, h3, h4, h5⟩ | h | h
  · dsimp only at h1 h2 h3 h4 h5 ⊢
    subst h1
    obtain ⟨k, rfl⟩ : ∃ k : Nat, r2 = k := ⟨r2.toNat, by omega⟩
    obtain ⟨m, rfl⟩ : ∃ m : Nat, r1 = m := ⟨r1.toNat, by omega⟩
    have hk : k ≤ xs.length := by omega
    have hk0 : (0 : Int) ≤ (k : Int) := by omega
    have hkc : (k : Int) ≤ (c : Int) := by omega
    have hkl : (k : Int) ≤ (xs.length : Int) := by omega
    have hpos : 0 < xs.length := by omega
    by_cases hbig : 1048576 < m
    · have hbig2 : (1048576 : Int) < (m : Int) := by omega
      go_enter Try.func30, Try.ntmps30
      go_wp2_with (go_at_call 35; refine (first_any HH.out.bs.rb HX.out).mono ?_; rintro e w2 ⟨he, rfl⟩; rw [HR.out] at he; subst he)
      go_ret2
      exact ⟨fun h => absurd rfl h, fun _ _ => ⟨rfl, rfl⟩, fun _ h => by omega, fun _ h => by omega⟩
    · have hbig2 : (m : Int) ≤ 1048576 := by omega
      by_cases hsh : (xs.length : Int) - (k : Int) < (m : Int)
      · go_enter Try.func30, Try.ntmps30
        go_wp2_with (go_at_call 35; refine (first_any HH.out.bs.rb HX.out).mono ?_; rintro e w2 ⟨he, rfl⟩; rw [HR.out] at he; subst he)
        go_ret2
        exact ⟨fun h => absurd rfl h, fun _ _ => by omega, fun _ _ _ => ⟨rfl, rfl⟩, fun _ _ h => by omega⟩
      · have hkm : k + m ≤ xs.length := by omega
        have hkm2 : (k : Int) + (m : Int) ≤ (xs.length : Int) := by omega
        have hkm3 : (k : Int) + (m : Int) ≤ (c : Int) := by omega
        obtain ⟨A1, hr1, hb1⟩ := cut_mid A xs.length c k m (k : Int) ((k : Int) + (m : Int)) rfl (by simp) (by omega)
        have hstr := (hb1 w xs rfl HH.out.bs.rb hkm).str (by rw [List.length_take, List.length_drop]; omega)
        obtain ⟨A2, hr2, hv2⟩ := cut_tail A xs.length c (k + m) ((k : Int) + (m : Int)) (by simp) hkm
        have HC := hid (HH.out.cut (k := k + m) hkm (.slice A2 (xs.length - (k + m)) (c - (k + m))) (by rw [hv2]))
        obtain ⟨s, hs⟩ : ∃ s, strOfNums ((xs.drop k).take m) = s := ⟨_, rfl⟩
        rw [hs] at hstr
        have HS := hid hs
        clear hb1 hv2 hs
        go_enter Try.func30, Try.ntmps30
        go_wp2_with (go_at_call 35; refine (first_any HH.out.bs.rb HX.out).mono ?_; rintro e w2 ⟨he, rfl⟩; rw [HR.out] at he; subst he)
        go_ret2
        exact ⟨fun h => absurd rfl h, fun _ _ => by omega, fun _ _ h => by omega, fun _ _ _ => ⟨by rw [Int.toNat_natCast, Int.toNat_natCast, HS.out]; rfl, by rw [Int.toNat_natCast, Int.toNat_natCast]; exact HC.out, (Touch.refl F w).setCell (p := ⟨q, 0, none⟩) (.inl HH.out.fp) _⟩⟩
  all_goals
    cases h
    go_enter Try.func30, Try.ntmps30
    go_wp2_with (go_at_call 35; refine (first_any HH.out.bs.rb HX.out).mono ?_; rintro e w2 ⟨he, rfl⟩; rw [HR.out] at he; subst he)
    go_ret2
    exact ⟨fun _ => ⟨rfl, rfl⟩, fun h => by simp at h, fun h => by simp at h, fun h => by simp at h⟩
def RRawP (F : Nat → Prop) (w : World) (q : Nat) (xs : List Int) (n : Int) (e : Ending) (w' : World) : Prop :=
  (n < 0 → e = .returned (.tuple #[.slice none 0 0, .int .i64 2]) ∧ w = w') ∧
  ((xs.length : Int) < n → e = .returned (.tuple #[.slice none 0 0, .int .i64 9]) ∧ w = w') ∧
  (0 ≤ n → n ≤ (xs.length : Int) → ∃ A c, e = .returned (.tuple #[.slice A n.toNat c, .int .i64 0]) ∧ BS w' (.slice A n.toNat c) (xs.take n.toNat) ∧ (∀ k, (Value.slice A n.toNat c).ownBlock = some k → w.heap.size ≤ k) ∧
    WL 67 F w' q (xs.drop n.toNat) ∧ Touch F w w')
set_option maxRecDepth 100000 in
set_option maxHeartbeats 2000000 in
theorem raw_r {F : Nat → Prop} {w : World} {q : Nat} {xs : List Int} (h : WL 67 F w q xs) (hl : xs.length ≤ 140737488351232) (n : Int) : Calls Try.prog 28 #[.pointer (some ⟨q, 0, none⟩), .int .i64 n] w (RRawP F w q xs n) := by
  obtain ⟨v, h⟩ := h
  obtain ⟨A, c, rfl, hc⟩ := h.bs.form
  have e0 := h.cell
  have f0 := h.frozen
  have hp := blk_lt h.head
  have HH := hid h
  by_cases hn : n < 0
  · clear h
    go_enter Try.func28, Try.ntmps28
    go_wp2
    go_ret2
    exact ⟨fun _ => ⟨rfl, rfl⟩, fun h => by omega, fun h => by omega⟩
  by_cases hn2 : (xs.length : Int) < n
  · clear h
    go_enter Try.func28, Try.ntmps28
    go_wp2
    go_ret2
    exact ⟨fun h => by omega, fun _ => ⟨rfl, rfl⟩, fun h h2 => by omega⟩
  · obtain ⟨m, rfl⟩ : ∃ m : Nat, n = m := ⟨n.toNat, by omega⟩
    have hm : m ≤ xs.length := by omega
    have hm0 : (0 : Int) ≤ (m : Int) := by omega
    have hmc : (m : Int) ≤ (c : Int) := by omega
    have hml : (m : Int) ≤ (xs.length : Int) := by omega
    obtain ⟨A2, hr2, hv2⟩ := cut_tail A xs.length c m (m : Int) rfl hm
    have HTK := hid (h.bs.take hm)
    have HA2 := hid hv2
    have hlm : (xs.take m).length = m := by rw [List.length_take]; omega
    have hlm2 : (xs.take m).length ≤ 140737488351232 := by omega
    have HLM := hid hlm
    have HNE := hid (h.ne (by decide))
    clear h hv2 hlm
    go_enter Try.func28, Try.ntmps28
    go_wp2_with (go_at_call 34; refine (clone_any HTK.out.rb hlm2).mono ?_; rintro e w2 ⟨A3, c3, rfl, hb3, ho3, hw3⟩; rw [HLM.out] at hb3 ho3 ⊢; have hh3 := (hw3.block q hp).trans HH.out.head; have e3 : w2.cell? ⟨q, 0, none⟩ = some (.slice A xs.length c) := (by rw [cell_of_row _ q 0 _ _ _ hh3]; rfl); have f3 := frozen_of_row w2 q 0 _ _ hh3; have HB3 := hid hb3; have HO3 := hid ho3; have HW3 := hid hw3; have HH3 := hid hh3; clear hb3 ho3 hw3 hh3)
    go_ret2
    have hat : WrAt 67 F w2 q (.slice A xs.length c) xs := ⟨HH3.out, HH.out.bs.below HW3.out, HH.out.fp, HH.out.fv⟩
    refine ⟨fun h => by omega, fun h => by omega, fun _ _ => ⟨A3, c3, by rw [Int.toNat_natCast]; rfl, ?_, ?_, ?_, ?_⟩⟩
    · rw [Int.toNat_natCast]
      refine SL.far HB3.out (fun k hk e => ?_) _
      have e2 : k = q := e
      have := HO3.out k hk
      omega
    · rw [Int.toNat_natCast]
      exact HO3.out
    · rw [Int.toNat_natCast]
      exact hat.cut hm _ (by rw [HA2.out])
    · exact ((Touch.of_below HW3.out (Nat.le_refl _)).mono (fun k hk => hk.elim)).setCell (p := ⟨q, 0, none⟩) (.inl HH.out.fp) _
end Go.Proofs.Ytlonmjmjmnondaa
