/- The Reader's methods, walked. -/
import Derived.Test.YtlonmjmjmnondaaBg
namespace Go.Proofs.Ytlonmjmjmnondaa
set_option linter.unusedVariables false
set_option linter.unusedSimpArgs false
open Go.RowKit
attribute [local go_sem ↓] Go.wp_at_zero Go.wp_at_succ
theorem fst_facts : ∀ (l : List Int) (i n : Nat), ((fst i n l).2.2 = 0 ∧ (i : Int) + 1 ≤ (fst i n l).2.1 ∧ (fst i n l).2.1 ≤ (i : Int) + l.length ∧ 0 ≤ (fst i n l).1 ∧ (fst i n l).1 ≤ 1073741824) ∨ fst i n l = (0, 0, 7) ∨ fst i n l = (0, 0, 9)
  | [], i, n => .inr (.inr rfl)
  | x :: r, i, n => by
    rw [fst]
    split
    · rcases fst_facts r (i + 1) (n + x.toNat % 128 * 128 ^ i) with ⟨h1, h2, h3, h4⟩ | h | h
      · refine .inl ⟨h1, by omega, ?_, h4⟩
        rw [List.length_cons]
        omega
      · exact .inr (.inl h)
      · exact .inr (.inr h)
    · split
      · exact .inr (.inl rfl)
      · rename_i h
        generalize n + x.toNat % 128 * 128 ^ i = N at h ⊢
        refine .inl ⟨rfl, ?_, ?_, ?_, ?_⟩
        · dsimp only; omega
        · dsimp only; rw [List.length_cons]; omega
        · dsimp only; omega
        · dsimp only; omega
def ReadP (xs : List Int) (w : World) (e : Ending) (w' : World) : Prop :=
  ∃ q, e = .returned (.pointer (some ⟨q, 0, none⟩)) ∧ WL 67 (fun k => w.heap.size ≤ k) w' q xs ∧ Below w.heap.size w w'
set_option maxRecDepth 100000 in
set_option maxHeartbeats 1000000 in
theorem read_any {w : World} {v : Value} {xs : List Int} (h : RB w v xs) (hl : xs.length ≤ 140737488351232) : Calls Try.prog 19 #[v] w (ReadP xs w) := by
  have HH := hid h
  clear h
  go_enter Try.func19, Try.ntmps19
  go_wp2_with (go_at_call 34; refine (clone_any HH.out hl).mono ?_; rintro e w2 ⟨A2, c2, rfl, hb2, ho2, hw2⟩; have HB2 := hid hb2; have HO2 := hid ho2; have HW2 := hid hw2; clear hb2 ho2 hw2)
  go_ret
  exact ⟨w2.heap.size, rfl, ⟨_, heap_alloc_new w2 _, HB2.out.alloc _, HW2.out.size, HO2.out⟩, balloc HW2.out _⟩
set_option maxRecDepth 100000 in
set_option maxHeartbeats 1000000 in
theorem left_r {F : Nat → Prop} {w : World} {q : Nat} {xs : List Int} (h : WL 67 F w q xs) : Calls Try.prog 21 #[.pointer (some ⟨q, 0, none⟩)] w fun e w' => e = .returned (.int .i64 (xs.length : Int)) ∧ w = w' := by
  obtain ⟨v, h⟩ := h
  obtain ⟨A, c, rfl, hc⟩ := h.bs.form
  have e0 := h.cell
  clear h
  go_enter Try.func21, Try.ntmps21
  go_wp2
  go_ret
  exact ⟨rfl, rfl⟩
/-- what is left behind k bytes -/
theorem WrAt.cut {F : Nat → Prop} {w : World} {q k c : Nat} {A : Option Addr} {xs : List Int} (h : WrAt 67 F w q (.slice A xs.length c) xs) (hk : k ≤ xs.length) (v' : Value) (hv : v' = .slice (if c = k then A else A.map (·.add k)) (xs.length - k) (c - k)) :
    WL 67 F (w.setCell ⟨q, 0, none⟩ v') q (xs.drop k) := by
  have hd := h.bs.drop hk
  rw [← hv] at hd
  refine ⟨v', WrAt.put h.head (by decide) hd h.fp (fun j hj => h.fv j ?_)⟩
  rw [hv] at hj
  split at hj
  · cases A with
    | none => simp [Value.ownBlock] at hj
    | some a => exact hj
  · cases A with
    | none => simp [Value.ownBlock] at hj
    | some a =>
      obtain ⟨g, off, sp⟩ := a
      have : (Addr.add ⟨g, off, sp⟩ k).block = g := by
        unfold Addr.add
        split <;> rfl
      simp only [Option.map_some, Value.ownBlock, this] at hj ⊢
      exact hj
def RNumP (F : Nat → Prop) (w : World) (q : Nat) (xs : List Int) (e : Ending) (w' : World) : Prop :=
  ((fst 0 0 xs).2.2 ≠ 0 → e = .returned (.tuple #[.int .i64 0, .int .i64 (fst 0 0 xs).2.2]) ∧ w = w') ∧
  ((fst 0 0 xs).2.2 = 0 → e = .returned (.tuple #[.int .i64 (fst 0 0 xs).1, .int .i64 0]) ∧ WL 67 F w' q (xs.drop (fst 0 0 xs).2.1.toNat) ∧ Touch F w w')
set_option maxRecDepth 100000 in
set_option maxHeartbeats 2000000 in
theorem num_r {F : Nat → Prop} {w : World} {q : Nat} {xs : List Int} (h : WL 67 F w q xs) (hx : ∀ x ∈ xs, 0 ≤ x ∧ x ≤ 255) : Calls Try.prog 20 #[.pointer (some ⟨q, 0, none⟩)] w (RNumP F w q xs) := by
  obtain ⟨v, h⟩ := h
  obtain ⟨A, c, rfl, hc⟩ := h.bs.form
  have e0 := h.cell
  have f0 := h.frozen
  have HH := hid h
  have HX := hid hx
  have hff := fst_facts xs 0 0
  unfold RNumP
  generalize hr : fst 0 0 xs = r at hff ⊢
  have HR := hid hr
  clear h hx hr
  obtain ⟨r1, r2, r3⟩ := r
  rcases hff with ⟨h1, h2, h3, h4, h5⟩ | h | h
  · dsimp only at h1 h2 h3 h4 h5 ⊢
    subst h1
    obtain ⟨k, rfl⟩ : ∃ k : Nat, r2 = k := ⟨r2.toNat, by omega⟩
    have hk : k ≤ xs.length := by omega
    have hk0 : (0 : Int) ≤ (k : Int) := by omega
    have hkc : (k : Int) ≤ (c : Int) := by omega
    have hkl : (k : Int) ≤ (xs.length : Int) := by omega
    have hpos : 0 < xs.length := by omega
    obtain ⟨g, off, rfl, -, -, -⟩ := HH.out.bs.item hpos
    by_cases hck : c = k
    · subst hck
      have hxc : xs.length - c = 0 := by omega
      have HC := hid (HH.out.cut hk (.slice (some ⟨g, off, none⟩) 0 0) (by rw [if_pos rfl, hxc, Nat.sub_self]))
      have HXC := hid hxc
      obtain rfl : xs.length = c := by omega
      clear h2 h3 hk hkl hkc hxc
      go_enter Try.func20, Try.ntmps20
      go_wp2_with (go_at_call 35; refine (first_any HH.out.bs.rb HX.out).mono ?_; rintro e w2 ⟨he, rfl⟩; rw [HR.out] at he; subst he)
      go_ret2
      exact ⟨fun h => absurd rfl h, fun _ => ⟨rfl, by rw [Int.toNat_natCast]; exact HC.out, (Touch.refl F w).setCell (p := ⟨q, 0, none⟩) (.inl HH.out.fp) _⟩⟩
    · have HC := hid (HH.out.cut hk (.slice (some ⟨g, off + k, none⟩) (xs.length - k) (c - k)) (by rw [if_neg hck]; simp [Addr.add_lit]))
      go_enter Try.func20, Try.ntmps20
      go_wp2_with (go_at_call 35; refine (first_any HH.out.bs.rb HX.out).mono ?_; rintro e w2 ⟨he, rfl⟩; rw [HR.out] at he; subst he)
      go_ret2
      exact ⟨fun h => absurd rfl h, fun _ => ⟨rfl, by rw [Int.toNat_natCast]; exact HC.out, (Touch.refl F w).setCell (p := ⟨q, 0, none⟩) (.inl HH.out.fp) _⟩⟩
  all_goals
    cases h
    go_enter Try.func20, Try.ntmps20
    go_wp2_with (go_at_call 35; refine (first_any HH.out.bs.rb HX.out).mono ?_; rintro e w2 ⟨he, rfl⟩; rw [HR.out] at he; subst he)
    go_ret2
    exact ⟨fun _ => ⟨rfl, rfl⟩, fun h => by simp at h⟩
end Go.Proofs.Ytlonmjmjmnondaa
