/- alive, walked. -/
import Derived.Test.YtlonmjmjmnondaaBn
import Derived.Test.YtlonmjmjmnondaaBf
import Derived.Lib.SmallJoins
namespace Go.Proofs.Ytlonmjmjmnondaa
set_option linter.unusedVariables false
set_option linter.unusedSimpArgs false
open Go.RowKit
attribute [local go_sem ↓] Go.wp_at_zero Go.wp_at_succ
theorem WL.fresh (w : World) (F : Nat → Prop) (hF : F w.heap.size) : WL 27 F (w.alloc (.cells #[.slice none 0 0] 27)) w.heap.size [] :=
  ⟨_, heap_alloc_new w _, BS.nil _, hF, fun k hk => by simp [Value.ownBlock] at hk⟩
def digs : List Int := [49, 50, 51, 52, 53, 54, 55, 56, 57]
theorem sum_digs : sumN digs = 3421780262 := by decide +kernel
theorem sum_digs_i : ((sumN digs : Nat) : Int) = 3421780262 := by rw [sum_digs]; rfl
theorem bytes_digs : Bytes digs := by
  have : ∀ x ∈ digs, 0 ≤ x ∧ x ≤ 255 := by decide +kernel
  exact this
theorem bytes_two : Bytes [172, 2] := by
  have : ∀ x ∈ ([172, 2] : List Int), 0 ≤ x ∧ x ≤ 255 := by decide +kernel
  exact this
theorem enc300 : encN 300 = [172, 2] := by
  rw [encN_ge (by decide), encN_lt (by decide)]
  rfl
theorem bs_lit (w : World) (xs : List Int) (hm : xs.length ≤ maxLen) : BS (w.alloc (.cells (by8 xs).toArray 5)) (.slice (some ⟨w.heap.size, 0, none⟩) xs.length xs.length) xs := by
  have := SL.lit w 5 1 xs.length (by8 xs).toArray (by simp [by8]) hm
  exact this
def digC : Array Value := #[.int .u8 49, .int .u8 50, .int .u8 51, .int .u8 52, .int .u8 53, .int .u8 54, .int .u8 55, .int .u8 56, .int .u8 57]
theorem conv_digs (w3 : World) (C : Array Value) : (convert 25 25 (.slice (some ⟨w3.heap.size + 1, 0, none⟩) 9 9)).run Try.prog ((w3.alloc (.cells C 5)).alloc (.cells #[.int .u8 49, .int .u8 50, .int .u8 51, .int .u8 52, .int .u8 53, .int .u8 54, .int .u8 55, .int .u8 56, .int .u8 57] 5)) =
    .ok (.slice (some ⟨w3.heap.size + 1, 0, none⟩) 9 9) ((w3.alloc (.cells C 5)).alloc (.cells digC 5 (9, 10))) :=
  Joins.run_convert_bytes_const_at (w3.alloc (.cells C 5)) 25 5 digC 9 9 (w3.heap.size + 1) (by rw [World.size_alloc]) Try.underlying25 Try.underlying5
theorem rb_digs (w3 : World) (C : Array Value) : RB ((w3.alloc (.cells C 5)).alloc (.cells digC 5 (9, 10))) (.slice (some ⟨w3.heap.size + 1, 0, none⟩) 9 9) digs := by
  refine ⟨_, 9, rfl, Nat.le_refl _, by simp [maxLen], fun h => by simp at h, rfl, fun a ha j x hj => ?_⟩
  simp only [Option.some.injEq] at ha
  subst ha
  rw [Addr.add_lit, Joins.cell_alloc_mark_at _ _ _ _ _ _ (by rw [World.size_alloc]), Nat.zero_add, ← Array.getElem?_toList]
  exact hj
theorem sum_nine {w : World} {v : Value} (h : RB w v digs) : Calls Try.prog 24 #[v] w fun e w' => e = .returned (.int .u32 3421780262) ∧ Below w.heap.size w w' := by
  refine (sum_any h bytes_digs).mono ?_
  intro e w' hp
  refine ⟨hp.1.trans ?_, hp.2⟩
  rw [sum_digs_i]
set_option maxRecDepth 100000 in
set_option maxHeartbeats 2000000 in
theorem alive_any (w : World) : Calls Try.prog 10 #[] w fun e w' => e = .returned (.bool true) ∧ Below w.heap.size w w' := by
  have HW := hid (WL.fresh w (fun k => w.heap.size ≤ k) (Nat.le_refl _))
  have HB := hid (balloc (Below.refl _ w) (.cells #[.slice none 0 0] 27))
  have hcv := conv_digs
  go_enter Try.func10, Try.ntmps10
  go_wp2_with (first
    | (have _h5 := HB5; go_at_call 15; refine (num_nil _ _).mono ?_; rintro e w6 ⟨rfl, rfl⟩; clear _h5)
    | (go_at_call 15; refine (num_w HW.out (fun k hk => (by rw [World.size_alloc] at hk; omega)) (by simp) 300).mono ?_; rintro e w2 ⟨-, hp⟩; obtain ⟨rfl, hw2, ht2⟩ := hp (by decide) (by decide); rw [show ([] : List Int) ++ encN (Int.toNat 300) = [172, 2] from enc300] at hw2; have HW2 := hid hw2; have HB2 := hid (ht2.below HB.out (fun k hk => hk)); clear hp hw2 ht2)
    | (go_at_call 18; refine (bytes_w HW2.out (by decide)).mono ?_; rintro e w3 ⟨A3, c3, rfl, hb3, ho3, hw3⟩; have HB3 := hid (hb3.alloc (.cells (by8 [172, 2]).toArray 5)); have HW3 := hid (bthen HB2.out hw3); have HL3 := hid (bs_lit w3 [172, 2] (by decide)); have HB4 := hid (balloc (balloc HW3.out (.cells (by8 [172, 2]).toArray 5)) (.cells digC 5 (9, 10))); clear hb3 ho3 hw3)
    | (go_at_call 17; refine (same_any HB3.out.rb HL3.out.rb bytes_two bytes_two).mono ?_; rintro e w4 ⟨he, rfl⟩; rw [show eqB ([172, 2] : List Int) [172, 2] = true by decide] at he; subst he)
    | (go_at_call 24; refine (sum_nine (rb_digs w3 _)).mono ?_; rintro e w5 ⟨rfl, hw5⟩; have HB5 := hid (bthen HB4.out hw5); clear hw5))
  go_ret
  exact ⟨rfl, HB5.out⟩
end Go.Proofs.Ytlonmjmjmnondaa
