/- Bytes in memory; the library's Clone, walked. -/
import Derived.Test.YtlonmjmjmnondaaSm
import Derived.Test.YtlonmjmjmnondaaSr
import Derived.Deep.QuietTactic
import Derived.BigQuiet
import Derived.WalkSpells
import Derived.Deep.RegionHeld3
import Derived.Deep.DrawnRows
namespace Go.Proofs.Ytlonmjmjmnondaa
set_option linter.unusedVariables false
set_option linter.unusedSimpArgs false
open Go.RowKit
attribute [local go_sem ↓] Go.wp_at_zero Go.wp_at_succ
def by8 (xs : List Int) : List Value := xs.map fun x => .int .u8 x
theorem by8_length (xs : List Int) : (by8 xs).length = xs.length := by simp [by8]
theorem by8_append (xs ys : List Int) : by8 (xs ++ ys) = by8 xs ++ by8 ys := by simp [by8]
theorem by8_take (xs : List Int) (k : Nat) : by8 (xs.take k) = (by8 xs).take k := by simp [by8]
theorem by8_drop (xs : List Int) (k : Nat) : by8 (xs.drop k) = (by8 xs).drop k := by simp [by8]
theorem by8_set (xs : List Int) (k : Nat) (x : Int) : by8 (xs.set k x) = (by8 xs).set k (.int .u8 x) := by simp [by8]
theorem by8_one (xs : List Int) : ∀ u ∈ by8 xs, u.oneCell' = true := fun u hu => by
  obtain ⟨x, _, rfl⟩ := List.mem_map.1 hu
  rfl
theorem by8_get {xs : List Int} {i : Nat} (h : i < xs.length) : (by8 xs)[i]? = some (.int .u8 xs[i]) := by simp [by8, h]
/-- v is a slice of bytes: these -/
def BS (w : World) (v : Value) (xs : List Int) : Prop := SL w 5 1 v xs.length (by8 xs)
section
variable {F : Nat → Prop} {w w' : World} {v : Value} {xs ys : List Int}
theorem BS.nil (w : World) : BS w (.slice none 0 0) [] := SL.nil _ _ _
theorem BS.form (h : BS w v xs) : ∃ A c, v = .slice A xs.length c ∧ xs.length ≤ c := SL.form h
theorem BS.keep (h : BS w v xs) (hk : ∀ k, v.ownBlock = some k → w'.heap[k]? = w.heap[k]?) : BS w' v xs := SL.keep h hk
theorem BS.lt (h : BS w v xs) : ∀ k, v.ownBlock = some k → k < w.heap.size := SL.lt h
theorem BS.below (h : BS w v xs) (hb : Below w.heap.size w w') : BS w' v xs := h.keep fun k hk => hb.block k (h.lt k hk)
theorem BS.drewN (h : BS w v xs) (n : Nat) : BS (w.drewN n) v xs := SL.drewN h n
theorem BS.touch (h : BS w v xs) (ht : Touch F w w') (hf : ∀ k, v.ownBlock = some k → ¬ F k) : BS w' v xs := SL.touch h ht hf
theorem BS.alloc (h : BS w v xs) (o : Obj) : BS (w.alloc o) v xs := SL.alloc h o
theorem BS.le (h : BS w v xs) : xs.length ≤ 9223372036854775807 := SL.le h
theorem BS.item {A : Option Addr} {c : Nat} (h : BS w (.slice A xs.length c) xs) {i : Nat} (hi : i < xs.length) :
    ∃ g off, A = some ⟨g, off, none⟩ ∧ w.cell? ⟨g, off + i, none⟩ = some (.int .u8 xs[i]) ∧ (∀ k, w.frozen? ⟨g, k, none⟩ = false) ∧ g < w.heap.size := by
  obtain ⟨g, off, cap, hv, h1, h2, hc, hf⟩ := SL.open_ h (by omega)
  simp only [Value.slice.injEq, true_and] at hv
  obtain ⟨rfl, rfl⟩ := hv
  exact ⟨g, off, rfl, (hc i (by omega)).trans (by8_get hi), hf, h.lt g rfl⟩
theorem BS.take {A : Option Addr} {c k : Nat} (h : BS w (.slice A xs.length c) xs) (hk : k ≤ xs.length) : BS w (.slice A k c) (xs.take k) := by
  have := SL.take_ h hk
  rw [Nat.mul_one, ← by8_take] at this
  unfold BS
  rw [List.length_take, Nat.min_eq_left hk]
  exact this
theorem BS.drop {A : Option Addr} {c k : Nat} (h : BS w (.slice A xs.length c) xs) (hk : k ≤ xs.length) : BS w (.slice (if c = k then A else A.map (·.add k)) (xs.length - k) (c - k)) (xs.drop k) := by
  have := SL.drop_ h hk
  rw [Nat.mul_one, ← by8_drop] at this
  unfold BS
  rw [List.length_drop]
  exact this
end
/-- v reads as these bytes, wherever it came from -/
def RB (w : World) (v : Value) (xs : List Int) : Prop := SR w v xs.length (by8 xs)
section
variable {w w' : World} {v : Value} {xs : List Int}
theorem BS.rb (h : BS w v xs) : RB w v xs := SR.of_SL h
theorem RB.form (h : RB w v xs) : ∃ A c, v = .slice A xs.length c ∧ xs.length ≤ c := by
  obtain ⟨A, c, hv, hm, _⟩ := h
  exact ⟨A, c, hv, hm⟩
theorem RB.le (h : RB w v xs) : xs.length ≤ 9223372036854775807 := by
  obtain ⟨A, c, hv, hm, hc, _⟩ := h
  simp only [maxLen] at hc
  omega
theorem RB.below (h : RB w v xs) (hb : Below w.heap.size w w') : RB w' v xs := SR.below h hb
theorem RB.drewN (h : RB w v xs) (n : Nat) : RB (w.drewN n) v xs := SR.drewN h n
theorem RB.item {A : Option Addr} {c : Nat} (h : RB w (.slice A xs.length c) xs) {i : Nat} (hi : i < xs.length) : ∃ x, A = some x ∧ w.cell? (x.add i) = some (.int .u8 xs[i]) := by
  obtain ⟨A', c', hu, hm, hc, hA, hl, hcell⟩ := h
  simp only [Value.slice.injEq, true_and] at hu
  obtain ⟨rfl, rfl⟩ := hu
  cases A with
  | none => have := hA rfl; omega
  | some a => exact ⟨a, rfl, hcell a rfl i _ (by8_get hi)⟩
theorem RB.take {A : Option Addr} {c k : Nat} (h : RB w (.slice A xs.length c) xs) (hk : k ≤ xs.length) : RB w (.slice A k c) (xs.take k) := by
  have := SR.take h hk
  rw [← by8_take] at this
  unfold RB
  rw [List.length_take, Nat.min_eq_left hk]
  exact this
theorem RB.drop {A : Option Addr} {c k : Nat} (h : RB w (.slice A xs.length c) xs) (hk : k ≤ xs.length) : RB w (.slice (if c = k then A else A.map (·.add k)) (xs.length - k) (c - k)) (xs.drop k) := by
  have := SR.drop h hk
  rw [← by8_drop] at this
  unfold RB
  rw [List.length_drop]
  exact this
end
theorem info5 : (Try.prog.info? 5).map (fun i => (i.zero, i.size, i.bytes)) = some (some (.int .u8 0), 1, 1) := by kernel_rfl
/-- a new slice of bytes is handed back: these -/
def NewB (xs : List Int) (w : World) (e : Ending) (w' : World) : Prop :=
  ∃ A c, e = .returned (.slice A xs.length c) ∧ BS w' (.slice A xs.length c) xs ∧ (∀ k, (Value.slice A xs.length c).ownBlock = some k → w.heap.size ≤ k) ∧ Below w.heap.size w w'
set_option maxRecDepth 100000 in
set_option maxHeartbeats 400000 in
theorem clone_any {w : World} {v : Value} {xs : List Int} (h : RB w v xs) (hl : xs.length ≤ 140737488351232) : Calls Try.prog 34 #[v] w (NewB xs w) := by
  obtain ⟨A, c, rfl, hm, hc, hA, hln, hcell⟩ := id h
  cases A with
  | none =>
    have hc0 := hA rfl
    obtain rfl : xs = [] := List.eq_nil_of_length_eq_zero (by omega)
    subst hc0
    clear h hm hc hA hln hcell
    have hne := fun (W : World) (a : Option Addr) (n c : Nat) => Lib.run_eql_slice_nil (P := Try.prog) W 25 5 a n c 0 0 Try.underlying25
    go_enter Try.func34, Try.ntmps34
    go_wp2
    go_ret
    exact ⟨none, 0, rfl, BS.nil w, fun k hk => (by simp [Value.ownBlock] at hk), Below.refl _ _⟩
  | some a =>
    have hne := fun (W : World) (a : Option Addr) (n c : Nat) => Lib.run_eql_slice_nil (P := Try.prog) W 25 5 a n c 0 0 Try.underlying25
    obtain ⟨i0, hi0, hz0, hz1, hz2⟩ := info_parts info5
    have hall := hid (SR.below h (balloc (Below.refl _ w) (.cells #[] 5)))
    have hlit : Hid (SL (w.alloc (.cells #[] 5)) 5 1 (.slice (some ⟨w.heap.size, 0, none⟩) 0 0) 0 []) := hid (SL.lit w 5 1 0 #[] rfl (by simp [maxLen]))
    have hone := by8_one xs
    have h63 : xs.length ≤ maxLen := by simp only [maxLen]; omega
    have hbytes : xs.length * 1 ≤ 140737488355328 := by omega
    have HN := hid (Nat.zero_add xs.length)
    clear h hm hc hA hln hcell
    go_enter Try.func34, Try.ntmps34
    go_wp2_with (at_builtin; refine wpList_append_SRs rfl _ _ _ rfl 5 i0 _ 1 Try.underlying25 hi0 hz0 hz1 hz2 rfl (.slice (some ⟨w.heap.size, 0, none⟩) 0 0) 0 [] rfl hlit.out _ xs.length (by8 xs) rfl hall.out hone xs.length (by8 xs) HN.out rfl h63 hbytes ?_; intro A1 c1 w1 hs1 hg1 ho1; have HS1 := hid hs1; have HG1 := hid hg1; have HO1 := hid ho1; clear hs1 hg1 ho1)
    go_ret
    refine ⟨A1, c1, rfl, HS1.out, fun k hk => ?_, (balloc (Below.refl _ w) (.cells #[] 5)).grown HG1.out (by rw [World.size_alloc]; omega) (fun k hk => ?_)⟩
    · rcases HO1.out k hk with h | h
      · have : w.heap.size = k := by simpa [Value.ownBlock] using h
        omega
      · rw [World.size_alloc] at h; omega
    · have : w.heap.size = k := by simpa [Value.ownBlock] using hk
      omega
end Go.Proofs.Ytlonmjmjmnondaa
