/- The table, and Sum: walked. -/
import Derived.Test.YtlonmjmjmnondaaCrc
import Derived.Test.YtlonmjmjmnondaaBg
namespace Go.Proofs.Ytlonmjmjmnondaa
set_option linter.unusedVariables false
set_option linter.unusedSimpArgs false
open Go.RowKit
attribute [local go_sem ↓] Go.wp_at_zero Go.wp_at_succ
/-- the table when k of its cells are reckoned -/
def tabTo (k : Nat) : Array Value := ((List.range 256).map fun i => Value.int .u32 ((if i < k then stps 8 i else 0 : Nat) : Int)).toArray
theorem tabTo_size (k : Nat) : (tabTo k).size = 256 := by simp [tabTo]
theorem wraps_u32 (n : Int) (h₀ : 0 ≤ n) (h₁ : n < 2 ^ 32) : IntKind.u32.wrap n = n := by rw [IntKind.wrap_u32]; omega
theorem and1_u32 {n : Nat} (h : n < 4294967296) : bits .and .u32 (n : Int) 1 = ((n % 2 : Nat) : Int) := by
  have h1 := bits_mask .u32 32 (by decide) wraps_u32 1 (by decide) (n : Int) (by omega) (by omega)
  have e : (2 : Int) ^ 1 - 1 = 1 := by decide
  rw [e] at h1
  rw [h1]
  omega
theorem zero68 (w : World) : (zeroValue 68).run Try.prog w = .ok (.agg (tabTo 0)) w := by kernel_rfl
theorem tabTo_get {k i : Nat} (hi : i < 256) : (tabTo k)[i]? = some (.int .u32 ((if i < k then stps 8 i else 0 : Nat) : Int)) := by
  simp [tabTo, hi]
theorem tabTo_set {k : Nat} (hk : k < 256) : (tabTo k).setIfInBounds k (.int .u32 ((stps 8 k : Nat) : Int)) = tabTo (k + 1) := by
  apply Array.ext_getElem?
  intro i
  rw [Array.getElem?_setIfInBounds]
  by_cases hi : k = i
  · subst hi
    rw [if_pos rfl, tabTo_size, if_pos hk, tabTo_get hk, if_pos (by omega)]
  · rw [if_neg hi]
    rcases Nat.lt_or_ge i 256 with h | h
    · rw [tabTo_get h, tabTo_get h]
      by_cases h2 : i < k
      · rw [if_pos h2, if_pos (by omega)]
      · rw [if_neg h2, if_neg (by omega)]
    · rw [Array.getElem?_eq_none (by rw [tabTo_size]; exact h), Array.getElem?_eq_none (by rw [tabTo_size]; exact h)]
theorem stps_succ (k n : Nat) : stps (k + 1) n = stp (stps k n) := by rw [stps_add k 1]; rfl
theorem bits0_u32 : bits .and .u32 3988292384 0 = 0 := by decide +kernel
theorem bits1_u32 : bits .and .u32 3988292384 4294967295 = 3988292384 := by decide +kernel
theorem xor_nat (k : IntKind) (j : Nat) (hj : j ≤ k.bits) (hk : ∀ n : Int, 0 ≤ n → n < 2 ^ j → k.wrap n = n) (a b : Nat) (ha : a < 2 ^ j) (hb : b < 2 ^ j) : bits .xor k a b = ((a ^^^ b : Nat) : Int) := by
  have hp : 2 ^ j ≤ 2 ^ k.bits := Nat.pow_le_pow_right (by decide) hj
  have ha' : a % 2 ^ k.bits = a := Nat.mod_eq_of_lt (Nat.lt_of_lt_of_le ha hp)
  have hb' : b % 2 ^ k.bits = b := Nat.mod_eq_of_lt (Nat.lt_of_lt_of_le hb hp)
  have cast : ∀ n : Nat, n < 2 ^ j → ((n : Nat) : Int) < 2 ^ j := fun n h => by exact_mod_cast h
  simp only [bits, BitVec.ofInt_natCast, BitVec.toNat_xor, BitVec.toNat_ofNat, ha', hb']
  exact hk _ (Int.natCast_nonneg _) (cast _ (Nat.xor_lt_two_pow ha hb))
theorem xor_u32 {a b : Nat} (ha : a < 4294967296) (hb : b < 4294967296) : bits .xor .u32 (a : Int) (b : Int) = ((a ^^^ b : Nat) : Int) := xor_nat .u32 32 (by decide) wraps_u32 a b ha hb
theorem xor_u8 {a b : Nat} (ha : a < 256) (hb : b < 256) : bits .xor .u8 (a : Int) (b : Int) = ((a ^^^ b : Nat) : Int) := xor_nat .u8 8 (by decide) wraps_u8 a b ha hb
theorem stp_odd {n : Nat} (hn : n < 4294967296) (h : n % 2 = 1) : bits .xor .u32 ((n : Int) / 2) 3988292384 = ((stp n : Nat) : Int) := by
  have h1 := xor_u32 (a := n / 2) (b := 3988292384) (by omega) (by omega)
  rw [stp, if_pos h]
  exact h1
theorem stp_ev {n : Nat} (hn : n < 4294967296) (h : n % 2 = 0) : bits .xor .u32 ((n : Int) / 2) 0 = ((stp n : Nat) : Int) := by
  have h1 := xor_u32 (a := n / 2) (b := 0) (by omega) (by omega)
  rw [stp, if_neg (by omega)]
  rw [Nat.xor_zero] at h1
  exact h1
theorem below_setRow {B g : Nat} {w0 w : World} (hb : Below B w0 w) (hBg : B ≤ g) (cs : Array Value) : Below B w0 (w.setRow g cs) :=
  hb.trans ⟨rfl, rfl, rfl, by simp, fun k hk => setRow_other _ _ _ _ (by omega)⟩
set_option maxRecDepth 100000 in
set_option maxHeartbeats 2000000 in
theorem table_any (w : World) : Calls Try.prog 37 #[] w fun e w' => e = .returned (.agg (tabTo 256)) ∧ Below w.heap.size w w' := by
  have hz := zero68
  go_enter Try.func37, Try.ntmps37
  go_wp2
  clear hz
  go_loopw [3] (fun cv wr => ∃ k : Nat, k ≤ 256 ∧ cv = .int .i64 (k : Int) ∧ Hid (wr.heap[w.heap.size]? = some (.cells (tabTo k) 68 (0, 0))) ∧ Hid (Below w.heap.size w wr)) (fun cv _ => 256 - (intOf cv).toNat)
  case atStart => exact ⟨0, by omega, rfl, hid (heap_alloc_new w _), hid (balloc (Below.refl _ w) _)⟩
  case round =>
    obtain ⟨k, hk, rfl, HR, HB⟩ := hrel
    by_cases hlt : k < 256
    · have hlt2 : (k : Int) < 256 := by omega
      have hk0 : (0 : Int) ≤ (k : Int) := by omega
      go_wp2
      obtain ⟨wo, rfl⟩ : ∃ wo : World, wo = wr := ⟨_, rfl⟩
      go_loopw [2, 8] (fun nv jv wq => ∃ j : Nat, j ≤ 8 ∧ nv = .int .u32 ((stps j k : Nat) : Int) ∧ jv = .int .i64 (j : Int) ∧ wq = wo) (fun _ jv _ => 8 - (intOf jv).toNat)
      case atStart => exact ⟨0, by omega, rfl, rfl, rfl⟩
      case round =>
        obtain ⟨j, hj, rfl, rfl, hwq⟩ := hrel
        obtain rfl := hwq
        by_cases hj8 : j < 8
        · have hj2 : (j : Int) < 8 := by omega
          obtain ⟨n, hn⟩ : ∃ n, stps j k = n := ⟨_, rfl⟩
          have hnl : n < 4294967296 := by rw [← hn]; exact stps_lt j k (by omega)
          have hnx : stps (j + 1) k = stp n := by rw [stps_succ, hn]
          have HNX := hid hnx
          rw [hn]
          have a1 := and1_u32 hnl
          have a2 := bits0_u32
          have a3 := bits1_u32
          clear hn hnx
          by_cases hodd : n % 2 = 1
          · rw [hodd] at a1
            have a4 := stp_odd hnl hodd
            go_wp2
            go_roundw
            case rel => exact ⟨j + 1, by omega, by rw [HNX.out], by simp, trivial⟩
            case measure => simp [intOf]; omega
          · have h0 : n % 2 = 0 := by omega
            rw [h0] at a1
            have a4 := stp_ev hnl h0
            go_wp2
            go_roundw
            case rel => exact ⟨j + 1, by omega, by rw [HNX.out], by simp, trivial⟩
            case measure => simp [intOf]; omega
        · obtain rfl : j = 8 := by omega
          have hcc : wr.cell? ⟨w.heap.size, k, none⟩ = some (.int .u32 ((if k < k then stps 8 k else 0 : Nat) : Int)) := by rw [cell_of_row wr _ k _ _ _ HR.out]; exact tabTo_get hlt
          have hcf := frozen_of_row wr w.heap.size k _ _ HR.out
          have HS : Hid ((wr.setCell ⟨w.heap.size, k, none⟩ (.int .u32 ((stps 8 k : Nat) : Int))).heap[w.heap.size]? = some (.cells (tabTo (k + 1)) 68 (0, 0))) := hid (by rw [← tabTo_set hlt]; exact heap_setCell_same _ _ k _ _ _ HR.out)
          have HB2 := hid (HB.out.setCell (p := ⟨w.heap.size, k, none⟩) (Nat.le_refl _) (.int .u32 ((stps 8 k : Nat) : Int)))
          go_wp2
          go_roundw
          case rel => exact ⟨k + 1, by omega, by simp, HS, HB2⟩
          case measure => simp [intOf]; omega
    · obtain rfl : k = 256 := by omega
      have hinf : Hid ((Try.prog.info? 68).map (·.size) = some (tabTo 256).size) := by rw [tabTo_size]; exact hid (by kernel_rfl)
      have hone : Hid ((tabTo 256).all (·.oneCell') = true) := hid (by simp [tabTo, Value.oneCell'])
      go_wp2_with (first | (refine wpList_load_row rfl 68 _ rfl _ rfl 68 _ (0, 0) _ HR.out Try.underlying68 rfl hinf.out ?_) | (refine wpList_store_row rfl 68 _ _ rfl _ _ rfl rfl 68 _ HR.out hinf.out rfl hone.out ?_))
      refine bodyPost_ret (v := .agg (tabTo 256)) (results_cell_row rfl _ _ _ 68 _ (0, 0) _ rfl (setRow_heap wr w.heap.size _ _ 68 (0, 0) HR.out) Try.underlying68 rfl hinf.out) rfl ?_
      exact ⟨rfl, below_setRow HB.out (Nat.le_refl _) _⟩
end Go.Proofs.Ytlonmjmjmnondaa
