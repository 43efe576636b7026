/- Sum, Seal and Open, walked. -/
import Derived.Test.YtlonmjmjmnondaaBj
import Derived.Test.YtlonmjmjmnondaaBb
namespace Go.Proofs.Ytlonmjmjmnondaa
set_option linter.unusedVariables false
set_option linter.unusedSimpArgs false
open Go.RowKit
attribute [local go_sem ↓] Go.wp_at_zero Go.wp_at_succ
theorem regN_take {xs : List Int} {i : Nat} (h : i < xs.length) : regN allOnes (xs.take (i + 1)) = byteIn (regN allOnes (xs.take i)) xs[i].toNat := by
  rw [List.take_succ_eq_append_getElem h, regN_append]
  rfl
def SumP (xs : List Int) (w : World) (e : Ending) (w' : World) : Prop := e = .returned (.int .u32 ((sumN xs : Nat) : Int)) ∧ Below w.heap.size w w'
theorem balloc' {w0 w : World} (h : Below w0.heap.size w0 w) (o : Obj) : Below w0.heap.size w0 (w.alloc o) := balloc h o
set_option maxRecDepth 100000 in
set_option maxHeartbeats 2000000 in
theorem sum_any {w : World} {v : Value} {xs : List Int} (h : RB w v xs) (hx : ∀ x ∈ xs, 0 ≤ x ∧ x ≤ 255) : Calls Try.prog 24 #[v] w (SumP xs w) := by
  obtain ⟨A, c, rfl, hc⟩ := h.form
  have hle := h.le
  have HS := hid h
  have HX := hid hx
  have hz := zero68
  have hinf : Hid ((Try.prog.info? 68).map (·.size) = some (tabTo 256).size) := by rw [tabTo_size]; exact hid (by kernel_rfl)
  have hone : Hid ((tabTo 256).all (·.oneCell') = true) := hid (by simp [tabTo, Value.oneCell'])
  clear h hx
  go_enter Try.func24, Try.ntmps24
  go_wp2_with (first
    | (go_at_call 37; refine (table_any _).mono ?_; rintro e w2 ⟨rfl, hb2⟩; have HB2 := hid hb2; clear hb2)
    | (refine wpList_store_row rfl 68 _ _ rfl w2.heap.size _ rfl rfl 68 _ (heap_alloc_new w2 _) hinf.out rfl hone.out ?_))
  obtain ⟨W0, hW0⟩ : ∃ W0, (w2.alloc (Obj.cells (tabTo 0) 68)).setRow w2.heap.size (tabTo 256) = W0 := ⟨_, rfl⟩
  have HT : Hid (W0.heap[w2.heap.size]? = some (.cells (tabTo 256) 68 (0, 0))) := by
    rw [← hW0]
    exact hid (setRow_heap _ w2.heap.size _ _ 68 (0, 0) (heap_alloc_new w2 _))
  have HB0 : Hid (Below w.heap.size w W0) := by
    rw [← hW0]
    exact hid (below_setRow (balloc' HB2.out _) HB2.out.size _)
  have HS0 := hid (HS.out.below HB0.out)
  rw [hW0]
  clear hW0 hz
  obtain ⟨T, hT⟩ : ∃ T, w2.heap.size = T := ⟨_, rfl⟩
  rw [hT] at HT ⊢
  clear hT
  go_loopw [4, 10] (fun nv iv wr => ∃ i : Nat, i ≤ xs.length ∧ nv = .int .u32 ((regN allOnes (xs.take i) : Nat) : Int) ∧ iv = .int .i64 (i : Int) ∧ wr = W0) (fun _ iv _ => xs.length - (intOf iv).toNat)
  case atStart => exact ⟨0, by omega, rfl, rfl, rfl⟩
  case round =>
    obtain ⟨i, hi, rfl, rfl, hwr⟩ := hrel
    obtain rfl := hwr
    have hnl : regN allOnes (xs.take i) < 4294967296 := regN_lt _ _ (by decide) (fun x hx => HX.out x (List.mem_of_mem_take hx))
    by_cases hlt : i < xs.length
    · have hlt2 : (i : Int) < (xs.length : Int) := by omega
      have hi0 : (0 : Int) ≤ (i : Int) := by omega
      have hnx := regN_take hlt
      obtain ⟨x0, rfl, k1⟩ := HS0.out.item hlt
      have hxb := HX.out xs[i] (List.getElem_mem hlt)
      obtain ⟨b, hb⟩ : ∃ b : Nat, xs[i] = (b : Int) := ⟨xs[i].toNat, by omega⟩
      rw [hb] at k1 hxb hnx
      rw [Int.toNat_natCast] at hnx
      have hb2 : b < 256 := by omega
      obtain ⟨n, hn⟩ : ∃ n, regN allOnes (xs.take i) = n := ⟨_, rfl⟩
      rw [hn] at hnl hnx ⊢
      have a1 : bits .xor .u8 ((n : Int) % 256) (b : Int) = ((n % 256 ^^^ b : Nat) : Int) := xor_u8 (a := n % 256) (b := b) (by omega) hb2
      have htl : n % 256 ^^^ b < 256 := Nat.xor_lt_two_pow (n := 8) (by omega) hb2
      have htab := byteIn_tab n b hb2
      obtain ⟨t, ht⟩ : ∃ t, n % 256 ^^^ b = t := ⟨_, rfl⟩
      rw [ht] at a1 htl htab
      have ht2 : (t : Int) < 256 := by omega
      have ht0 : (0 : Int) ≤ (t : Int) := by omega
      have hcc : wr.cell? ⟨T, t, none⟩ = some (.int .u32 ((stps 8 t : Nat) : Int)) := by rw [cell_of_row wr _ t _ _ _ HT.out, tabTo_get htl, if_pos htl]
      have hsl : stps 8 t < 4294967296 := stps_lt 8 t (by omega)
      obtain ⟨s, hs⟩ : ∃ s, stps 8 t = s := ⟨_, rfl⟩
      rw [hs] at hcc hsl htab
      have a2 : bits .xor .u32 (s : Int) ((n : Int) / 256) = ((byteIn n b : Nat) : Int) := by
        rw [htab]
        exact xor_u32 (a := s) (b := n / 256) hsl (by omega)
      have HNX := hid hnx
      clear hnx hn ht hs hb htab
      go_wp2
      go_roundw
      case rel => exact ⟨i + 1, by omega, by rw [HNX.out], by simp, trivial⟩
      case measure => simp [intOf]; omega
    · obtain rfl : i = xs.length := by omega
      rw [List.take_length] at hnl ⊢
      have hsum : Hid (sumN xs = regN allOnes xs ^^^ allOnes) := hid rfl
      obtain ⟨n, hn⟩ : ∃ n, regN allOnes xs = n := ⟨_, rfl⟩
      rw [hn] at hnl hsum ⊢
      clear hn
      have hsg : IntKind.u32.signed = false := rfl
      have hmx : bits .xor .u32 IntKind.u32.max (n : Int) = ((allOnes ^^^ n : Nat) : Int) := xor_u32 (a := allOnes) (b := n) (by decide) hnl
      go_wp2
      all_goals first | (exact absurd ‹IntKind.u32.signed = true› (by decide)) | skip
      go_ret
      exact ⟨by rw [hsum.out, Nat.xor_comm]; rfl, HB0.out⟩
/-- the bytes of a sum, the lowest first: the first k -/
theorem le4_zero (n : Nat) : (le4 n).take 0 = [] := rfl
def dig8 (n i : Nat) : Int := ((n / 256 ^ i % 256 : Nat) : Int)
theorem le4_take {i : Nat} (h : i < 4) (n : Nat) : (le4 n).take (i + 1) = (le4 n).take i ++ [dig8 n i] := by
  rcases (by omega : i = 0 ∨ i = 1 ∨ i = 2 ∨ i = 3) with rfl | rfl | rfl | rfl <;> simp [le4, dig8]
def sealB (xs : List Int) : List Int := xs ++ le4 (sumN xs)
set_option maxRecDepth 100000 in
set_option maxHeartbeats 2000000 in
theorem seal_any {w : World} {v : Value} {xs : List Int} (h : RB w v xs) (hx : ∀ x ∈ xs, 0 ≤ x ∧ x ≤ 255) (hl : xs.length ≤ 10000000) : Calls Try.prog 26 #[v] w (NewB (sealB xs) w) := by
  obtain ⟨A, c, rfl, hc⟩ := h.form
  have HS := hid h
  have HX := hid hx
  have hl2 : xs.length ≤ 140737488351232 := by omega
  have hl3 : xs.length ≤ 100000000 := by omega
  clear h hx
  go_enter Try.func26, Try.ntmps26
  go_wp2_with (first
    | (go_at_call 34; refine (clone_any HS.out hl2).mono ?_; rintro e w2 ⟨A2, c2, rfl, hb2, ho2, hw2⟩; have HB2 := hid hb2; have HO2 := hid ho2; have HW2 := hid hw2; clear hb2 ho2 hw2)
    | (go_at_call 38; refine (grow_any HB2.out hl3).mono ?_; rintro e w3 ⟨A3, c3, rfl, hb3, ho3, hw3⟩; have HB3 := hid hb3; have HO3 := hid ho3; have HW3 := hid (bthen HW2.out hw3); clear hb3 ho3 hw3)
    | (go_at_call 24; refine (sum_any (HS.out.below HW3.out) HX.out).mono ?_; rintro e w4 ⟨rfl, hw4⟩; have HB4 := hid (HB3.out.below hw4); have HW4 := hid (bthen HW3.out hw4); clear hw4))
  have HNl : Hid (sumN xs < 4294967296) := hid (sumN_lt HX.out)
  obtain ⟨N, hN⟩ : ∃ N, sumN xs = N := ⟨_, rfl⟩
  rw [hN] at HNl ⊢
  have HNN := hid hN
  have HO0 : Hid (∀ k, (Value.slice A3 xs.length c3).ownBlock = some k → w.heap.size ≤ k) := hid (fun k hk => by
    rcases HO3.out k hk with h | h
    · exact HO2.out k h
    · exact Nat.le_trans HW2.out.size h)
  obtain ⟨i0, hi0, hz0, hz1, hz2⟩ := info_parts info5
  clear hN
  go_loopw [3, 4, 10] (fun bv nv iv wr => ∃ (i c' : Nat) (A' : Option Addr) (zs : List Int), i ≤ 4 ∧ bv = .slice A' zs.length c' ∧ nv = .int .u32 ((N / 256 ^ i : Nat) : Int) ∧ iv = .int .i64 (i : Int) ∧ Hid (zs = xs ++ (le4 N).take i) ∧ zs.length = xs.length + i ∧ Hid (BS wr bv zs) ∧ Hid (∀ k, bv.ownBlock = some k → w.heap.size ≤ k) ∧ Hid (Below w.heap.size w wr)) (fun _ _ iv _ => 4 - (intOf iv).toNat)
  case atStart => exact ⟨0, c3, A3, xs, by omega, rfl, by simp, rfl, hid (by simp [le4_zero]), by omega, HB4, HO0, HW4⟩
  case round =>
    obtain ⟨i, c', A', zs, hi, rfl, rfl, rfl, HZ, hzl, HB, HO, HW⟩ := hrel
    by_cases hlt : i < 4
    · have hlt2 : (i : Int) < 4 := by omega
      obtain ⟨n, hn⟩ : ∃ n, N / 256 ^ i = n := ⟨_, rfl⟩
      have HNX : Hid (n / 256 = N / 256 ^ (i + 1)) := hid (by rw [← hn, Nat.div_div_eq_div_mul, Nat.pow_succ])
      have HLE : Hid ((le4 N).take (i + 1) = (le4 N).take i ++ [((n % 256 : Nat) : Int)]) := hid (by rw [le4_take hlt, dig8, hn])
      have hnl : n < 4294967296 := by rw [← hn]; exact Nat.lt_of_le_of_lt (Nat.div_le_self _ _) HNl.out
      rw [hn]
      obtain ⟨ys, hys⟩ : ∃ ys, zs ++ [((n % 256 : Nat) : Int)] = ys := ⟨_, rfl⟩
      have hyl : ys.length = zs.length + 1 := by rw [← hys]; simp
      have HLn : Hid (zs.length + 1 = ys.length) := hid hyl.symm
      have HBn : Hid (by8 zs ++ [.int .u8 ((n : Int) % 256)] = by8 ys) := hid (by rw [← hys, by8_append]; simp [by8])
      have HYS := hid hys
      have h63 : ys.length ≤ maxLen := by simp only [maxLen]; omega
      have hby : ys.length * 1 ≤ 140737488355328 := by omega
      have HA : Hid (BS (wr.alloc (.cells #[.int .u8 ((n : Int) % 256)] 5)) (.slice A' zs.length c') zs) := hid (HB.out.alloc _)
      have HU : Hid (SR (wr.alloc (.cells #[.int .u8 ((n : Int) % 256)] 5)) (.slice (some ⟨wr.heap.size, 0, none⟩) 1 1) 1 [.int .u8 ((n : Int) % 256)]) := hid (SR.of_SL (SL.lit wr 5 1 1 #[.int .u8 ((n : Int) % 256)] rfl (by simp [maxLen])))
      have h1 : ∀ u ∈ [Value.int .u8 ((n : Int) % 256)], u.oneCell' = true := fun u hu => by simp at hu; subst hu; rfl
      clear hn hys hyl
      go_wp2_with (at_builtin; refine wpList_append_SRs rfl _ _ _ rfl 5 i0 _ 1 Try.underlying25 hi0 hz0 hz1 hz2 rfl (.slice A' zs.length c') zs.length (by8 zs) rfl HA.out _ 1 [.int .u8 ((n : Int) % 256)] rfl HU.out h1 ys.length (by8 ys) HLn.out HBn.out h63 hby ?_; intro A1 c1 w1 hs1 hg1 ho1; have HS1 := hid hs1; have HG1 := hid hg1; have HO1 := hid ho1; clear hs1 hg1 ho1)
      go_roundw
      case rel =>
        refine ⟨i + 1, c1, A1, ys, by omega, rfl, by rw [← HNX.out]; simp, by simp, hid (by rw [HLE.out, ← HYS.out, HZ.out, List.append_assoc]), by rw [← HLn.out]; omega, HS1, hid (fun k hk => ?_), hid ((balloc HW.out (.cells #[.int .u8 ((n : Int) % 256)] 5)).grown HG1.out (by rw [World.size_alloc]; exact Nat.le_succ_of_le HW.out.size) (fun k hk => HO.out k hk))⟩
        rcases HO1.out k hk with h | h
        · exact HO.out k h
        · rw [World.size_alloc] at h
          have := HW.out.size
          omega
      case measure => simp [intOf]; omega
    · obtain rfl : i = 4 := by omega
      go_wp2
      go_ret
      have e := HZ.out
      rw [show (le4 N).take 4 = le4 N from rfl] at e
      rw [sealB, HNN.out, ← e]
      exact ⟨A', c', rfl, HB.out, HO.out, HW.out⟩
/-- the bytes ahead of the last four -/
def headB (xs : List Int) : List Int := xs.take (xs.length - 4)
def OpenP (xs : List Int) (w : World) (e : Ending) (w' : World) : Prop :=
  (xs.length < 4 → e = .returned (.tuple #[.slice none 0 0, .int .i64 9]) ∧ w = w') ∧
  (4 ≤ xs.length → sealB (headB xs) ≠ xs → e = .returned (.tuple #[.slice none 0 0, .int .i64 8]) ∧ Below w.heap.size w w') ∧
  (4 ≤ xs.length → sealB (headB xs) = xs → ∃ A c, e = .returned (.tuple #[.slice A (headB xs).length c, .int .i64 0]) ∧ BS w' (.slice A (headB xs).length c) (headB xs) ∧ (∀ k, (Value.slice A (headB xs).length c).ownBlock = some k → w.heap.size ≤ k) ∧ Below w.heap.size w w')
set_option maxRecDepth 100000 in
set_option maxHeartbeats 2000000 in
theorem open_any {w : World} {v : Value} {xs : List Int} (h : RB w v xs) (hx : ∀ x ∈ xs, 0 ≤ x ∧ x ≤ 255) (hl : xs.length ≤ 10000000) : Calls Try.prog 22 #[v] w (OpenP xs w) := by
  obtain ⟨A, c, rfl, hc⟩ := h.form
  have HS := hid h
  have HX := hid hx
  by_cases h4 : xs.length < 4
  · have h42 : (xs.length : Int) < 4 := by omega
    clear h hx
    go_enter Try.func22, Try.ntmps22
    go_wp2
    go_ret2
    exact ⟨fun _ => ⟨rfl, rfl⟩, fun h => by omega, fun h => by omega⟩
  · have h42 : ¬ (xs.length : Int) < 4 := by omega
    obtain ⟨m, hm⟩ : ∃ m, xs.length - 4 = m := ⟨_, rfl⟩
    have hm4 : (xs.length : Int) - 4 = (m : Int) := by omega
    have hmc : (m : Int) ≤ (c : Int) := by omega
    have hm0 : (0 : Int) ≤ (m : Int) := by omega
    have htk : RB w (.slice A m c) (xs.take m) := h.take (by omega)
    have hhd : headB xs = xs.take m := by rw [headB, hm]
    have hml : m ≤ 10000000 := by omega
    obtain ⟨ys, hys⟩ : ∃ ys, xs.take m = ys := ⟨_, rfl⟩
    have hyl : ys.length = m := by rw [← hys, List.length_take]; omega
    rw [hys] at htk hhd
    have HTK := hid htk
    have HHD := hid hhd
    have HYX : Hid (∀ x ∈ ys, 0 ≤ x ∧ x ≤ 255) := hid (fun x hx => HX.out x (List.mem_of_mem_take (by rw [hys]; exact hx)))
    have hl2 : ys.length ≤ 140737488351232 := by omega
    have hl3 : ys.length ≤ 10000000 := by omega
    have HYL := hid hyl
    unfold OpenP
    rw [hhd]
    clear h hx htk hhd hm hys hyl
    cases hE : eqB (sealB ys) xs
    all_goals
      have HE := hid hE
      clear hE
      go_enter Try.func22, Try.ntmps22
      go_wp2_with (first
        | (go_at_call 34; refine (clone_any HTK.out hl2).mono ?_; rintro e w2 ⟨A2, c2, rfl, hb2, ho2, hw2⟩; have HB2 := hid hb2; have HO2 := hid ho2; have HW2 := hid hw2; clear hb2 ho2 hw2)
        | (go_at_call 26; refine (seal_any HB2.out.rb HYX.out hl3).mono ?_; rintro e w3 ⟨A3, c3, rfl, hb3, ho3, hw3⟩; have HB3 := hid hb3; have HW3 := hid hw3; have HW0 := hid (bthen HW2.out hw3); clear hb3 ho3 hw3)
        | (go_at_call 36; refine (equal_any HB3.out.rb (HS.out.below HW0.out)).mono ?_; rintro e w4 ⟨he, n4, rfl⟩; rw [HE.out] at he; subst he))
      go_ret2
    · have hne : sealB ys ≠ xs := of_decide_eq_false HE.out
      exact ⟨fun h => by omega, fun _ _ => ⟨rfl, bdrew HW0.out _⟩, fun _ h => absurd h hne⟩
    · have heq : sealB ys = xs := of_decide_eq_true HE.out
      exact ⟨fun h => by omega, fun _ h => absurd heq h, fun _ _ => ⟨A2, c2, rfl, (HB2.out.below HW3.out).drewN _, HO2.out, bdrew HW0.out _⟩⟩
end Go.Proofs.Ytlonmjmjmnondaa
