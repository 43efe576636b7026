/- The document's own functions: Same, Num, Text, Sum, Seal, Open; walked. -/
import Derived.Test.YtlonmjmjmnondaaBk
import Derived.Test.YtlonmjmjmnondaaBi
namespace Go.Proofs.Ytlonmjmjmnondaa
set_option linter.unusedVariables false
set_option linter.unusedSimpArgs false
open Go.RowKit
attribute [local go_sem ↓] Go.wp_at_zero Go.wp_at_succ
def Bytes (xs : List Int) : Prop := ∀ x ∈ xs, 0 ≤ x ∧ x ≤ 255
theorem str_inj {xs ys : List Int} (hx : Bytes xs) (hy : Bytes ys) (h : strOfNums xs = strOfNums ys) : xs = ys := by
  have h1 : (strOfNums xs).data.toList = (strOfNums ys).data.toList := by rw [h]
  rw [strOfNums_data, strOfNums_data] at h1
  have key : ∀ l : List Int, Bytes l → (l.map fun n => UInt8.ofNat n.toNat).map (fun b => ((b.toNat : Nat) : Int)) = l := fun l hl => by
    rw [List.map_map]
    conv => rhs; rw [← List.map_id l]
    refine List.map_congr_left fun x hx => ?_
    have := hl x hx
    simp
    omega
  rw [← key xs hx, ← key ys hy, h1]
theorem newb_append {w w2 w3 : World} {v : Value} {A : Option Addr} {c : Nat} {zs : List Int} (hb : Below w.heap.size w w2) (hg : w2.grownBy w3 v.ownBlock) (hv : ∀ k, v.ownBlock = some k → w.heap.size ≤ k)
    (ho : ∀ k, (Value.slice A zs.length c).ownBlock = some k → v.ownBlock = some k ∨ w2.heap.size ≤ k) (hs : BS w3 (.slice A zs.length c) zs) : NewB zs w (.returned (.slice A zs.length c)) w3 :=
  ⟨A, c, rfl, hs, fun k hk => (ho k hk).elim (hv k) (Nat.le_trans hb.size), hb.grown hg hb.size hv⟩
theorem lit_own {w : World} {n c : Nat} : ∀ k, (Value.slice (some ⟨w.heap.size, 0, none⟩) n c).ownBlock = some k → w.heap.size ≤ k := fun k hk => by
  have : w.heap.size = k := by simpa [Value.ownBlock] using hk
  omega
set_option maxRecDepth 100000 in
set_option maxHeartbeats 1000000 in
theorem same_any {w : World} {v1 v2 : Value} {xs ys : List Int} (h1 : RB w v1 xs) (h2 : RB w v2 ys) (hx : Bytes xs) (hy : Bytes ys) :
    Calls Try.prog 17 #[v1, v2] w fun e w' => e = .returned (.bool (eqB xs ys)) ∧ w = w' := by
  obtain ⟨A, c, rfl, hc⟩ := h1.form
  obtain ⟨A2, c2, rfl, hc2⟩ := h2.form
  have k1 := h1.str rfl
  have k2 := h2.str rfl
  have HE : Hid (((strOfNums xs).toList == (strOfNums ys).toList) = eqB xs ys) := hid (by
    unfold eqB
    by_cases h : xs = ys
    · subst h; simp
    · have : (strOfNums xs).toList ≠ (strOfNums ys).toList := fun e => by
        rw [ByteArray.toList_eq, ByteArray.toList_eq] at e
        exact h (str_inj hx hy (WideShapes.bytes_inj e))
      simp [h, this])
  clear h1 h2 hx hy
  go_enter Try.func17, Try.ntmps17
  go_wp2
  go_ret
  exact ⟨by rw [← HE.out]; rfl, rfl⟩
set_option maxRecDepth 100000 in
set_option maxHeartbeats 1000000 in
theorem num_d : ∀ (b : Nat) (n : Nat), n < b → n ≤ 1073741824 → ∀ w : World, Calls Try.prog 16 #[.int .i64 (n : Int)] w (NewB (encN n) w)
  | 0, n, h, _, _ => absurd h (Nat.not_lt_zero n)
  | b + 1, n, hb, hn, w => by
    by_cases h : n < 128
    · have h2 : (n : Int) < 128 := by omega
      rw [encN_lt h]
      go_enter Try.func16, Try.ntmps16
      go_wp2
      go_ret
      exact ⟨_, _, rfl, SL.lit w 5 1 1 #[.int .u8 (n : Int)] rfl (by simp [maxLen]), fun k hk => by (have : w.heap.size = k := by simpa [Value.ownBlock] using hk); omega, balloc (Below.refl _ w) _⟩
    · have h2 : ¬ (n : Int) < 128 := by omega
      obtain ⟨i0, hi0, hz0, hz1, hz2⟩ := info_parts info5
      obtain ⟨D, hD⟩ : ∃ D : Int, (n : Int) % 128 + 128 = D := ⟨_, rfl⟩
      have HIH := hid (num_d b (n / 128) (by omega) (by omega))
      obtain ⟨ys, hys⟩ : ∃ ys, encN (n / 128) = ys := ⟨_, rfl⟩
      have HYL : Hid (ys.length ≤ 5) := hid (by rw [← hys]; exact encN_five (by omega))
      obtain ⟨zs, hzs⟩ : ∃ zs, encN n = zs := ⟨_, rfl⟩
      have HZ : Hid (zs = ((n : Int) % 128 + 128) :: ys) := hid (by rw [← hzs, encN_ge (by omega), hys]; simp)
      rw [hys] at HIH
      rw [hzs]
      have HLn : Hid (1 + ys.length = zs.length) := hid (by rw [HZ.out, List.length_cons]; omega)
      have HBn : Hid (by8 [(n : Int) % 128 + 128] ++ by8 ys = by8 zs) := hid (by rw [HZ.out, ← by8_append]; rfl)
      have h63 : zs.length ≤ maxLen := by have := HYL.out; have := HLn.out; simp only [maxLen]; omega
      have hby : zs.length * 1 ≤ 140737488355328 := by have := HYL.out; have := HLn.out; omega
      have hone := by8_one ys
      have HA : Hid (BS (w.alloc (.cells #[.int .u8 ((n : Int) % 128 + 128)] 5)) (.slice (some ⟨w.heap.size, 0, none⟩) [(n : Int) % 128 + 128].length 1) [(n : Int) % 128 + 128]) := hid (SL.lit w 5 1 1 #[.int .u8 ((n : Int) % 128 + 128)] rfl (by simp [maxLen]))
      have HF := hid (balloc (Below.refl _ w) (.cells #[.int .u8 ((n : Int) % 128 + 128)] 5))
      clear hys hzs hD
      go_enter Try.func16, Try.ntmps16
      go_wp2_with (first
        | (go_at_call 16; refine (HIH.out _).mono ?_; rintro e w2 ⟨A2, c2, rfl, hb2, ho2, hw2⟩; have HB2 := hid hb2; have HO2 := hid ho2; have HW2 := hid hw2; have HA2 := hid (HA.out.below hw2); clear hb2 ho2 hw2)
        | (at_builtin; refine wpList_append_SRs rfl _ _ _ rfl 5 i0 _ 1 Try.underlying25 hi0 hz0 hz1 hz2 rfl (.slice (some ⟨w.heap.size, 0, none⟩) 1 1) 1 (by8 [(n : Int) % 128 + 128]) rfl HA2.out _ ys.length (by8 ys) rfl HB2.out.rb hone zs.length (by8 zs) HLn.out HBn.out h63 hby ?_; intro A3 c3 w3 hs3 hg3 ho3; have HS3 := hid hs3; have HG3 := hid hg3; have HO3 := hid ho3; clear hs3 hg3 ho3))
      go_ret
      exact newb_append (bthen HF.out HW2.out) HG3.out lit_own HO3.out HS3.out
set_option maxRecDepth 100000 in
set_option maxHeartbeats 1000000 in
theorem text_d (s : ByteArray) (hs : s.size ≤ 1048576) (w : World) : Calls Try.prog 13 #[.string s] w (NewB (encN s.size ++ bytesS s) w) := by
  obtain ⟨i0, hi0, hz0, hz1, hz2⟩ := info_parts info5
  have HIH := hid (num_d (s.size + 1) s.size (by omega) (by omega))
  obtain ⟨ys, hys⟩ : ∃ ys, encN s.size = ys := ⟨_, rfl⟩
  have HYL : Hid (ys.length ≤ 5) := hid (by rw [← hys]; exact encN_five (by omega))
  rw [hys] at HIH ⊢
  obtain ⟨zs, hzs⟩ : ∃ zs, ys ++ bytesS s = zs := ⟨_, rfl⟩
  have HLn : Hid (ys.length + s.size = zs.length) := hid (by rw [← hzs, List.length_append, bytesS_length])
  have HBn : Hid (by8 ys ++ Lib.strCells s = by8 zs) := hid (by rw [← hzs, by8_append, bytesS_cells])
  rw [hzs]
  have h63 : zs.length ≤ 140737488355328 := by have := HYL.out; have := HLn.out; omega
  clear hys hzs
  go_enter Try.func13, Try.ntmps13
  go_wp2_with (first
    | (go_at_call 16; refine (HIH.out _).mono ?_; rintro e w2 ⟨A2, c2, rfl, hb2, ho2, hw2⟩; have HB2 := hid hb2; have HO2 := hid ho2; have HW2 := hid hw2; clear hb2 ho2 hw2)
    | (at_builtin; refine wpList_append_str rfl _ _ 25 9 rfl 5 i0 Try.underlying25 Try.underlying9 hi0 hz0 hz1 hz2 (.slice A2 ys.length c2) ys.length (by8 ys) rfl HB2.out s rfl zs.length (by8 zs) HLn.out HBn.out h63 ?_; intro A3 c3 w3 hs3 hg3 ho3; have HS3 := hid hs3; have HG3 := hid hg3; have HO3 := hid ho3; clear hs3 hg3 ho3))
  go_ret
  exact newb_append HW2.out HG3.out HO2.out HO3.out HS3.out
theorem stp_ev' {n : Nat} (h : n % 2 = 0) : (n : Int) / 2 = ((stp n : Nat) : Int) := by
  rw [stp, if_neg (by omega)]
  omega
set_option maxRecDepth 100000 in
set_option maxHeartbeats 2000000 in
theorem sum_d {w : World} {v : Value} {xs : List Int} (h : RB w v xs) (hx : Bytes xs) : Calls Try.prog 25 #[v] w fun e w' => e = .returned (.int .u32 ((sumN xs : Nat) : Int)) ∧ w = w' := by
  obtain ⟨A, c, rfl, hc⟩ := h.form
  have hle := h.le
  have HS := hid h
  have HX := hid hx
  clear h hx
  go_enter Try.func25, Try.ntmps25
  go_wp2
  go_loopw [3, 9] (fun nv iv wr => ∃ i : Nat, i ≤ xs.length ∧ nv = .int .u32 ((regN allOnes (xs.take i) : Nat) : Int) ∧ iv = .int .i64 (i : Int) ∧ wr = w) (fun _ iv _ => xs.length - (intOf iv).toNat)
  case atStart => exact ⟨0, by omega, rfl, rfl, rfl⟩
  case round =>
    obtain ⟨i, hi, rfl, rfl, hwr⟩ := hrel
    obtain rfl := hwr
    have hnl : regN allOnes (xs.take i) < 4294967296 := regN_lt _ _ (by decide) (fun x hx => HX.out x (List.mem_of_mem_take hx))
    by_cases hlt : i < xs.length
    · have hlt2 : (i : Int) < (xs.length : Int) := by omega
      have hi0 : (0 : Int) ≤ (i : Int) := by omega
      have hnx := regN_take hlt
      obtain ⟨x0, rfl, k1⟩ := HS.out.item hlt
      have hxb := HX.out xs[i] (List.getElem_mem hlt)
      obtain ⟨b, hb⟩ : ∃ b : Nat, xs[i] = (b : Int) := ⟨xs[i].toNat, by omega⟩
      rw [hb] at k1 hxb hnx
      rw [Int.toNat_natCast] at hnx
      have hb2 : b < 256 := by omega
      obtain ⟨n, hn⟩ : ∃ n, regN allOnes (xs.take i) = n := ⟨_, rfl⟩
      rw [hn] at hnl hnx ⊢
      have a1 : bits .xor .u32 (n : Int) (b : Int) = ((n ^^^ b : Nat) : Int) := xor_u32 hnl (by omega)
      have htl : n ^^^ b < 4294967296 := Nat.xor_lt_two_pow (n := 32) hnl (by omega)
      obtain ⟨t, ht⟩ : ∃ t, n ^^^ b = t := ⟨_, rfl⟩
      have HNX : Hid (regN allOnes (xs.take (i + 1)) = stps 8 t) := hid (by rw [hnx, byteIn, ht])
      rw [ht] at a1 htl
      clear hnx hn hb ht
      go_wp2
      go_loopw [3, 6] (fun nv jv wq => ∃ j : Nat, j ≤ 8 ∧ nv = .int .u32 ((stps j t : Nat) : Int) ∧ jv = .int .i64 (j : Int) ∧ wq = wr) (fun _ jv _ => 8 - (intOf jv).toNat)
      case atStart => exact ⟨0, by omega, rfl, rfl, rfl⟩
      case round =>
        obtain ⟨j, hj, rfl, rfl, hwq⟩ := hrel
        obtain rfl := hwq
        by_cases hj8 : j < 8
        · have hj2 : (j : Int) < 8 := by omega
          obtain ⟨q, hq⟩ : ∃ q, stps j t = q := ⟨_, rfl⟩
          have hql : q < 4294967296 := by rw [← hq]; exact stps_lt j t (by omega)
          have HQX : Hid (stps (j + 1) t = stp q) := hid (by rw [stps_succ, hq])
          rw [hq]
          clear hq
          by_cases hodd : q % 2 = 1
          · have a4 := stp_odd hql hodd
            have a5 : (q : Int) % 2 = 1 := by omega
            go_wp2
            go_roundw
            case rel => exact ⟨j + 1, by omega, by rw [HQX.out], by simp, trivial⟩
            case measure => simp [intOf]; omega
          · have h0 : q % 2 = 0 := by omega
            have a4 := stp_ev' h0
            have a5 : ¬ (q : Int) % 2 = 1 := by omega
            go_wp2
            go_roundw
            case rel => exact ⟨j + 1, by omega, by rw [HQX.out], by simp, trivial⟩
            case measure => simp [intOf]; omega
        · obtain rfl : j = 8 := by omega
          go_wp2
          go_roundw
          case rel => exact ⟨i + 1, by omega, by rw [HNX.out], by simp, trivial⟩
          case measure => simp [intOf]; omega
    · obtain rfl : i = xs.length := by omega
      rw [List.take_length] at hnl ⊢
      have hsum : Hid (sumN xs = regN allOnes xs ^^^ allOnes) := hid rfl
      obtain ⟨n, hn⟩ : ∃ n, regN allOnes xs = n := ⟨_, rfl⟩
      rw [hn] at hnl hsum ⊢
      clear hn
      have hmx : bits .xor .u32 (n : Int) 4294967295 = ((n ^^^ allOnes : Nat) : Int) := xor_u32 (a := n) (b := allOnes) hnl (by decide)
      go_wp2
      go_ret
      exact ⟨by rw [hsum.out]; rfl, rfl⟩
end Go.Proofs.Ytlonmjmjmnondaa
