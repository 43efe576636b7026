/- The walk of the law BucketApart. -/
import Derived.Test.YtmbpdboengaclaaQx
namespace Go.Proofs.Ytmbpdboengaclaa
set_option linter.unusedVariables false
set_option linter.unusedSimpArgs false
open Go.RowKit
attribute [local go_sem ↓] Go.wp_at_zero Go.wp_at_succ
/-- what is in when the first k costs have been offered -/
def fil (zs : List Int) : Nat → List (Int × Int)
  | 0 => []
  | k + 1 => pl 0 4351 (el zs k) (k : Int) (fil zs k)
theorem fil_length (zs : List Int) : ∀ k, (fil zs k).length ≤ k
  | 0 => Nat.le_refl _
  | k + 1 => Nat.le_trans (pl_le _ _ _ _ _) (by have := fil_length zs k; omega)
section
variable {F G : Nat → Prop} {w w' : World}
def APush (F : Nat → Prop) (w : World) (q : Nat) (l : List (Int × Int)) (n top c v : Int) (e : Ending) (w' : World) : Prop :=
  e = .returned (.int .i64 (pc n top c)) ∧ QL F w' q (pl n top c v l) top n ∧ Touch F w w'
/-- a push, refused or not -/
theorem push_p {F : Nat → Prop} {w : World} {q : Nat} {l : List (Int × Int)} {n top : Int} (h : QL F w q l top n) (hF : ∀ k, w.heap.size ≤ k → F k) (hl : l.length ≤ 100000) (c v : Int) :
    Calls Try.prog 11 #[.pointer (some ⟨q, 0, none⟩), .int .i64 c, .int .i64 v] w (APush F w q l n top c v) := by
  refine (push_l h hF hl c v).mono ?_
  rintro e w' ⟨p1, p2⟩
  by_cases hc : c < n ∨ top < c
  · obtain ⟨rfl, rfl⟩ := p1 hc
    exact ⟨by rw [pc, if_pos hc], by rw [pl, if_pos hc]; exact h, Touch.refl _ _⟩
  · obtain ⟨rfl, hq, ht⟩ := p2 (by omega) (by omega)
    exact ⟨by rw [pc, if_neg hc], by rw [pl, if_neg hc]; exact hq, ht⟩
end
set_option maxRecDepth 100000 in
set_option maxHeartbeats 1000000 in
theorem alone_p {w W : World} {a : Option Addr} {len cap : Nat} {zs : List Int} (hz : IsRow .u16 W a len cap zs) (hw : Below W.heap.size W w) (hl : len ≤ 200) :
    Calls Try.prog 20 #[.slice a len cap] w (AllP (fil zs len) w) := by
  have HZ := hid hz
  have HW := hid hw
  clear hz hw
  go_enter Try.func20, Try.ntmps20
  go_wp2_with (go_at_call 10; refine (new_l _ _).mono ?_; rintro e w2 ⟨-, hp⟩; obtain ⟨rfl, hq, hb⟩ := hp (by decide) (by decide); have HN := hid hb.size; have HQ := hid hq; have HB := hid hb; clear hp hq hb)
  go_loopw [13] (fun iv wr => ∃ i : Nat, i ≤ len ∧ iv = .int .i64 (i : Int) ∧ Hid (QL (fun k => w.heap.size ≤ k) wr w.heap.size (fil zs i) 4351 0) ∧ Hid (Below w.heap.size w wr)) (fun iv _ => len - (intOf iv).toNat)
  case atStart => exact ⟨0, by omega, rfl, HQ, HB⟩
  case round =>
    obtain ⟨i, hi, rfl, HQ2, HB2⟩ := hrel
    by_cases hlt : i < len
    · obtain ⟨x, rfl, hc, hz0, hz1⟩ := HZ.out.get (bthen HW.out HB2.out) hlt
      have hlt2 : (i : Int) < (len : Int) := by omega
      have hfl := fil_length zs i
      go_wp2_with fail
      refine (push_p HQ2.out (fun k hk => Nat.le_trans HB2.out.size hk) (by omega) _ _).mono ?_
      rintro e w3 ⟨rfl, hq, ht⟩
      have hq' : QL (fun k => w.heap.size ≤ k) w3 w.heap.size (fil zs (i + 1)) 4351 0 := hq
      have hb' := ht.below HB2.out (fun k hk => hk)
      go_wp2_with fail
      go_roundw
      case rel => exact ⟨i + 1, by omega, by simp, hid hq', hid hb'⟩
      case measure => simp [intOf]; omega
    · obtain rfl : i = len := by omega
      have hfl := fil_length zs i
      go_wp2_with fail
      refine (all_p HQ2.out (by omega)).mono ?_
      rintro e w5 ⟨A5, c5, rfl, hs5, ho5, hb5⟩
      have H5 := hid hs5
      have HO5 := hid ho5
      have HB5 := hid (bthen HB2.out hb5)
      have HZ5 := hid HB2.out.size
      clear hs5 ho5 hb5
      go_wp2_with fail
      go_ret
      exact ⟨A5, c5, rfl, H5.out, fun k hk => Nat.le_trans HZ5.out (HO5.out k hk), HB5.out⟩
/-- two queues of the program's, apart -/
structure Duo (B : Nat) (F G : Nat → Prop) (w : World) (p q : Nat) (l1 l2 : List (Int × Int)) : Prop where
  hp : QL F w p l1 4351 0
  hq : QL G w q l2 4351 0
  ap : ∀ k, F k → ¬ G k
  fb : ∀ k, F k → B ≤ k ∧ k < w.heap.size
  gb : ∀ k, G k → B ≤ k ∧ k < w.heap.size
section
variable {B : Nat} {F G : Nat → Prop} {w w' : World} {p q : Nat} {l1 l2 : List (Int × Int)}
theorem Duo.swap (h : Duo B F G w p q l1 l2) : Duo B G F w q p l2 l1 := ⟨h.hq, h.hp, fun k hg hf => h.ap k hf hg, h.gb, h.fb⟩
theorem Duo.below (h : Duo B F G w p q l1 l2) (hb : Below w.heap.size w w') : Duo B F G w' p q l1 l2 :=
  ⟨h.hp.below hb, h.hq.below hb, h.ap, fun k hk => ⟨(h.fb k hk).1, Nat.lt_of_lt_of_le (h.fb k hk).2 hb.size⟩, fun k hk => ⟨(h.gb k hk).1, Nat.lt_of_lt_of_le (h.gb k hk).2 hb.size⟩⟩
def DPush (B : Nat) (G : Nat → Prop) (w : World) (p q : Nat) (l1 l2 : List (Int × Int)) (c v : Int) (e : Ending) (w' : World) : Prop :=
  e = .returned (.int .i64 (pc 0 4351 c)) ∧ (∃ F', Duo B F' G w' p q (pl 0 4351 c v l1) l2) ∧ Touch (fun k => B ≤ k) w w'
theorem duo_push (h : Duo B F G w p q l1 l2) (hB : B ≤ w.heap.size) (hl : l1.length ≤ 100000) (c v : Int) :
    Calls Try.prog 11 #[.pointer (some ⟨p, 0, none⟩), .int .i64 c, .int .i64 v] w (DPush B G w p q l1 l2 c v) := by
  have hq : QL (fun k => F k ∨ w.heap.size ≤ k) w p l1 4351 0 := h.hp.mono fun k hk => .inl hk
  refine (push_p hq (fun k hk => .inr hk) hl c v).mono ?_
  rintro e w' ⟨rfl, hq', ht⟩
  have ht2 : Touch F w w' := ⟨ht.os, ht.tape, ht.output, ht.size, fun k hk hf => ht.block k hk (fun h => by rcases h with h | h; exact hf h; omega)⟩
  refine ⟨rfl, ⟨fun k => (F k ∨ w.heap.size ≤ k) ∧ k < w'.heap.size, ⟨hq'.bound, h.hq.touch ht2 (fun k hk hf => h.ap k hf hk), fun k hk hg => ?_, fun k hk => ⟨?_, hk.2⟩, fun k hk => ⟨(h.gb k hk).1, Nat.lt_of_lt_of_le (h.gb k hk).2 ht.size⟩⟩⟩, ht2.mono fun k hk => (h.fb k hk).1⟩
  · rcases hk.1 with h1 | h1
    · exact h.ap k h1 hg
    · have := (h.gb k hg).2; omega
  · rcases hk.1 with h1 | h1
    · exact (h.fb k h1).1
    · omega
end
theorem fil_min (zs : List Int) (i n : Nat) : fil zs (min (i + 1) n) = if i < n then pl 0 4351 (el zs i) (i : Int) (fil zs (min i n)) else fil zs (min i n) := by
  split
  · rename_i h
    rw [Nat.min_eq_left (by omega), Nat.min_eq_left (by omega)]
    rfl
  · rw [Nat.min_eq_right (by omega), Nat.min_eq_right (by omega)]
set_option maxRecDepth 100000 in
set_option maxHeartbeats 4000000 in
theorem apart_law (a : Option Addr) (len cap : Nat) (zs : List Int) (a2 : Option Addr) (len2 cap2 : Nat) (ys : List Int) (w : World) (hz : IsRow .u16 w a len cap zs) (hy : IsRow .u16 w a2 len2 cap2 ys) :
    Calls Try.prog 8 #[.slice a len cap, .slice a2 len2 cap2] w fun e w' => e = .returned (.bool true) ∧ Below w.heap.size w w' := by
  have HB := hid (Below.refl w.heap.size w)
  have HZ := hid hz
  have HY := hid hy
  have hl1 := hz.le
  have hl2 := hy.le
  clear hz hy
  go_enter Try.func8, Try.ntmps8
  go_wp2_with (go_at_call 9; refine (alive_any _).mono ?_; rintro e w1 ⟨rfl, hb⟩; replace HB := hid hb; clear hb)
  · go_ret
    exact ⟨rfl, HB.out⟩
  rotate_left
  · go_ret
    exact ⟨rfl, HB.out⟩
  have hl3 : len ≤ 200 ∧ len2 ≤ 200 := by omega
  refine (alone_p HZ.out HB.out hl3.1).mono ?_
  rintro e w2 ⟨A2, c2, rfl, hs2, ho2, hb2⟩
  have HS2 := hid hs2
  have HB2 := hid (bthen HB.out hb2)
  clear hs2 ho2 hb2
  go_wp2_with fail
  refine (alone_p HY.out HB2.out hl3.2).mono ?_
  rintro e w3 ⟨A3, c3, rfl, hs3, ho3, hb3⟩
  have HS3 := hid hs3
  have HT2 := hid (HS2.out.keep (fun k hk => hb3.block k (HS2.out.lt k hk)))
  have HB3 := hid (bthen HB2.out hb3)
  clear hs3 ho3 hb3 HS2 HB HB2
  go_wp2_with fail
  refine (new_l _ _).mono ?_
  rintro e w4 ⟨-, hp⟩
  obtain ⟨rfl, hq4, hb4⟩ := hp (by decide) (by decide)
  have HQ4 := hid hq4
  have HN4 := hid hb4.size
  have HU2 := hid (HT2.out.keep (fun k hk => hb4.block k (HT2.out.lt k hk)))
  have HU3 := hid (HS3.out.keep (fun k hk => hb4.block k (HS3.out.lt k hk)))
  have HL2 := hid HT2.out.lt
  have HL3 := hid HS3.out.lt
  have HB4 := hid (bthen HB3.out hb4)
  clear hp hq4 hb4 HT2 HS3
  go_wp2_with fail
  refine (new_l _ _).mono ?_
  rintro e w5 ⟨-, hp⟩
  obtain ⟨rfl, hq5, hb5⟩ := hp (by decide) (by decide)
  have HD : Hid (Duo w3.heap.size (fun k => w3.heap.size ≤ k ∧ k < w4.heap.size) (fun k => w4.heap.size ≤ k ∧ k < w5.heap.size) w5 w3.heap.size w4.heap.size (fil zs 0) (fil ys 0)) :=
    hid ⟨HQ4.out.bound.below hb5, hq5.bound, fun k hk hg => by omega, fun k hk => ⟨hk.1, Nat.lt_of_lt_of_le hk.2 hb5.size⟩, fun k hk => ⟨by have := HN4.out; omega, hk.2⟩⟩
  have HV2 := hid (HU2.out.keep (fun k hk => hb5.block k (HU2.out.lt k hk)))
  have HV3 := hid (HU3.out.keep (fun k hk => hb5.block k (HU3.out.lt k hk)))
  have HB5 := hid (bthen HB4.out hb5)
  have HN5 := hid (Nat.le_trans HN4.out hb5.size)
  clear hp hq5 hb5 HQ4 HU2 HU3
  have HW3 := hid HB3.out.size
  go_wp2_with fail
  all_goals
    have HTo : Hid (Touch (fun k => w3.heap.size ≤ k) w5 w5) := hid (Touch.refl _ _)
    have HFW : Hid (∀ k, w3.heap.size ≤ k → w.heap.size ≤ k) := hid fun k hk => Nat.le_trans HW3.out hk
    go_loopw [42] (fun iv wr => ∃ (i : Nat) (F G : Nat → Prop), i ≤ max len len2 ∧ iv = .int .i64 (i : Int) ∧ Hid (Duo w3.heap.size F G wr w3.heap.size w4.heap.size (fil zs (min i len)) (fil ys (min i len2))) ∧ Hid (Below w.heap.size w wr) ∧ Hid (w3.heap.size ≤ wr.heap.size) ∧ Hid (Touch (fun k => w3.heap.size ≤ k) w5 wr)) (fun iv _ => max len len2 - (intOf iv).toNat)
    case atStart => exact ⟨0, _, _, by omega, rfl, (by rw [Nat.zero_min, Nat.zero_min]; exact HD), HB5, HN5, HTo⟩
    case round =>
      obtain ⟨i, F, G, hi, rfl, HDr, HBr, HNr, HTr⟩ := hrel
      clear HTo HD
      have hf1 := Nat.le_trans (fil_length zs (min i len)) (Nat.min_le_left _ _)
      have hf2 := Nat.le_trans (fil_length ys (min i len2)) (Nat.min_le_left _ _)
      have hi200 : i ≤ 200 := by omega
      have hm1 := fil_min zs i len
      have hm2 := fil_min ys i len2
      have HM1 := hid hm1
      have HM2 := hid hm2
      clear hm1 hm2
      by_cases hlt : i < max len len2
      · first | (have hx : (i : Int) < (len2 : Int) := by omega) | (have hx : (i : Int) < (len : Int) := by omega)
        by_cases h1 : i < len
        · obtain ⟨x, rfl, hc, hz0, hz1⟩ := HZ.out.get HBr.out h1
          have h1i : (i : Int) < (len : Int) := by omega
          go_wp2_with fail
          refine (duo_push HDr.out HNr.out (by omega) _ _).mono ?_
          rintro e wA ⟨rfl, ⟨F2, hD2⟩, ht2⟩
          have HD2 := hid hD2
          have HB2 := hid (ht2.below HBr.out HFW.out)
          have HN2 := hid (Nat.le_trans HNr.out ht2.size)
          have HT2 := hid (HTr.out.trans ht2 (fun k hk => .inl hk))
          have hp1 := pl_le 0 4351 (el zs i) (i : Int) (fil zs (min i len))
          clear hD2 ht2 hc
          by_cases h2 : i < len2
          · obtain ⟨x2, rfl, hc2, hy0, hy1⟩ := HY.out.get HB2.out h2
            have h2i : (i : Int) < (len2 : Int) := by omega
            go_wp2_with fail
            refine (duo_push HD2.out.swap HN2.out (by omega) _ _).mono ?_
            rintro e wC ⟨rfl, ⟨G3, hD3⟩, ht3⟩
            have HD3 : Hid (Duo w3.heap.size F2 G3 wC w3.heap.size w4.heap.size (fil zs (min (i + 1) len)) (fil ys (min (i + 1) len2))) := hid (by rw [HM1.out, HM2.out, if_pos h1, if_pos h2]; exact hD3.swap)
            have HB3 := hid (ht3.below HB2.out HFW.out)
            have HN3 := hid (Nat.le_trans HN2.out ht3.size)
            have HT3 := hid (HT2.out.trans ht3 (fun k hk => .inl hk))
            clear hD3 ht3 hc2
            go_wp2_with fail
            go_roundw
            case rel => exact ⟨i + 1, _, _, by omega, by simp, HD3, HB3, HN3, HT3⟩
            case measure => simp [intOf]; omega
          · have h2i : ¬ (i : Int) < (len2 : Int) := by omega
            have HD3 : Hid (Duo w3.heap.size F2 G wA w3.heap.size w4.heap.size (fil zs (min (i + 1) len)) (fil ys (min (i + 1) len2))) := hid (by rw [HM1.out, HM2.out, if_pos h1, if_neg h2]; exact HD2.out)
            first
            | (exfalso; omega)
            | (go_wp2_with fail
               go_roundw
               case rel => exact ⟨i + 1, _, _, by omega, by simp, HD3, HB2, HN2, HT2⟩
               case measure => simp [intOf]; omega)
        · first
          | (exfalso; omega)
          | (have h2 : i < len2 := by omega
             have h1i : ¬ (i : Int) < (len : Int) := by omega
             have h2i : (i : Int) < (len2 : Int) := by omega
             obtain ⟨x2, rfl, hc2, hy0, hy1⟩ := HY.out.get HBr.out h2
             go_wp2_with fail
             refine (duo_push HDr.out.swap HNr.out (by omega) _ _).mono ?_
             rintro e wC ⟨rfl, ⟨G3, hD3⟩, ht3⟩
             have HD3 : Hid (Duo w3.heap.size F G3 wC w3.heap.size w4.heap.size (fil zs (min (i + 1) len)) (fil ys (min (i + 1) len2))) := hid (by rw [HM1.out, HM2.out, if_neg h1, if_pos h2]; exact hD3.swap)
             have HB3 := hid (ht3.below HBr.out HFW.out)
             have HN3 := hid (Nat.le_trans HNr.out ht3.size)
             have HT3 := hid (HTr.out.trans ht3 (fun k hk => .inl hk))
             clear hD3 ht3 hc2
             go_wp2_with fail
             go_roundw
             case rel => exact ⟨i + 1, _, _, by omega, by simp, HD3, HB3, HN3, HT3⟩
             case measure => simp [intOf]; omega)
      · first | (have hx : ¬ (i : Int) < (len2 : Int) := by omega) | (have hx : ¬ (i : Int) < (len : Int) := by omega)
        have HQ : Hid (Duo w3.heap.size F G wr w3.heap.size w4.heap.size (fil zs len) (fil ys len2)) := hid (by have := HDr.out; rwa [Nat.min_eq_right (show len ≤ i by omega), Nat.min_eq_right (show len2 ≤ i by omega)] at this)
        have HA := hid (HV2.out.touch HTr.out (fun k hk h => by have := HL2.out k hk; omega))
        have HC := hid (HV3.out.touch HTr.out (fun k hk h => by have := HL3.out k hk; omega))
        have hg1 := Nat.le_trans (fil_length zs len) hl3.1
        have hg2 := Nat.le_trans (fil_length ys len2) hl3.2
        clear HDr hf1 hf2 HM1 HM2 HTr
        go_wp2_with fail
        refine (all_p HQ.out.hp (by omega)).mono ?_
        rintro e w6 ⟨A6, c6, rfl, hs6, ho6, hb6⟩
        have HS6 := hid hs6
        have HB6 := hid (bthen HBr.out hb6)
        have HQ6 := hid (HQ.out.below hb6)
        have HA6 := hid (HA.out.keep (fun k hk => hb6.block k (HA.out.lt k hk)))
        have HC6 := hid (HC.out.keep (fun k hk => hb6.block k (HC.out.lt k hk)))
        clear hs6 ho6 hb6 HQ HA HC
        go_wp2_with fail
        refine (items_l HS6.out (by omega)).mono ?_
        rintro e w7 ⟨A7, c7, rfl, hs7, ho7, hb7⟩
        have HS7 := hid hs7
        have HB7 := hid (bthen HB6.out hb7)
        have HQ7 := hid (HQ6.out.below hb7)
        have HA7 := hid (HA6.out.keep (fun k hk => hb7.block k (HA6.out.lt k hk)))
        have HC7 := hid (HC6.out.keep (fun k hk => hb7.block k (HC6.out.lt k hk)))
        clear hs7 ho7 hb7 HQ6 HA6 HC6 HS6
        go_wp2_with fail
        refine (items_l HA7.out (by omega)).mono ?_
        rintro e w8 ⟨A8, c8, rfl, hs8, ho8, hb8⟩
        have HS8 := hid hs8
        have HR8 := hid (HS7.out.keep (fun k hk => hb8.block k (HS7.out.lt k hk)))
        have HB8 := hid (bthen HB7.out hb8)
        have HQ8 := hid (HQ7.out.below hb8)
        have HC8 := hid (HC7.out.keep (fun k hk => hb8.block k (HC7.out.lt k hk)))
        clear hs8 ho8 hb8 HQ7 HA7 HC7 HS7
        go_wp2_with fail
        refine (same_l HR8.out HS8.out (by omega)).mono ?_
        rintro e w9 ⟨rfl, n9, rfl⟩
        have HB9 := hid (bdrew HB8.out n9)
        have HQ9 : Hid (Duo w3.heap.size F G (w8.drewN n9) w3.heap.size w4.heap.size (fil zs len) (fil ys len2)) := hid (HQ8.out.below ⟨rfl, rfl, rfl, Nat.le_refl _, fun _ _ => rfl⟩)
        have HC9 := hid (HC8.out.drewN n9)
        clear HB8 HQ8 HC8 HR8 HS8
        go_wp2_with fail
        refine (all_p HQ9.out.hq (by omega)).mono ?_
        rintro e wa ⟨Aa, ca, rfl, hsa, hoa, hba⟩
        have HSa := hid hsa
        have HBa := hid (bthen HB9.out hba)
        have HCa := hid (HC9.out.keep (fun k hk => hba.block k (HC9.out.lt k hk)))
        clear hsa hoa hba HQ9 HC9 HB9
        go_wp2_with fail
        refine (items_l HSa.out (by omega)).mono ?_
        rintro e wb ⟨Ab, cb, rfl, hsb, hob, hbb⟩
        have HSb := hid hsb
        have HBb := hid (bthen HBa.out hbb)
        have HCb := hid (HCa.out.keep (fun k hk => hbb.block k (HCa.out.lt k hk)))
        clear hsb hob hbb HSa HBa HCa
        go_wp2_with fail
        refine (items_l HCb.out (by omega)).mono ?_
        rintro e wc ⟨Ac, cc, rfl, hsc, hoc, hbc⟩
        have HSc := hid hsc
        have HRc := hid (HSb.out.keep (fun k hk => hbc.block k (HSb.out.lt k hk)))
        have HBc := hid (bthen HBb.out hbc)
        clear hsc hoc hbc HSb HBb HCb
        go_wp2_with fail
        refine (same_l HRc.out HSc.out (by omega)).mono ?_
        rintro e wd ⟨rfl, nd, rfl⟩
        have HBd := hid (bdrew HBc.out nd)
        go_wp2_with fail
        go_ret
        exact ⟨rfl, HBd.out⟩
end Go.Proofs.Ytmbpdboengaclaa
