/- Plain: a window of four bytes that is changed changes the check sum. -/
import Derived.Test.YtlonmjmjmnondaaBsums
namespace Go.Proofs.Ytlonmjmjmnondaa
set_option linter.unusedVariables false
set_option linter.unusedSimpArgs false
open Go.RowKit
/-- a number as k bytes -/
def leK : Nat → Nat → List Int
  | 0, _ => []
  | k + 1, n => ((n % 256 : Nat) : Int) :: leK k (n / 256)
theorem le4_leK (n : Nat) : le4 n = leK 4 n := by
  simp only [le4, leK, Nat.div_div_eq_div_mul]
theorem regN_leK : ∀ (k n r : Nat), n < 256 ^ k → regN r (leK k n) = stps (8 * k) (r ^^^ n)
  | 0, n, r, h => by
    obtain rfl : n = 0 := by simpa using h
    simp [leK, regN, stps]
  | k + 1, n, r, h => by
    have h1 : regN r (leK (k + 1) n) = regN (byteIn r (n % 256)) (leK k (n / 256)) := by
      show List.foldl _ _ _ = _
      rw [leK, List.foldl_cons, Int.toNat_natCast]
      rfl
    rw [h1, regN_leK k (n / 256) _ (by rw [Nat.pow_succ] at h; omega)]
    have h2 : stps 8 (r ^^^ n) = byteIn r (n % 256) ^^^ n / 256 := by
      have h3 := byteIn_tab n 0 (by decide)
      rw [byteIn, Nat.xor_zero, Nat.xor_zero] at h3
      rw [byteIn, stps_xor, h3, stps_xor, Nat.xor_assoc]
    rw [← h2, show 8 * (k + 1) = 8 + 8 * k by omega, stps_add]
theorem regN_le4 {n : Nat} (r : Nat) (h : n < 4294967296) : regN r (le4 n) = stps 32 (r ^^^ n) := by
  rw [le4_leK, regN_leK 4 n r (by omega)]
/-- sealed bytes leave one and the same register -/
theorem sealed_reg {xs : List Int} (hx : Bytes xs) : regN allOnes (sealB xs) = stps 32 allOnes := by
  rw [sealB, regN_append, regN_le4 _ (sumN_lt hx), sumN, ← Nat.xor_assoc, Nat.xor_self, Nat.zero_xor]
theorem regN_inj {B : List Int} : ∀ {a b : Nat}, a < 2 ^ 32 → b < 2 ^ 32 → Bytes B → regN a B = regN b B → a = b := by
  induction B with
  | nil => intro a b _ _ _ h; exact h
  | cons x r ih =>
    intro a b ha hb hB h
    have hx := hB x (by simp)
    have h1 := ih (byteIn_lt ha (x := x.toNat) (by omega)) (byteIn_lt hb (x := x.toNat) (by omega)) (fun y hy => hB y (by simp [hy])) h
    have h2 := stps_inj (Nat.xor_lt_two_pow ha (by omega)) (Nat.xor_lt_two_pow hb (by omega)) h1
    have := congrArg (· ^^^ x.toNat) h2
    simpa only [Nat.xor_assoc, Nat.xor_self, Nat.xor_zero] using this
/-- s, of which the first i of the four bytes from k on are turned by t -/
def xwin (s : List Int) (k t : Nat) : Nat → List Int
  | 0 => s
  | i + 1 => (xwin s k t i).set (k + i) ((((xwin s k t i).getD (k + i) 0).toNat ^^^ (t / 256 ^ i % 256) : Nat) : Int)
theorem xwin_length (s : List Int) (k t : Nat) : ∀ i, (xwin s k t i).length = s.length
  | 0 => rfl
  | i + 1 => by rw [xwin, List.length_set, xwin_length s k t i]
theorem xwin_bytes {s : List Int} (h : Bytes s) (k t : Nat) : ∀ i, Bytes (xwin s k t i)
  | 0 => h
  | i + 1 => fun x hx => by
    rw [xwin] at hx
    rcases List.mem_or_eq_of_mem_set hx with h1 | rfl
    · exact xwin_bytes h k t i x h1
    · have h2 : ((xwin s k t i).getD (k + i) 0).toNat < 2 ^ 8 := by
        rw [List.getD_eq_getElem?_getD]
        rcases Nat.lt_or_ge (k + i) (xwin s k t i).length with h3 | h3
        · rw [List.getElem?_eq_getElem h3]
          have := xwin_bytes h k t i _ (List.getElem_mem h3)
          simp only [Option.getD_some]
          omega
        · rw [List.getElem?_eq_none h3]; decide
      have := Nat.xor_lt_two_pow h2 (show t / 256 ^ i % 256 < 2 ^ 8 by omega)
      omega
theorem xor_byte (p t i : Nat) : (p ^^^ t) / 256 ^ i % 256 = (p / 256 ^ i % 256) ^^^ (t / 256 ^ i % 256) := by
  have h1 : (p ^^^ t) / 256 ^ i = p / 256 ^ i ^^^ t / 256 ^ i := by
    rw [show (256 : Nat) ^ i = 2 ^ (8 * i) by rw [Nat.pow_mul]]
    exact Nat.xor_div_two_pow
  rw [h1]
  exact Nat.xor_mod_two_pow (n := 8)
theorem window_of {W : List Int} (h : W.length = 4) (hb : Bytes W) : ∃ p, p < 4294967296 ∧ W = le4 p := by
  match W, h with
  | [a, b, c, d], _ =>
    have ha := hb a (by simp)
    have hb' := hb b (by simp)
    have hc := hb c (by simp)
    have hd := hb d (by simp)
    obtain ⟨a, rfl⟩ : ∃ n : Nat, a = n := ⟨a.toNat, by omega⟩
    obtain ⟨b, rfl⟩ : ∃ n : Nat, b = n := ⟨b.toNat, by omega⟩
    obtain ⟨c, rfl⟩ : ∃ n : Nat, c = n := ⟨c.toNat, by omega⟩
    obtain ⟨d, rfl⟩ : ∃ n : Nat, d = n := ⟨d.toNat, by omega⟩
    refine ⟨a + 256 * b + 65536 * c + 16777216 * d, by omega, ?_⟩
    simp only [le4, List.cons.injEq, and_true]
    refine ⟨by omega, by omega, by omega, by omega⟩
theorem xwin_four (A B : List Int) (p t : Nat) (hp : p < 4294967296) : xwin (A ++ le4 p ++ B) A.length t 4 = A ++ le4 (p ^^^ t) ++ B := by
  have e0 := xor_byte p t 0
  have e1 := xor_byte p t 1
  have e2 := xor_byte p t 2
  have e3 := xor_byte p t 3
  simp only [Nat.pow_zero, Nat.div_one, Nat.pow_one, Nat.reducePow] at e0 e1 e2 e3
  have q0 : ((p : Int) % 256).toNat = p % 256 := by omega
  have q1 : ((p : Int) / 256 % 256).toNat = p / 256 % 256 := by omega
  have q2 : ((p : Int) / 65536 % 256).toNat = p / 65536 % 256 := by omega
  have q3 : ((p : Int) / 16777216 % 256).toNat = p / 16777216 % 256 := by omega
  simp [xwin, le4, List.append_assoc, e0, e1, e2, e3, q0, q1, q2, q3, List.getD_eq_getElem?_getD, List.getElem?_append_right, List.set_append_right]
theorem window_split {s : List Int} {k : Nat} (hk : k + 4 ≤ s.length) (hb : Bytes s) : ∃ A B p, p < 4294967296 ∧ A.length = k ∧ s = A ++ le4 p ++ B ∧ Bytes A ∧ Bytes B := by
  obtain ⟨p, hp, hw⟩ := window_of (W := (s.drop k).take 4) (by rw [List.length_take, List.length_drop]; omega) (fun x hx => hb x (List.mem_of_mem_drop (List.mem_of_mem_take hx)))
  refine ⟨s.take k, s.drop (k + 4), p, hp, by rw [List.length_take]; omega, ?_, fun x hx => hb x (List.mem_of_mem_take hx), fun x hx => hb x (List.mem_of_mem_drop hx)⟩
  rw [← hw, List.append_assoc, ← List.drop_drop, List.take_append_drop, List.take_append_drop]
theorem xwin_none {s : List Int} {k : Nat} (hk : k + 4 ≤ s.length) (hb : Bytes s) : xwin s k 0 4 = s := by
  obtain ⟨A, B, p, hp, rfl, rfl, hA, hB⟩ := window_split hk hb
  rw [xwin_four A B p 0 hp, Nat.xor_zero]
theorem xwin_told {s : List Int} {k t : Nat} (hk : k + 4 ≤ s.length) (hb : Bytes s) (ht : t < 4294967296) (h0 : t ≠ 0) (hs : regN allOnes s = stps 32 allOnes) : sealB (headB (xwin s k t 4)) ≠ xwin s k t 4 := by
  intro he
  have hbx := xwin_bytes hb k t 4
  have h1 := sealed_reg hbx.head
  rw [he] at h1
  obtain ⟨A, B, p, hp, rfl, rfl, hA, hB⟩ := window_split hk hb
  rw [xwin_four A B p t hp] at h1
  have hpt : p ^^^ t < 4294967296 := Nat.xor_lt_two_pow (n := 32) hp ht
  rw [regN_append, regN_append, regN_le4 _ hpt] at h1
  rw [regN_append, regN_append, regN_le4 _ hp, ← h1] at hs
  have hr := regN_lt A allOnes (by decide) hA
  have h2 := regN_inj (stps_lt 32 _ (Nat.xor_lt_two_pow hr hp)) (stps_lt 32 _ (Nat.xor_lt_two_pow hr hpt)) hB hs
  have h3 := stps_inj (Nat.xor_lt_two_pow hr hp) (Nat.xor_lt_two_pow hr hpt) h2
  have h4 := congrArg (regN allOnes A ^^^ ·) h3
  simp only [← Nat.xor_assoc, Nat.xor_self, Nat.zero_xor] at h4
  have h5 := congrArg (p ^^^ ·) h4
  simp only [← Nat.xor_assoc, Nat.xor_self, Nat.zero_xor] at h5
  exact h0 h5.symm
end Go.Proofs.Ytlonmjmjmnondaa
