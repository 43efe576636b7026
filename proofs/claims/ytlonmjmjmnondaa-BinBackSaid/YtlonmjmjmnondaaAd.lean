/- great, walked. -/
import Derived.Test.YtlonmjmjmnondaaAc
import Derived.Test.YtlonmjmjmnondaaBr
namespace Go.Proofs.Ytlonmjmjmnondaa
set_option linter.unusedVariables false
set_option linter.unusedSimpArgs false
open Go.RowKit
attribute [local go_sem ↓] Go.wp_at_zero Go.wp_at_succ
theorem IsActs.get {w w' : World} {a : Option Addr} {len cap : Nat} {acts : Nat → Act1} (h : IsActs w a len cap acts) (hb : Below w.heap.size w w') {i : Nat} (hi : i < len) :
    ∃ x kd n s A c xs, a = some x ∧ acts i = ⟨kd, n, s, .slice A xs.length c, xs⟩ ∧ w'.cell? (x.add (i * 4)) = some (.int .i64 kd) ∧ w'.cell? ⟨(x.add (i * 4)).block, (x.add (i * 4)).off + 1, none⟩ = some (.int .i64 n) ∧
      w'.cell? ⟨(x.add (i * 4)).block, (x.add (i * 4)).off + 2, none⟩ = some (.string s) ∧ w'.cell? ⟨(x.add (i * 4)).block, (x.add (i * 4)).off + 3, none⟩ = some (.slice A xs.length c) ∧
      RB w (.slice A xs.length c) xs ∧ Bytes xs ∧ s.size ≤ 9223372036854775807 ∧ xs.length ≤ 140737488351232 := by
  rcases h with ⟨_, h0, _⟩ | ⟨x, rfl, h1, h2, h3⟩
  · omega
  · have h4 := h3 i hi
    obtain ⟨t, htt⟩ : ∃ t, acts i = t := ⟨_, rfl⟩
    rw [htt] at h4
    obtain ⟨kd, n, s, v, xs⟩ := t
    obtain ⟨a0, a1, a2, a3, rb, hby, ht, hln⟩ := h4
    obtain ⟨A, c, hv, hc⟩ := rb.form
    have hv' : v = .slice A xs.length c := hv
    subst hv'
    exact ⟨x, kd, n, s, A, c, xs, rfl, htt, (hb.cell (World.block_lt_of_cell? w _ a0)).trans a0, (hb.cell (World.block_lt_of_cell? w _ a1)).trans a1, (hb.cell (World.block_lt_of_cell? w _ a2)).trans a2, (hb.cell (World.block_lt_of_cell? w _ a3)).trans a3, rb, hby, ht, hln⟩
theorem IsActs.le {w : World} {a : Option Addr} {len cap : Nat} {acts : Nat → Act1} (h : IsActs w a len cap acts) : len ≤ 9223372036854775807 := by
  rcases h with ⟨_, rfl, _⟩ | ⟨x, _, h1, h2, _⟩
  · omega
  · simp only [maxLen] at h2; omega
theorem ActAt.below {w w' : World} {p : Addr} {t : Act1} (h : ActAt w p t) (hb : Below w.heap.size w w') : ActAt w' p t :=
  ⟨(hb.cell (World.block_lt_of_cell? w _ h.c0)).trans h.c0, (hb.cell (World.block_lt_of_cell? w _ h.c1)).trans h.c1, (hb.cell (World.block_lt_of_cell? w _ h.c2)).trans h.c2, (hb.cell (World.block_lt_of_cell? w _ h.c3)).trans h.c3, h.rb.below hb, h.bytes, h.text, h.long⟩
theorem IsActs.below {w w' : World} {a : Option Addr} {len cap : Nat} {acts : Nat → Act1} (h : IsActs w a len cap acts) (hb : Below w.heap.size w w') : IsActs w' a len cap acts := by
  rcases h with h | ⟨x, hx, h1, h2, h3⟩
  · exact .inl h
  · exact .inr ⟨x, hx, h1, h2, fun i hi => (h3 i hi).below hb⟩
/-- how much of an act is looked at -/
def actSize (t : Act1) : Nat := (if t.s.size ≤ 1048576 then t.s.size else 0) + t.xs.length
def sumA (acts : Nat → Act1) : Nat → Nat
  | 0 => 0
  | i + 1 => sumA acts i + actSize (acts i)
def greatB (acts : Nat → Act1) (len : Nat) : Bool := decide (200 < len) || decide (20000 < sumA acts len)
set_option maxRecDepth 100000 in
set_option maxHeartbeats 2000000 in
theorem great_any {w : World} {a : Option Addr} {len cap : Nat} {acts : Nat → Act1} (h : IsActs w a len cap acts) :
    Calls Try.prog 11 #[.slice a len cap] w fun e w' => e = .returned (.bool (greatB acts len)) ∧ Below w.heap.size w w' := by
  have HZ := hid h
  have hle := h.le
  have HB := hid (Below.refl w.heap.size w)
  clear h
  by_cases hl : 200 < len
  · have hl2 : (200 : Int) < (len : Int) := by omega
    have HG : Hid (greatB acts len = true) := hid (by rw [greatB, decide_eq_true hl]; rfl)
    rw [HG.out]
    clear hl
    go_enter Try.func11, Try.ntmps11
    go_wp2
    go_loopw [3, 8] (fun nv iv wr => ∃ (z : Int) (i : Nat), i ≤ len ∧ nv = .int .i64 z ∧ iv = .int .i64 (i : Int) ∧ Hid (Below w.heap.size w wr)) (fun _ iv _ => len - (intOf iv).toNat)
    case atStart => exact ⟨0, 0, by omega, rfl, rfl, HB⟩
    case round =>
      obtain ⟨z, i, hi, rfl, rfl, HBw⟩ := hrel
      by_cases hlt : i < len
      · have hlt2 : (i : Int) < (len : Int) := by omega
        have hi0 : (0 : Int) ≤ (i : Int) := by omega
        obtain ⟨x, kd, n, s, A, c, xs, rfl, hac, a0, a1, a2, a3, hrb, hby, hs, hxl⟩ := HZ.out.get HBw.out hlt
        have HBn := hid (balloc HBw.out (.cells #[.int .i64 kd, .int .i64 n, .string s, .slice A xs.length c] 29))
        have hx63 : xs.length ≤ 9223372036854775807 := by omega
        clear hac hrb hby hxl
        by_cases hst : (s.size : Int) ≤ 1048576
        all_goals
          go_wp2
          exact ⟨⟨_, i + 1, by omega, rfl, by simp, HBn⟩, by simp [intOf]; omega⟩
      · obtain rfl : i = len := by omega
        go_wp2
        go_ret
        exact ⟨rfl, HBw.out⟩
  · have hl2 : ¬ (200 : Int) < (len : Int) := by omega
    have HG : Hid (greatB acts len = decide (20000 < sumA acts len)) := hid (by rw [greatB, decide_eq_false hl]; rfl)
    go_enter Try.func11, Try.ntmps11
    go_wp2
    go_loopw [3, 8] (fun nv iv wr => ∃ (S i : Nat), i ≤ len ∧ nv = .int .i64 (S : Int) ∧ iv = .int .i64 (i : Int) ∧ Hid (S = sumA acts i) ∧ Hid (S ≤ i * 140737489399808) ∧ Hid (Below w.heap.size w wr)) (fun _ iv _ => len - (intOf iv).toNat)
    case atStart => exact ⟨0, 0, by omega, rfl, rfl, hid rfl, hid (by omega), HB⟩
    case round =>
      obtain ⟨S, i, hi, rfl, rfl, HS, HSl, HBw⟩ := hrel
      have hSl : S ≤ 28147497879961600 := by have := HSl.out; omega
      by_cases hlt : i < len
      · have hlt2 : (i : Int) < (len : Int) := by omega
        have hi0 : (0 : Int) ≤ (i : Int) := by omega
        obtain ⟨x, kd, n, s, A, c, xs, rfl, hac, a0, a1, a2, a3, hrb, hby, hs, hxl⟩ := HZ.out.get HBw.out hlt
        have HBn := hid (balloc HBw.out (.cells #[.int .i64 kd, .int .i64 n, .string s, .slice A xs.length c] 29))
        have HNX : Hid (sumA acts (i + 1) = sumA acts i + ((if s.size ≤ 1048576 then s.size else 0) + xs.length)) := hid (by rw [sumA, actSize, hac])
        clear hac hrb hby
        by_cases hst : s.size ≤ 1048576
        · have hsti : (s.size : Int) ≤ 1048576 := by omega
          go_wp2
          exact ⟨⟨S + s.size + xs.length, i + 1, by omega, by simp, by simp, hid (by rw [HNX.out, if_pos hst, HS.out, Nat.add_assoc]), hid (by have := HSl.out; omega), HBn⟩, by simp [intOf]; omega⟩
        · have hsti : ¬ (s.size : Int) ≤ 1048576 := by omega
          go_wp2
          exact ⟨⟨S + xs.length, i + 1, by omega, by simp, by simp, hid (by rw [HNX.out, if_neg hst, HS.out, Nat.zero_add]), hid (by have := HSl.out; omega), HBn⟩, by simp [intOf]; omega⟩
      · obtain rfl : i = len := by omega
        by_cases h2 : 20000 < S
        · have h2i : (20000 : Int) < (S : Int) := by omega
          have HP := hid h2
          clear h2
          go_wp2
          go_ret
          exact ⟨by rw [HG.out, ← HS.out, decide_eq_true HP.out]; rfl, HBw.out⟩
        · have h2i : ¬ (20000 : Int) < (S : Int) := by omega
          have HP := hid h2
          clear h2
          go_wp2
          go_ret
          refine ⟨?_, HBw.out⟩
          rw [HG.out, ← HS.out, decide_eq_false HP.out]
          show Ending.returned (Value.bool (decide ((200 : Int) < (i : Int)))) = _
          rw [decide_eq_false (by omega)]
end Go.Proofs.Ytlonmjmjmnondaa
