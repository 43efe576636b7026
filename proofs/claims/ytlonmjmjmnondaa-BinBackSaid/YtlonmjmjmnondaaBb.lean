/- The library's Equal and Grow at bytes, walked. -/
import Derived.Test.YtlonmjmjmnondaaBa
import Derived.Lib.Walk
import Derived.Lib.SliceRun
import Derived.Lib.AppendZerosOnto
namespace Go.Proofs.Ytlonmjmjmnondaa
set_option linter.unusedVariables false
set_option linter.unusedSimpArgs false
open Go.RowKit
open Go.Lib hiding intOf
attribute [local go_sem ↓] Go.wp_at_zero Go.wp_at_succ
def eqB (xs ys : List Int) : Bool := decide (xs = ys)
set_option maxRecDepth 100000 in
set_option maxHeartbeats 1000000 in
theorem equal_any {w : World} {v1 v2 : Value} {xs ys : List Int} (h1 : RB w v1 xs) (h2 : RB w v2 ys) :
    Calls Try.prog 36 #[v1, v2] w fun e w' => e = .returned (.bool (eqB xs ys)) ∧ ∃ n, w' = w.drewN n := by
  obtain ⟨A, c, rfl, hc⟩ := h1.form
  obtain ⟨A2, c2, rfl, hc2⟩ := h2.form
  have hx := h1.le
  have hy := h2.le
  have HS1 := hid h1
  have HS2 := hid h2
  clear h1 h2
  by_cases hn : xs.length = ys.length
  · have hnn : ((xs.length : Int) != (ys.length : Int)) = false := by simp [hn]
    go_enter Try.func36, Try.ntmps36
    go_wp2
    go_loopw [13] (fun iv wr => ∃ (j n : Nat), j ≤ xs.length ∧ iv = .int .i64 (j : Int) ∧ wr = w.drewN n ∧ Hid (xs.take j = ys.take j)) (fun iv _ => xs.length - (intOf iv).toNat)
    case atStart => exact ⟨0, 0, by omega, rfl, rfl, hid rfl⟩
    case round =>
      obtain ⟨j, n, hj, rfl, rfl, HE⟩ := hrel
      by_cases hjl : j < xs.length
      · have hj2 : (j : Int) < (xs.length : Int) := by omega
        have hj3 : (j : Int) < (ys.length : Int) := by omega
        have hj0 : (0 : Int) ≤ (j : Int) := by omega
        obtain ⟨x1, rfl, k1⟩ := HS1.out.item hjl
        obtain ⟨x2, rfl, l1⟩ := HS2.out.item (i := j) (by omega)
        have hts : Hid (xs.take (j + 1) = xs.take j ++ [xs[j]]) := hid (by rw [List.take_succ_eq_append_getElem hjl])
        have htt : Hid (ys.take (j + 1) = ys.take j ++ [ys[j]]) := hid (by rw [List.take_succ_eq_append_getElem (by omega)])
        by_cases heq : xs[j] = ys[j]
        · have hb : (xs[j] != ys[j]) = false := by simp [heq]
          have HEq := hid heq
          rw [← heq] at l1
          clear heq hb
          go_wp2
          go_quiet (fail)
          go_wp2
          go_roundw
          case rel => exact ⟨j + 1, n + nq, by omega, by simp, rfl, hid (by rw [hts.out, htt.out, HE.out, HEq.out])⟩
          case measure => simp [intOf]; omega
        · have hb : (xs[j] != ys[j]) = true := by simp [heq]
          have hb2 : (xs[j] == ys[j]) = false := by simp [heq]
          have hfin : Hid (eqB xs ys = false) := hid (by
            unfold eqB
            rw [decide_eq_false_iff_not]
            intro e
            subst e
            exact heq rfl)
          clear heq
          go_wp2
          go_quiet (fail)
          go_wp2
          go_ret
          exact ⟨by rw [hfin.out]; rfl, n + nq, by simp [World.drewN_drewN]⟩
      · obtain rfl : j = xs.length := by omega
        go_wp2
        go_ret
        refine ⟨?_, n, rfl⟩
        have := HE.out
        rw [List.take_length, hn, List.take_length] at this
        rw [eqB, decide_eq_true this]
        rfl
  · have hnn : ((xs.length : Int) != (ys.length : Int)) = true := by simp; omega
    go_enter Try.func36, Try.ntmps36
    go_wp2
    go_ret
    refine ⟨?_, 0, rfl⟩
    rw [eqB, decide_eq_false (fun e => hn (by rw [e]))]
    rfl
/-- as it was, or a new slice of bytes: these -/
def GrowB (v : Value) (xs : List Int) (w : World) (e : Ending) (w' : World) : Prop :=
  ∃ A c, e = .returned (.slice A xs.length c) ∧ BS w' (.slice A xs.length c) xs ∧ (∀ k, (Value.slice A xs.length c).ownBlock = some k → v.ownBlock = some k ∨ w.heap.size ≤ k) ∧ Below w.heap.size w w'
set_option maxRecDepth 100000 in
set_option maxHeartbeats 4000000 in
theorem grow_any {w : World} {v : Value} {xs : List Int} (h : BS w v xs) (hl : xs.length ≤ 100000000) : Calls Try.prog 38 #[v, .int .i64 4] w (GrowB v xs w) := by
  obtain ⟨A, c, rfl, hc⟩ := h.form
  have hcm : c ≤ maxLen := by
    rcases h.2 with ⟨h1, h2⟩ | ⟨g, off, cap, cur, h1, hg, hnc, hm, hs, hx⟩
    · simp at h1; simp [maxLen]; omega
    · simp at h1; omega
  simp only [maxLen] at hcm
  have HS := hid h
  by_cases hr : xs.length + 4 ≤ c
  · have h2 : wrap64 ((c : Int) - (xs.length : Int)) = (c : Int) - (xs.length : Int) := by unfold wrap64; omega
    have h3 : wrap64 (4 - ((c : Int) - (xs.length : Int))) = 4 - ((c : Int) - (xs.length : Int)) := by unfold wrap64; omega
    have h4 : ¬ (4 - ((c : Int) - (xs.length : Int)) > 0) := by omega
    clear h
    go_enter Try.func38, Try.ntmps38
    go_wp2
    go_ret
    exact ⟨A, c, rfl, HS.out, fun k hk => .inl hk, Below.refl _ _⟩
  · obtain ⟨i0, hi0, hz0, hz1, hz2⟩ := info_parts info5
    obtain ⟨l, hll⟩ : ∃ l, xs.length = l := ⟨_, rfl⟩
    obtain ⟨cs, hcl, hcs, hct, hnil⟩ : ∃ cs : List Value, cs.length = c * 1 ∧ (∀ a, A = some a → ∀ j u, cs[j]? = some u → w.cell? (a.add j) = some u) ∧ cs.take l = by8 xs ∧ (A = none → c = 0) := by
      rcases h.2 with ⟨h1, h2⟩ | ⟨g, off, cap, cur, h1, hg, hnc, hm, hs, hx⟩
      · simp only [Value.slice.injEq] at h1
        obtain ⟨rfl, -, rfl⟩ := h1
        obtain rfl : xs = [] := List.eq_nil_of_length_eq_zero h2
        exact ⟨[], rfl, fun a h => by simp at h, by simp [by8], fun _ => rfl⟩
      · simp only [Value.slice.injEq, true_and] at h1
        obtain ⟨rfl, rfl⟩ := h1
        refine ⟨(cur.toList.drop off).take c, ?_, fun a ha j u hu => ?_, ?_, fun h => by simp at h⟩
        · simp; omega
        · simp only [Option.some.injEq] at ha
          subst ha
          rw [Addr.add_lit, cell_of_row w g _ _ _ _ hg, ← Array.getElem?_toList, ← List.getElem?_drop]
          rw [List.getElem?_take] at hu
          split at hu
          · exact hu
          · cases hu
        · rw [List.take_take, Nat.min_eq_left (by omega), ← hll, ← hx, Nat.mul_one]
    have HCT := hid hct
    have h2 : wrap64 ((c : Int) - (l : Int)) = (c : Int) - (l : Int) := by unfold wrap64; omega
    have h3 : wrap64 (4 - ((c : Int) - (l : Int))) = 4 - ((c : Int) - (l : Int)) := by unfold wrap64; omega
    have h4 : 4 - ((c : Int) - (l : Int)) > 0 := by omega
    have hck : c + (l + 4 - c) = l + 4 := by omega
    have hold : (Builtin.firstCells 1 c (.slice A c c)).run Try.prog w.drew = .ok cs.toArray w.drew := by
      cases A with
      | none =>
        have h0 := hnil rfl
        subst h0
        have hc0 : cs = [] := List.length_eq_zero_iff.1 (by simpa using hcl)
        rw [hc0]
        exact run_firstCells_none w.drew 1 0 0 0
      | some a => exact run_firstCells_some w.drew 1 c a c c cs hcl (fun j v hj => hcs a rfl j v hj)
    have hrz : ∀ ty, (Builtin.append_ #[25, 3] ty #[.slice A c c, .int .i64 (4 - ((c : Int) - (l : Int)))]).run Try.prog w =
        .ok (.slice (some ⟨w.heap.size, 0, none⟩) (l + 4) (grownCap w (l + 4) c 5)) (w.drew.alloc (.cells (cs.toArray ++ Builtin.zeroCells (Value.int .u8 0).cells (l + 4 - c) ++ Builtin.zeroCells (Value.int .u8 0).cells (grownCap w (l + 4) c 5 - (l + 4))) 5)) := fun ty => by
      have h := Lib.run_append_grow_zeros w 25 3 ty 5 i0 (.int .u8 0) .i64 .i64 Try.underlying25 Try.underlying3 hi0 hz0 A c c cs (by rw [hz1]; exact hold) (l + 4 - c) (by omega) (by omega) (by omega) (by omega)
        (by rw [hz2]; omega)
        (by rw [hck, hz2]; exact growslice_fits (by omega) (by omega))
      rw [hck] at h
      rw [show (4 : Int) - ((c : Int) - (l : Int)) = ((l + 4 - c : Nat) : Int) by omega]
      exact h
    have hGn : l + 4 ≤ grownCap w (l + 4) c 5 := grownCap_ge w _ _ _
    have hG63 : grownCap w (l + 4) c 5 ≤ maxLen := grownCap_le_maxLen w (l + 4) c 5 (by unfold maxLen; omega)
    obtain ⟨G, hG⟩ : ∃ G, G = grownCap w (l + 4) c 5 := ⟨_, rfl⟩
    rw [← hG] at hrz hGn hG63
    have hnew : BS (w.alloc (.cells (cs.toArray ++ Builtin.zeroCells (Value.int .u8 0).cells (l + 4 - c) ++ Builtin.zeroCells (Value.int .u8 0).cells (G - (l + 4))) 5)).drew (.slice (some ⟨w.heap.size, 0, none⟩) xs.length G) xs := by
      refine ⟨by simp [by8], .inr ⟨w.heap.size, 0, G, _, rfl, heap_alloc_new w _, by omega, hG63, ?_, ?_⟩⟩
      · simp [Builtin.zeroCells, Value.cells, hcl]; omega
      · rw [List.drop_zero, Nat.mul_one, hll, ← HCT.out]
        simp only [Array.toList_append]
        rw [List.append_assoc, List.take_append_of_le_length (by rw [hcl]; omega)]
    obtain ⟨C, hC⟩ : ∃ C, C = cs.toArray ++ Builtin.zeroCells (Value.int .u8 0).cells (l + 4 - c) ++ Builtin.zeroCells (Value.int .u8 0).cells (G - (l + 4)) := ⟨_, rfl⟩
    rw [← hC] at hrz hnew
    have HNEW := hid hnew
    have HB : Hid (Below w.heap.size w (w.alloc (.cells C 5)).drew) := hid ((balloc (Below.refl _ w) _).drew)
    have hfr : ∀ k, (Value.slice (some ⟨w.heap.size, 0, none⟩) xs.length G).ownBlock = some k → w.heap.size ≤ k := fun k hk => by
      have : w.heap.size = k := by simpa [Value.ownBlock] using hk
      omega
    have HFR := hid hfr
    simp only [maxLen] at hG63
    clear hold hck hG hcs hcl hct h hnew hC hfr
    rw [hll] at HNEW HFR
    unfold GrowB
    rw [hll]
    go_enter Try.func38, Try.ntmps38
    cases A with
    | none =>
      have h0 := hnil rfl
      subst h0
      obtain rfl : l = 0 := by omega
      clear hnil
      go_wp2_with (at_builtin; refine Lib.wpList_append_run _ rfl _ _ _ _ rfl _ _ rfl rfl _ _ (hrz _) ?_)
      all_goals
        go_ret
        exact ⟨_, G, rfl, HNEW.out, fun k hk => .inr (HFR.out k hk), HB.out⟩
    | some a =>
      obtain ⟨ab, ao, asp⟩ := a
      clear hnil
      go_wp2_with (at_builtin; refine Lib.wpList_append_run _ rfl _ _ _ _ rfl _ _ rfl rfl _ _ (hrz _) ?_)
      all_goals
        go_ret
        exact ⟨_, G, rfl, HNEW.out, fun k hk => .inr (HFR.out k hk), HB.out⟩
end Go.Proofs.Ytlonmjmjmnondaa
