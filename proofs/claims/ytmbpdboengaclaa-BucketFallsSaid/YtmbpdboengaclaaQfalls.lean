/- The walk of the law BucketFalls. -/
import Derived.Test.YtmbpdboengaclaaQh
import Derived.Maps.Own
import Derived.Maps.OwnOps
import Derived.Maps.Views
import Derived.Deep.RegionHeld3
import Derived.Deep.DrawnRows
import Derived.Deep.Cut
import Derived.Deep.DeepCutAuto
import Derived.Deep.QuietTactic
import Derived.BigQuiet
namespace Go.Proofs.Ytmbpdboengaclaa
set_option linter.unusedVariables false
set_option linter.unusedSimpArgs false
open Go.RowKit
attribute [local go_sem ↓] Go.wp_at_zero Go.wp_at_succ
theorem mem_ins {c v : Int} {p : Int × Int} : ∀ {l : List (Int × Int)}, p ∈ ins c v l ↔ p = (c, v) ∨ p ∈ l
  | [] => by simp [ins]
  | a :: r => by
    rw [ins]
    split
    · rw [List.mem_cons, mem_ins (l := r), List.mem_cons]
      constructor
      · rintro (h | h | h)
        · exact .inr (.inl h)
        · exact .inl h
        · exact .inr (.inr h)
      · rintro (h | h | h)
        · exact .inr (.inl h)
        · exact .inl h
        · exact .inr (.inr h)
    · simp
/-- ahead: of less cost, or of the same and laid in earlier -/
def ahead (a b : Int × Int) : Prop := a.1 < b.1 ∨ (a.1 = b.1 ∧ a.2 < b.2)
theorem ins_ahead_pair {c v : Int} : ∀ {l : List (Int × Int)}, l.Pairwise ahead → (∀ p ∈ l, p.2 < v) → (ins c v l).Pairwise ahead
  | [], _, _ => by simp [ins]
  | a :: r, h, hv => by
    rw [List.pairwise_cons] at h
    rw [ins]
    split
    · rename_i hc
      rw [List.pairwise_cons]
      refine ⟨fun b hb => ?_, ins_ahead_pair h.2 (fun p hp => hv p (by simp [hp]))⟩
      rcases mem_ins.1 hb with rfl | hb
      · have := hv a (by simp)
        unfold ahead
        dsimp only
        omega
      · exact h.1 b hb
    · rename_i hc
      rw [List.pairwise_cons]
      refine ⟨fun b hb => ?_, List.pairwise_cons.2 h⟩
      rcases List.mem_cons.1 hb with rfl | hb
      · exact .inl (by dsimp only; omega)
      · have := h.1 b hb
        unfold ahead at this ⊢
        dsimp only
        omega
/-- what holds of the items when i costs have been offered -/
structure FallI (zs : List Int) (i : Nat) (l : List (Int × Int)) : Prop where
  mem : ∀ p ∈ l, 0 ≤ p.2 ∧ p.2 < (i : Int) ∧ p.1 = el zs p.2.toNat ∧ 0 ≤ p.1
  ord : l.Pairwise ahead
theorem FallI.skip {zs : List Int} {i : Nat} {l : List (Int × Int)} (h : FallI zs i l) : FallI zs (i + 1) l := ⟨fun p hp => by have := h.mem p hp; refine ⟨this.1, by omega, this.2.2⟩, h.ord⟩
theorem FallI.push {zs : List Int} {i : Nat} {l : List (Int × Int)} (h : FallI zs i l) (h0 : 0 ≤ el zs i) : FallI zs (i + 1) (ins (el zs i) (i : Int) l) := by
  refine ⟨fun p hp => ?_, ins_ahead_pair h.ord (fun p hp => (h.mem p hp).2.1)⟩
  rcases mem_ins.1 hp with rfl | hp
  · refine ⟨?_, ?_, ?_, h0⟩
    · dsimp only; omega
    · dsimp only; omega
    · simp
  · exact h.skip.mem p hp
/-- the item that came out last: before the first, {0, -1} -/
def lastOf (l : List (Int × Int)) : Nat → Int × Int
  | 0 => (0, -1)
  | j + 1 => l.getD j (0, -1)
theorem lastOf_succ {l : List (Int × Int)} {j : Nat} (h : j < l.length) : lastOf l (j + 1) = l[j] := by simp [lastOf, h]
theorem fall_last {zs : List Int} {i j : Nat} {l : List (Int × Int)} (h : FallI zs i l) (hj : j < l.length) : (lastOf l j).1 ≤ l[j].1 ∧ ((lastOf l j).1 = l[j].1 → (lastOf l j).2 ≤ l[j].2) := by
  have hm := h.mem l[j] (List.getElem_mem hj)
  cases j with
  | zero => simp only [lastOf]; omega
  | succ j =>
    rw [lastOf_succ (by omega)]
    have := List.pairwise_iff_getElem.1 h.ord j (j + 1) (by omega) hj (by omega)
    unfold ahead at this
    omega
theorem fall_new {zs : List Int} {i j : Nat} {l : List (Int × Int)} (h : FallI zs i l) (hj : j < l.length) : ∀ p ∈ l.take j, p.2 ≠ l[j].2 := fun p hp e => by
  obtain ⟨k, hk, rfl⟩ := List.mem_take_iff_getElem.1 hp
  have hkj : k < j := by omega
  have h1 := List.pairwise_iff_getElem.1 h.ord k j (by omega) hj hkj
  have h2 := (h.mem l[k] (List.getElem_mem (by omega))).2.2.1
  have h3 := (h.mem l[j] (List.getElem_mem hj)).2.2.1
  rw [e] at h2
  unfold ahead at h1
  omega
/-- a map of what was met: none but of taken -/
def MetAt (w : World) (b n : Nat) (taken : List Int) : Prop :=
  ∃ D : DataW Unit, w.ownsMap Try.prog 3 (plainElem Try.prog 4) b n D ∧ ∀ x, x ∉ taken → D.atKey (.int .i64 x) (.lit (.bool false)) = .lit (.bool false)
theorem MetAt.made (w : World) : MetAt (w.alloc (.map #[] 0)) w.heap.size 0 [] := ⟨.map [], World.ownsMap_made w _ _ _, fun _ _ => rfl⟩
theorem MetAt.keep {w w' : World} {b n : Nat} {t : List Int} (h : MetAt w b n t) (hk : w'.heap[b]? = w.heap[b]?) : MetAt w' b n t := by
  obtain ⟨D, ⟨es, clock, hb, r⟩, h2⟩ := h
  exact ⟨D, ⟨es, clock, hk.trans hb, r⟩, h2⟩
theorem MetAt.lt {w : World} {b n : Nat} {t : List Int} (h : MetAt w b n t) : b < w.heap.size := by
  obtain ⟨D, h1, h2⟩ := h
  exact h1.lt
theorem MetAt.look {w : World} {b n : Nat} {t : List Int} (h : MetAt w b n t) {x : Int} (hx : x ∉ t) (hw : (Lit.int .i64 x).wf = true) :
    (Instr.lookup 32 (.map (some b)) (.int .i64 x) false).run Try.prog w = .ok (.bool false) w := by
  obtain ⟨D, h1, h2⟩ := h
  obtain ⟨v, ps, hrun, hv⟩ := h1.lookup (Maps.int_keyed Try.underlying3) Try.underlying32 (Try.zeroValue4 w) (plainElem_bool Try.underlying4 false) (Maps.keyOf_int_mk Try.underlying3 hw)
  rw [h2 x hx] at hv
  have : v = .bool false := by
    unfold plainElem at hv
    rw [Try.underlying4] at hv
    cases v <;> simp at hv
    rw [hv.1]
  rw [← this]
  exact hrun
theorem i64_wf {x : Int} (h0 : 0 ≤ x) (h1 : x ≤ 100000) : (Lit.int .i64 x).wf = true := by
  show (decide (IntKind.i64.min ≤ x) && decide (x ≤ IntKind.i64.max)) = true
  rw [Bool.and_eq_true, decide_eq_true_eq, decide_eq_true_eq]
  exact ⟨Int.le_trans (by decide) h0, Int.le_trans h1 (by decide)⟩
theorem MetAt.put {w' : World} {b n : Nat} {t : List Int} {D : DataW Unit} {x : Int} (hD : ∀ y, y ∉ t → D.atKey (.int .i64 y) (.lit (.bool false)) = .lit (.bool false))
    (h : w'.ownsMap Try.prog 3 (plainElem Try.prog 4) b (n + 1) (D.put (.int .i64 x) (.lit (.bool true)))) {t' : List Int} (ht : ∀ y, y ∉ t' → y ∉ t ∧ y ≠ x) : MetAt w' b (n + 1) t' := by
  refine ⟨_, h, fun y hy => ?_⟩
  obtain ⟨h1, h2⟩ := ht y hy
  rw [Maps.atKey_put_other (fun e => h2 (by simpa using e))]
  exact hD y h1
theorem now_q {F : Nat → Prop} {w : World} {q : Nat} {l : List (Int × Int)} {most now : Int} (h : QL F w q l most now) (n : Nat) : Calls Try.prog 13 #[.pointer (some ⟨q, 0, none⟩)] (w.drewN n) fun e w' => e = .returned (.int .i64 now) ∧ w' = w.drewN n :=
  (now_l (h.below (w' := w.drewN n) ⟨rfl, rfl, rfl, Nat.le_refl _, fun _ _ => rfl⟩)).mono fun _ _ h => ⟨h.1, h.2.symm⟩
set_option maxRecDepth 100000 in
set_option maxHeartbeats 4000000 in
theorem falls_law (a : Option Addr) (len cap : Nat) (zs : List Int) (w : World) (hz : IsRow .u16 w a len cap zs) :
    Calls Try.prog 3 #[.slice a len cap] w fun e w' => e = .returned (.bool true) ∧ Below w.heap.size w w' := by
  have HB := hid (Below.refl w.heap.size w)
  have HZ := hid hz
  have hl1 := hz.le
  clear hz
  go_enter Try.func3, Try.ntmps3
  go_wp2_with (first
    | (go_at_call 9; refine (alive_any _).mono ?_; rintro e w1 ⟨rfl, hb⟩; replace HB := hid hb; clear hb)
    | (go_at_call 10; refine (new_l _ _).mono ?_; rintro e w2 ⟨-, hp⟩; obtain ⟨rfl, hq, hb⟩ := hp (by decide) (by decide); have HN := hid hb.size; have HQ := hid hq; have HW := hid HB.out.size; replace HB := hid (bthen HB.out hb); clear hp hq hb))
  rotate_left
  · go_ret
    exact ⟨rfl, HB.out⟩
  have hl3 : len ≤ 500 := by omega
  have HF : Hid (∀ k, w1.heap.size ≤ k → w.heap.size ≤ k) := hid fun k hk => Nat.le_trans HW.out hk
  go_loopw [32, 5] (fun iv nv wr => ∃ (i : Nat) (L : List (Int × Int)), i ≤ len ∧ iv = .int .i64 (i : Int) ∧ nv = .int .i64 (L.length : Int) ∧ Hid (QL (fun k => w1.heap.size ≤ k) wr w1.heap.size L 4351 0) ∧ L.length ≤ i ∧ Hid (FallI zs i L) ∧ Hid (Below w.heap.size w wr) ∧ Hid (w1.heap.size ≤ wr.heap.size)) (fun iv _ _ => len - (intOf iv).toNat)
  case atStart => exact ⟨0, [], by omega, rfl, rfl, HQ, Nat.le_refl _, hid ⟨fun p hp => (by simp at hp), List.Pairwise.nil⟩, HB, HN⟩
  case round =>
    obtain ⟨i, L, hi, rfl, rfl, HQ2, hL, HI, HB2, HN2⟩ := hrel
    by_cases hlt : i < len
    · obtain ⟨x, rfl, hc, hz0', hz1'⟩ := HZ.out.get HB2.out hlt
      have hlt2 : (i : Int) < (len : Int) := by omega
      go_wp2_with fail
      refine (push_l HQ2.out (fun k hk => Nat.le_trans HN2.out hk) (by omega) _ _).mono ?_
      rintro e w3 ⟨hp1, hp2⟩
      by_cases hc5 : el zs i ≤ 4351
      · obtain ⟨rfl, hq, ht⟩ := hp2 (by omega) hc5
        have hL2 := ins_length (el zs i) (i : Int) L
        have HI2 := hid (HI.out.push hz0')
        go_wp2
        go_roundw
        case rel => exact ⟨i + 1, ins (el zs i) (i : Int) L, by omega, by simp, by rw [hL2]; simp, hid hq, by omega, HI2, hid (ht.below HB2.out HF.out), hid (Nat.le_trans HN2.out ht.size)⟩
        case measure => simp [intOf]; omega
      · obtain ⟨rfl, rfl⟩ := hp1 (by omega)
        go_wp2
        go_roundw
        case rel => exact ⟨i + 1, L, by omega, by simp, rfl, HQ2, by omega, hid HI.out.skip, HB2, HN2⟩
        case measure => simp [intOf]; omega
    · obtain rfl : i = len := by omega
      obtain ⟨N0, hN0⟩ : ∃ N0, wr.heap.size = N0 := ⟨_, rfl⟩
      obtain ⟨Fq, hFq⟩ : ∃ Fq : Nat → Prop, Fq = fun k => w1.heap.size ≤ k ∧ k < wr.heap.size := ⟨_, rfl⟩
      have HF1 : Hid (∀ k, Fq k → w.heap.size ≤ k ∧ k < N0) := hid (fun k hk => by rw [hFq] at hk; exact ⟨HF.out k hk.1, by rw [← hN0]; exact hk.2⟩)
      have hq1 : QL Fq wr w1.heap.size L 4351 0 := by rw [hFq]; exact HQ2.out.bound
      clear hFq
      obtain ⟨W2, hW2⟩ : ∃ W2, (wr.alloc (.cells #[.int .i64 0, .int .i64 (-1)] 31)).alloc (.map #[] 0) = W2 := ⟨_, rfl⟩
      have hbW : Below wr.heap.size wr W2 := by rw [← hW2]; exact balloc (balloc (Below.refl _ _) _) _
      obtain ⟨y0, y1, ysz⟩ := alloc2 wr (.cells #[.int .i64 0, .int .i64 (-1)] 31) (.map #[] 0)
      rw [hW2, hN0] at y0 y1
      rw [hW2, hN0] at ysz
      have hM : MetAt W2 (N0 + 1) 0 [] := by
        have := MetAt.made (wr.alloc (.cells #[.int .i64 0, .int .i64 (-1)] 31))
        rw [hW2, World.size_alloc, hN0] at this
        exact this
      have HQ4 := hid (hq1.below hbW)
      have HB4 := hid (bthen HB2.out hbW)
      have HW2 := hid hW2
      have HN0 := hid hN0
      have HY0 := hid y0
      have HM := hid hM
      have HYZ : Hid (N0 + 2 ≤ W2.heap.size) := hid (by omega)
      clear hq1 hbW y0 y1 ysz hM hW2 hN0
      have hmm := @run_makeMap Try.prog
      go_wp2_with fail
      clear hmm
      rw [HW2.out, HN0.out]
      clear HW2
      have HNW : Hid (w.heap.size ≤ N0) := hid (Nat.le_trans HB2.out.size (Nat.le_of_eq HN0.out))
      go_loopw [56] (fun iv wq => ∃ (j : Nat) (now : Int), j ≤ L.length ∧ iv = .int .i64 (j : Int) ∧ Hid (QL Fq wq w1.heap.size (L.drop j) 4351 now) ∧ Hid (wq.heap[N0]? = some (.cells #[.int .i64 (lastOf L j).1, .int .i64 (lastOf L j).2] 31 (0, 0))) ∧ Hid (MetAt wq (N0 + 1) j ((L.take j).map (·.2))) ∧ Hid (Below w.heap.size w wq) ∧ Hid (N0 + 2 ≤ wq.heap.size)) (fun iv _ => L.length - (intOf iv).toNat)
      case atStart => exact ⟨0, 0, by omega, rfl, HQ4, HY0, HM, HB4, HYZ⟩
      case round =>
        obtain ⟨j, now, hj, rfl, HQ5, HY5, HM5, HB5, HZ5⟩ := hrel
        clear HQ4 HY0 HM HB4 HYZ
        by_cases hjl : j < L.length
        · have hdr := List.drop_eq_getElem_cons hjl
          have hj2 : (j : Int) < (L.length : Int) := by omega
          go_wp2_with fail
          obtain ⟨m, hLj, hml⟩ : ∃ m : Nat, L[j] = (el zs m, (m : Int)) ∧ m < i := by
            have hm := HI.out.mem L[j] (List.getElem_mem hjl)
            refine ⟨L[j].2.toNat, Prod.ext hm.2.2.1 ?_, by omega⟩
            dsimp only
            omega
          have hlast := fall_last HI.out hjl
          have hnew := fall_new HI.out hjl
          have hsucc := lastOf_succ hjl
          rw [hLj] at hdr hlast hnew hsucc
          dsimp only at hlast hnew
          refine (pop_l HQ5.out (by rw [List.length_drop]; omega)).mono ?_
          rintro e w6 ⟨ht, -, hp⟩
          obtain ⟨rfl, hq6, -⟩ := hp _ _ hdr
          obtain ⟨x, hax, hcx, hz0', hz1'⟩ := HZ.out.get (balloc (ht.below HB5.out (fun k hk => (HF1.out k hk).1)) (.cells #[.int .i64 (el zs m), .int .i64 (m : Int)] 31)) hml
          subst hax
          have hfar : ∀ k : Nat, k < wr.heap.size → N0 ≤ k → w6.heap[k]? = wr.heap[k]? := fun k h1 h2 => ht.block k h1 (fun hk => by have := (HF1.out _ hk).2; omega)
          have hy6 := (hfar N0 (by have := HZ5.out; omega) (Nat.le_refl _)).trans HY5.out
          have hm6 := HM5.out.keep (hfar (N0 + 1) (by have := HZ5.out; omega) (by omega))
          have hsz6 := ht.size
          have hx7 := heap_alloc_new w6 (.cells #[.int .i64 (el zs m), .int .i64 (m : Int)] 31)
          have hy7 := (Below.heap_alloc w6 (.cells #[.int .i64 (el zs m), .int .i64 (m : Int)] 31) N0 (blk_lt hy6)).trans hy6
          have hm7 := hm6.keep (Below.heap_alloc w6 (.cells #[.int .i64 (el zs m), .int .i64 (m : Int)] 31) (N0 + 1) hm6.lt)
          have hnot : (m : Int) ∉ (L.take j).map (·.2) := fun h => by obtain ⟨p, hp1, hp2⟩ := List.mem_map.1 h; exact hnew p hp1 hp2
          have hlook := (hm7.keep (w' := (w6.alloc (.cells #[.int .i64 (el zs m), .int .i64 (m : Int)] 31)).drew) rfl).look (x := (m : Int)) (fun h => by obtain ⟨p, hp1, hp2⟩ := List.mem_map.1 h; exact hnew p hp1 hp2) (i64_wf (by omega) (by omega))
          have c1 : (w6.alloc (.cells #[.int .i64 (el zs m), .int .i64 (m : Int)] 31)).cell? ⟨w6.heap.size, 0, none⟩ = some (.int .i64 (el zs m)) := by rw [cell_of_row _ _ 0 _ _ _ hx7]; rfl
          have c2 : (w6.alloc (.cells #[.int .i64 (el zs m), .int .i64 (m : Int)] 31)).cell? ⟨w6.heap.size, 1, none⟩ = some (.int .i64 (m : Int)) := by rw [cell_of_row _ _ 1 _ _ _ hx7]; rfl
          have c3 : (w6.alloc (.cells #[.int .i64 (el zs m), .int .i64 (m : Int)] 31)).cell? ⟨N0, 0, none⟩ = some (.int .i64 (lastOf L j).1) := by rw [cell_of_row _ _ 0 _ _ _ hy7]; rfl
          have c4 : (w6.alloc (.cells #[.int .i64 (el zs m), .int .i64 (m : Int)] 31)).cell? ⟨N0, 1, none⟩ = some (.int .i64 (lastOf L j).2) := by rw [cell_of_row _ _ 1 _ _ _ hy7]; rfl
          have HQ7 := hid (hq6.below (balloc (Below.refl _ w6) (.cells #[.int .i64 (el zs m), .int .i64 (m : Int)] 31)))
          have HB7 := hid (balloc (ht.below HB5.out (fun k hk => (HF1.out k hk).1)) (.cells #[.int .i64 (el zs m), .int .i64 (m : Int)] 31))
          have HS7 := hid hsucc
          have HX7 := hid hx7
          have HY7 := hid hy7
          have HM7 := hid hm7
          have hml2 : (m : Int) < (i : Int) := by omega
          generalize hla : lastOf L j = la at hlast c3 c4 HY7
          obtain ⟨la1, la2⟩ := la
          dsimp only at hlast c3 c4
          have HLj := hid hLj
          have HLK : Hid (∀ n, (Instr.lookup 32 (.map (some (N0 + 1))) (.int .i64 (m : Int)) false).run Try.prog ((w6.alloc (.cells #[.int .i64 (el zs m), .int .i64 (m : Int)] 31)).drewN n) = .ok (.bool false) ((w6.alloc (.cells #[.int .i64 (el zs m), .int .i64 (m : Int)] 31)).drewN n)) := hid (fun n => (hm7.keep (w' := (w6.alloc (.cells #[.int .i64 (el zs m), .int .i64 (m : Int)] 31)).drewN n) rfl).look (x := (m : Int)) hnot (i64_wf (by omega) (by omega)))
          have HQq : Hid (QL Fq (w6.alloc (.cells #[.int .i64 (el zs m), .int .i64 (m : Int)] 31)) w1.heap.size (L.drop (j + 1)) 4351 (el zs m)) := HQ7
          obtain ⟨D, hown, hD⟩ := HM7.out
          have HOWN : Hid (∀ nn, Hid (((w6.alloc (.cells #[.int .i64 (el zs m), .int .i64 (m : Int)] 31)).drewN nn).ownsMap Try.prog 3 (plainElem Try.prog 4) (N0 + 1) j D)) := hid (fun nn => by have h2 := hown; exact h2)
          have HD := hid hD
          clear hp hq6 ht hy6 hm6 hfar hx7 hy7 hm7 hnew hnot hdr hsucc HY5 HM5 hLj hown hD
          have hq1 : la1 ≤ el zs m := hlast.1
          have hjm : j < maxLen := by simp only [maxLen]; omega
          have hkey := Maps.keyOf_int_mk (P := Try.prog) Try.underlying3 (i64_wf (x := (m : Int)) (by omega) (by omega))
          have f3 := frozen_of_row (w6.alloc (.cells #[.int .i64 (el zs m), .int .i64 (m : Int)] 31)) N0 0 _ _ HY7.out
          have f4 := frozen_of_row (w6.alloc (.cells #[.int .i64 (el zs m), .int .i64 (m : Int)] 31)) N0 1 _ _ HY7.out
          have hne8 : w6.heap.size ≠ N0 + 1 := by have := HZ5.out; omega
          have hne9 : N0 ≠ N0 + 1 := by omega
          have hd1 : decide ((m : Int) < 0) = false := by simp
          have hd2 : decide ((i : Int) ≤ (m : Int)) = false := by simp; omega
          have hd4 : decide (i ≤ m) = false := by simp; omega
          have hwr : IntKind.i64.wrap (el zs m) = el zs m := by rw [IntKind.wrap_i64]; omega
          go_upto_region 21 with (fail)
          go_cut [121] (fun cv wq => cv = .bool false ∧ ∃ nn, wq = (w6.alloc (.cells #[.int .i64 (el zs m), .int .i64 (m : Int)] 31)).drewN nn)
          case first =>
            have hlq : ∀ n, (Instr.lookup 32 (.map (some (N0 + 1))) (.int .i64 (m : Int)) false).run Try.prog ((w6.alloc (.cells #[.int .i64 (el zs m), .int .i64 (m : Int)] 31)).drewN n) = .ok (.bool false) ((w6.alloc (.cells #[.int .i64 (el zs m), .int .i64 (m : Int)] 31)).drewN n) := fun n => HLK.out n
            by_cases heq : la1 = el zs m
            · have hq2 : la2 ≤ (m : Int) := hlast.2 heq
              subst heq
              have hd3 : decide ((m : Int) < la2) = false := by simp; omega
              go_quiet ((go_at_call 13; exact Calls.quiet_of_same (now_q HQq.out _)))
              go_wp2
              go_meet
              case rel => exact ⟨rfl, _, rfl⟩
            · have hd3 : decide (el zs m < la1) = false := by simp; omega
              have hd5 : (el zs m == la1) = false := by simp; omega
              have hd6 : decide (el zs m = la1) = false := by simp; omega
              go_quiet ((go_at_call 13; exact Calls.quiet_of_same (now_q HQq.out _)))
              go_wp2
              go_meet
              case rel => exact ⟨rfl, _, rfl⟩
          case rest =>
            obtain ⟨rfl, nn, rfl⟩ := hcut
            have hown2 : Hid (((w6.alloc (.cells #[.int .i64 (el zs m), .int .i64 (m : Int)] 31)).drewN nn).ownsMap Try.prog 3 (plainElem Try.prog 4) (N0 + 1) j D) := HOWN.out nn
            have HQ8 : Hid (QL Fq ((w6.alloc (.cells #[.int .i64 (el zs m), .int .i64 (m : Int)] 31)).drewN nn) w1.heap.size (L.drop (j + 1)) 4351 (el zs m)) := hid (HQ7.out.below ⟨rfl, rfl, rfl, Nat.le_refl _, fun _ _ => rfl⟩)
            have hlt7 := blk_lt HX7.out
            have hltN := blk_lt HY7.out
            go_wp2_with (first
              | (at_mapUpdate; refine wpList_mapUpdate_own _ rfl _ _ _ 32 rfl 3 4 (Maps.int_keyed Try.underlying3) Try.underlying32 (plainElem Try.prog 4) (N0 + 1) j D rfl hown2.out hjm _ _ (.int .i64 (m : Int)) rfl rfl hkey _ [] (plainElem_bool Try.underlying4 true) ?_; intro w8 hown8 hgrow8; have HO8 := hid hown8; have HG8 := hid hgrow8; have d1 := (hgrow8.cell_far ⟨w6.heap.size, 0, none⟩ hlt7 (fun e => hne8 (Option.some.inj e))).trans c1; have d2 := (hgrow8.cell_far ⟨w6.heap.size, 1, none⟩ hlt7 (fun e => hne8 (Option.some.inj e))).trans c2; have d3 := (hgrow8.cell_far ⟨N0, 0, none⟩ hltN (fun e => hne9 (Option.some.inj e))).trans c3; have d4 := (hgrow8.cell_far ⟨N0, 1, none⟩ hltN (fun e => hne9 (Option.some.inj e))).trans c4; have d5 := (hgrow8.frozen_far ⟨N0, 0, none⟩ hltN (fun e => hne9 (Option.some.inj e))).trans f3; have d6 := (hgrow8.frozen_far ⟨N0, 1, none⟩ hltN (fun e => hne9 (Option.some.inj e))).trans f4; clear hown8 hgrow8))
            have ht8 : Touch (fun k => k = N0 ∨ k = N0 + 1) ((w6.alloc (.cells #[.int .i64 (el zs m), .int .i64 (m : Int)] 31)).drewN nn) ((w8.setCell ⟨N0, 0, none⟩ (.int .i64 (el zs m))).setCell ⟨N0, 1, none⟩ (.int .i64 (m : Int))) :=
              (((Touch.refl _ _).grown HG8.out (fun k hk => .inl (.inr (Option.some.inj hk).symm))).setCell (p := ⟨N0, 0, none⟩) (.inl (.inl rfl)) _).setCell (p := ⟨N0, 1, none⟩) (.inl (.inl rfl)) _
            have hy8 := (HG8.out.block N0 hltN (fun e => hne9 (Option.some.inj e))).trans HY7.out
            have hfin : ((w8.setCell ⟨N0, 0, none⟩ (.int .i64 (el zs m))).setCell ⟨N0, 1, none⟩ (.int .i64 (m : Int))).heap[N0]? = some (.cells #[.int .i64 (lastOf L (j + 1)).1, .int .i64 (lastOf L (j + 1)).2] 31 (0, 0)) := by
              rw [HS7.out]
              exact heap_setCell_same _ N0 1 _ _ _ (heap_setCell_same _ N0 0 _ _ _ hy8)
            have hmet : MetAt ((w8.setCell ⟨N0, 0, none⟩ (.int .i64 (el zs m))).setCell ⟨N0, 1, none⟩ (.int .i64 (m : Int))) (N0 + 1) (j + 1) ((L.take (j + 1)).map (·.2)) := by
              refine MetAt.put HD.out ((HO8.out.setCell (a := ⟨N0, 0, none⟩) (by simp) _).setCell (a := ⟨N0, 1, none⟩) (by simp) _) (fun y hy => ?_)
              rw [List.take_add_one, List.getElem?_eq_getElem hjl, HLj.out] at hy
              simp at hy
              refine ⟨fun h => ?_, hy.2⟩
              exact hy.1 (by rw [← List.map_take]; exact h)
            have hbel := ht8.below (bdrew HB7.out nn) (fun k hk => by have := HNW.out; omega)
            have hqfin := HQ8.out.touch ht8 (fun k hk e => by have := (HF1.out k hk).2; omega)
            have hsfin := ht8.size
            have hsw : ((w6.alloc (.cells #[.int .i64 (el zs m), .int .i64 (m : Int)] 31)).drewN nn).heap.size = w6.heap.size + 1 := World.size_alloc w6 _
            have hz5 := HZ5.out
            go_roundw
            case rel => exact ⟨j + 1, el zs m, by omega, by simp, hid hqfin, hid hfin, hid hmet, hid hbel, hid (by omega)⟩
            case measure => simp [intOf]; omega
        · obtain rfl : j = L.length := by omega
          have hq7 := HQ5.out
          rw [List.drop_length] at hq7
          go_wp2_with fail
          refine (pop_l hq7 (by simp)).mono ?_
          rintro e w6 ⟨ht, hp, -⟩
          obtain ⟨rfl, hq6⟩ := hp rfl
          have HB8 := hid (balloc (ht.below HB5.out (fun k hk => (HF1.out k hk).1)) (.cells #[.int .i64 0, .int .i64 0] 31))
          have HQ8 := hid (hq6.below (balloc (Below.refl _ w6) (.cells #[.int .i64 0, .int .i64 0] 31)))
          clear hp ht hq6
          go_wp2_with (go_at_call 14; refine (len_l HQ8.out).mono ?_; rintro e w2 ⟨rfl, rfl⟩)
          go_ret
          exact ⟨rfl, HB8.out⟩
end Go.Proofs.Ytmbpdboengaclaa
