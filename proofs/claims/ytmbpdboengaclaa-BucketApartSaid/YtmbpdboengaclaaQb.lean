/- The walks of bucket's New, Now, Len, Push. -/
import Derived.Test.YtmbpdboengaclaaQa
import Derived.Deep.RegionHeld3
import Derived.Deep.DrawnRows
import Derived.Test.YtmbpdboengaclaaWLast
namespace Go.Proofs.Ytmbpdboengaclaa
set_option linter.unusedVariables false
set_option linter.unusedSimpArgs false
open Go.RowKit
open Go.Proofs.YtmbpdboengaclaaW.PrintLast
attribute [local go_sem ↓] Go.wp_at_zero Go.wp_at_succ
def NewPost (m : Int) (w : World) (e : Ending) (w' : World) : Prop :=
  (m < 0 ∨ 4351 < m → e = .returned (.tuple #[.pointer none, .int .i64 2]) ∧ w' = w) ∧
  (0 ≤ m ∧ m ≤ 4351 → e = .returned (.tuple #[.pointer (some ⟨w.heap.size, 0, none⟩), .int .i64 0]) ∧ QAt (fun k => w.heap.size ≤ k) w' w.heap.size [] m 0 0 ∧ Below w.heap.size w w')
set_option maxRecDepth 100000 in
set_option maxHeartbeats 400000 in
theorem new_any (m : Int) (w : World) : Calls Try.prog 10 #[.int .i64 m] w (NewPost m w) := by
  go_enter Try.func10, Try.ntmps10
  go_wp2
  all_goals go_ret2
  · exact ⟨fun _ => ⟨rfl, rfl⟩, fun h => by omega⟩
  rotate_left
  · exact ⟨fun _ => ⟨rfl, rfl⟩, fun h => by omega⟩
  · exact ⟨fun h => by omega, fun _ => ⟨rfl, ⟨.slice none 0 0, [], heap_alloc_new w _, SL.nil _ _ _, fun i => SL.nil _ _ _, fun i j k _ hk => (by simp [rowv, Value.ownBlock] at hk), Nat.le_refl _, fun k hk => (by simp [Value.ownBlock] at hk), fun i k hk => (by simp [rowv, Value.ownBlock] at hk)⟩, balloc (Below.refl _ w) _⟩⟩
set_option maxRecDepth 100000 in
set_option maxHeartbeats 400000 in
theorem now_any {F : Nat → Prop} {w : World} {q : Nat} {bs : List (List Int)} {most cnt now : Int} (h : QAt F w q bs most cnt now) :
    Calls Try.prog 13 #[.pointer (some ⟨q, 0, none⟩)] w fun e w' => e = .returned (.int .i64 now) ∧ w = w' := by
  obtain ⟨bv, rvs, h⟩ := h
  have hc := h.cell3
  clear h
  go_enter Try.func13, Try.ntmps13
  go_wp2
  go_ret
  exact ⟨rfl, rfl⟩
set_option maxRecDepth 100000 in
set_option maxHeartbeats 400000 in
theorem len_any {F : Nat → Prop} {w : World} {q : Nat} {bs : List (List Int)} {most cnt now : Int} (h : QAt F w q bs most cnt now) :
    Calls Try.prog 14 #[.pointer (some ⟨q, 0, none⟩)] w fun e w' => e = .returned (.int .i64 cnt) ∧ w = w' := by
  obtain ⟨bv, rvs, h⟩ := h
  have hc := h.cell2
  clear h
  go_enter Try.func14, Try.ntmps14
  go_wp2
  go_ret
  exact ⟨rfl, rfl⟩
def padB (bs : List (List Int)) (c : Nat) : List (List Int) := bs ++ List.replicate (c + 1 - bs.length) []
def pushB (bs : List (List Int)) (c : Nat) (v : Int) : List (List Int) := (padB bs c).set c (row bs c ++ [v])
theorem row_reps (bs : List (List Int)) (j n : Nat) : row (bs ++ List.replicate j []) n = row bs n := by
  unfold row
  simp only [List.getD_eq_getElem?_getD, List.getElem?_append]
  by_cases h : n < bs.length
  · rw [if_pos h]
  · rw [if_neg h, List.getElem?_eq_none (Nat.le_of_not_lt h), List.getElem?_replicate]
    split <;> simp
theorem pushB_of (bs bs' : List (List Int)) (n j : Nat) (v : Int) (hj : bs' = bs ++ List.replicate j []) (hn : n < bs'.length) (hl : bs'.length ≤ max bs.length (n + 1)) : pushB bs (Int.toNat (n : Int)) v = bs'.set n (row bs' n ++ [v]) := by
  subst hj
  rw [row_reps]
  simp only [List.length_append, List.length_replicate] at hn hl
  have : j = n + 1 - bs.length := by omega
  subst this
  simp [pushB, padB]
theorem info55 : (Try.prog.info? 55).map (·.size) = some 1 := by kernel_rfl
theorem info58 : (Try.prog.info? 58).map (fun i => (i.zero, i.size, i.bytes)) = some (some (.slice none 0 0), 1, 24) := by kernel_rfl
theorem info58s : (Try.prog.info? 58).map (·.size) = some 1 := by kernel_rfl
theorem info3 : (Try.prog.info? 3).map (fun i => (i.zero, i.size, i.bytes)) = some (some (.int .i64 0), 1, 8) := by kernel_rfl
def PushPost (F : Nat → Prop) (w : World) (q : Nat) (bs : List (List Int)) (most cnt now c v : Int) (e : Ending) (w' : World) : Prop :=
  (c < now ∨ most < c → e = .returned (.int .i64 2) ∧ w = w') ∧
  (now ≤ c ∧ c ≤ most → e = .returned (.int .i64 0) ∧ QAt F w' q (pushB bs c.toNat v) most (cnt + 1) now ∧ Touch F w w')
set_option maxRecDepth 100000 in
set_option maxHeartbeats 1000000 in
theorem push_any {F : Nat → Prop} {w : World} {q : Nat} {bs : List (List Int)} {most cnt now : Int} (h : QAt F w q bs most cnt now) (hF : ∀ k, w.heap.size ≤ k → F k) (c v : Int)
    (h0 : 0 ≤ now) (hm : most ≤ 4351) (hbl : bs.length ≤ 4352) (hc0 : 0 ≤ cnt) (hc1 : cnt ≤ 100000) (hrow : ∀ i, (row bs i).length ≤ 100000) :
    Calls Try.prog 11 #[.pointer (some ⟨q, 0, none⟩), .int .i64 c, .int .i64 v] w (PushPost F w q bs most cnt now c v) := by
  obtain ⟨bv, rvs, h⟩ := h
  have e0 := h.cell0
  have e1 := h.cell1
  have e3 := h.cell3
  have HH := hid h
  have HF := hid hF
  have HR := hid hrow
  obtain ⟨A, cp, hbv, hcp⟩ := h.buckets.form
  clear hcp
  clear h hF hrow
  subst hbv
  obtain ⟨i0, hi0, hz0, hz1, hz2⟩ := info_parts info58
  go_enter Try.func11, Try.ntmps11
  go_wp2
  · go_ret
    exact ⟨fun _ => ⟨rfl, rfl⟩, fun h => by omega⟩
  rotate_left
  · go_ret
    exact ⟨fun _ => ⟨rfl, rfl⟩, fun h => by omega⟩
  obtain ⟨n, rfl⟩ : ∃ n : Nat, c = n := ⟨c.toNat, by omega⟩
  go_loopw [] (fun wr => ∃ rvs' bs' A' cp', Hid (Q3 F wr q (.slice A' (List.length bs') cp') rvs' bs' most cnt now) ∧ Hid (∃ j, bs' = bs ++ List.replicate j []) ∧ bs'.length ≤ max bs.length (n + 1) ∧ Hid (Touch F w wr)) (fun wr => n + 1 - bufLen wr q)
  case atStart => exact ⟨rvs, bs, A, cp, HH, hid ⟨0, by simp⟩, by omega, hid (Touch.refl _ _)⟩
  case round =>
    obtain ⟨rvs', bs', A', cp', HQ, HJ, hl, HT⟩ := hrel
    clear e0 e1 e3 HH
    have e0 := HQ.out.cell0
    have ef := HQ.out.frozen 0
    by_cases hlt : bs'.length ≤ n
    · have h63 : bs'.length + 1 ≤ maxLen := by simp only [maxLen]; omega
      have hbytes : (bs'.length + 1) * 24 ≤ 140737488355328 := by omega
      have hqlt := HQ.out.lt
      have hall := hid (HQ.out.below (balloc (Below.refl _ wr) (.cells #[.slice none 0 0] 58)))
      have hnw := World.news_of_block (cs := #[.slice none 0 0]) (t := 58) (fr := (0, 0)) (heap_alloc_new wr (.cells #[.slice none 0 0] 58))
      have hone : ∀ u ∈ [Value.slice none 0 0], u.oneCell' = true := by simp [Value.oneCell']
      go_wp2_with (at_builtin; refine wpList_append_SL rfl _ _ _ rfl 58 i0 _ 1 24 Try.underlying55 hi0 hz0 hz1 hz2 rfl Nat.one_pos (.slice A' bs'.length cp') _ _ rfl hall.out.buckets ⟨wr.heap.size, 0, none⟩ 1 1 [.slice none 0 0] rfl rfl hnw hone Nat.one_pos h63 hbytes ?_; intro g off cap w1 hs1 hg1 ho1; obtain ⟨c1, f1⟩ := hall.out.cell0_grown hg1; have HS := hid hs1; have HG := hid hg1; have HO := hid ho1; clear hs1 hg1 ho1)
      have hp := hall.out.pad (fun k hk => HF.out k (by have := HT.out.size; simp at hk; omega)) HS.out HG.out (fun k hk => by
        obtain rfl : g = k := by simpa [Value.ownBlock] using hk
        exact HO.out)
      have hm1 : bufLen (w1.setCell ⟨q, 0, none⟩ (.slice (some ⟨g, off, none⟩) (bs'.length + 1) cap)) q = bs'.length + 1 := by rw [hp.bufLen, List.length_append]; rfl
      have hm2 := HQ.out.bufLen
      have ht := ((HT.out.alloc (.cells #[.slice none 0 0] 58)).grown HG.out (fun k hk => .inl (hall.out.fb k hk))).setCell (p := ⟨q, 0, none⟩) (.inl HQ.out.fq) (.slice (some ⟨g, off, none⟩) (bs'.length + 1) cap)
      obtain ⟨j, hj⟩ := HJ.out
      go_roundw
      case rel => exact ⟨rvs' ++ [.slice none 0 0], bs' ++ [[]], some ⟨g, off, none⟩, cap, hid (by rw [List.length_append]; exact hp), hid ⟨j + 1, by rw [hj, List.replicate_succ', List.append_assoc]⟩, by simp; omega, hid ht⟩
      case measure => rw [hm1, hm2]; omega
    · have hnb : n < bs'.length := by omega
      obtain ⟨g, off, cap, hbv2, hcap, _, hgc, hgf⟩ := HQ.out.buckets.open_ (by omega)
      obtain ⟨rfl, -, rfl⟩ : A' = some ⟨g, off, none⟩ ∧ True ∧ cp' = cap := by simpa using hbv2
      have hcn := hgc n (by omega)
      rw [rowv_get _ _ (by rw [HQ.out.rlen]; exact hnb)] at hcn
      obtain ⟨Ar, cr, hrv, hcr⟩ := (HQ.out.rows n).form
      rw [hrv] at hcn
      have hrl : (row bs' n).length ≤ 100000 := by
        obtain ⟨j, hj⟩ := HJ.out
        rw [hj, row_reps]
        exact HR.out n
      have h63 : (row bs' n).length + 1 ≤ maxLen := by simp only [maxLen]; omega
      have hbytes : ((row bs' n).length + 1) * 8 ≤ 140737488355328 := by omega
      have hqlt := HQ.out.lt
      have hglt := HQ.out.buckets.lt g rfl
      have hall := hid (HQ.out.below (balloc (Below.refl _ wr) (.cells #[.int .i64 v] 3)))
      have hr1 := hid (hrv ▸ hall.out.rows n)
      have hone : ∀ u ∈ [Value.int .i64 v], u.oneCell' = true := by simp [Value.oneCell']
      have hnn : (0 : Int) ≤ (n : Int) := by omega
      have hnl : (n : Int) < (bs'.length : Int) := by omega
      have hfr := hgf (off + n)
      obtain ⟨j0, hj0, jz0, jz1, jz2⟩ := info_parts info3
      obtain ⟨a0, a1, af⟩ := hall.out.cell_grown (w1 := wr.alloc (.cells #[.int .i64 v] 3)) (i := n) hnb ⟨rfl, rfl, rfl, Nat.le_refl _, fun _ _ _ => rfl⟩ rfl
      rw [hrv] at a1
      clear hgc hgf hbv2
      go_wp2_with fail
      refine start_ (ds := [16]) (S := fun w' => w'.cell? ⟨q, 0, none⟩ = some (.slice (some ⟨g, off, none⟩) bs'.length cp') ∧ w'.cell? ⟨g, off + n, none⟩ = some (.slice Ar (row bs' n).length cr) ∧ w'.frozen? ⟨g, off + n, none⟩ = false) #[false, false, false, false, false, false, false, false, false, false, false, false, false, false, false, false, false] (by kernel_rfl) (by rfl) (by rfl) ⟨e0, hcn, hfr⟩ (fun hHeld => ?_)
      refine pure_ (i := 0) (N := (some 41)) (v := ?_) (a' := ?_) #[true, false, false, false, false, false, false, false, false, false, false, false, false, false, false, false, false] rfl rfl (by kernel_rfl) (fun _ _ _ h => h) (Or.inl ⟨by rfl, ?_⟩) ?_ ?_
      rotate_left
      · intro w'
        go_simp
        with_reducible rfl
      rotate_left
      · simp only [Act.put, List.setIfInBounds_toArray, List.set_cons_zero, List.set_cons_succ]
        rfl
      refine pure_ (i := 1) (N := (some 42)) (v := ?_) (a' := ?_) #[true, true, false, false, false, false, false, false, false, false, false, false, false, false, false, false, false] rfl rfl (by kernel_rfl) (fun _ _ _ h => h) (Or.inl ⟨by rfl, ?_⟩) ?_ ?_
      rotate_left
      · intro w'
        go_simp
        with_reducible rfl
      rotate_left
      · simp only [Act.put, List.setIfInBounds_toArray, List.set_cons_zero, List.set_cons_succ]
        rfl
      refine pure_ (i := 2) (N := (some 43)) (v := ?_) (a' := ?_) #[true, true, true, false, false, false, false, false, false, false, false, false, false, false, false, false, false] rfl rfl (by kernel_rfl) (fun _ _ _ h => h) (Or.inl ⟨by rfl, ?_⟩) ?_ ?_
      rotate_left
      · intro w'
        go_simp
        with_reducible rfl
      rotate_left
      · simp only [Act.put, List.setIfInBounds_toArray, List.set_cons_zero, List.set_cons_succ]
        rfl
      refine take_ (i := 3) (N := (some 44)) (v := ?_) (a' := ?_) #[true, true, true, true, false, false, false, false, false, false, false, false, false, false, false, false, false] rfl rfl (by kernel_rfl) (fun _ _ _ h => h) (Or.inl ⟨by rfl, ?_⟩) hHeld ?_ ?_
      rotate_left
      · rintro w' ⟨s0, s1, s2⟩
        go_simp
        with_reducible rfl
      rotate_left
      · simp only [Act.put, List.setIfInBounds_toArray, List.set_cons_zero, List.set_cons_succ]
        rfl
      refine pure_ (i := 4) (N := (some 45)) (v := ?_) (a' := ?_) #[true, true, true, true, true, false, false, false, false, false, false, false, false, false, false, false, false] rfl rfl (by kernel_rfl) (fun _ _ _ h => h) (Or.inl ⟨by rfl, ?_⟩) ?_ ?_
      rotate_left
      · intro w'
        go_simp
        with_reducible rfl
      rotate_left
      · simp only [Act.put, List.setIfInBounds_toArray, List.set_cons_zero, List.set_cons_succ]
        rfl
      refine pure_ (i := 5) (N := (some 46)) (v := ?_) (a' := ?_) #[true, true, true, true, true, true, false, false, false, false, false, false, false, false, false, false, false] rfl rfl (by kernel_rfl) (fun _ _ _ h => h) (Or.inl ⟨by rfl, ?_⟩) ?_ ?_
      rotate_left
      · intro w'
        go_simp
        with_reducible rfl
      rotate_left
      · simp only [Act.put, List.setIfInBounds_toArray, List.set_cons_zero, List.set_cons_succ]
        rfl
      refine pure_ (i := 6) (N := (some 47)) (v := ?_) (a' := ?_) #[true, true, true, true, true, true, true, false, false, false, false, false, false, false, false, false, false] rfl rfl (by kernel_rfl) (fun _ _ _ h => h) (Or.inl ⟨by rfl, ?_⟩) ?_ ?_
      rotate_left
      · intro w'
        go_simp
        with_reducible rfl
      rotate_left
      · simp only [Act.put, List.setIfInBounds_toArray, List.set_cons_zero, List.set_cons_succ]
        rfl
      refine pure_ (i := 7) (N := (some 48)) (v := ?_) (a' := ?_) #[true, true, true, true, true, true, true, true, false, false, false, false, false, false, false, false, false] rfl rfl (by kernel_rfl) (fun _ _ _ h => h) (Or.inl ⟨by rfl, ?_⟩) ?_ ?_
      rotate_left
      · intro w'
        go_simp
        with_reducible rfl
      rotate_left
      · simp only [Act.put, List.setIfInBounds_toArray, List.set_cons_zero, List.set_cons_succ]
        rfl
      refine take_ (i := 8) (N := (some 49)) (v := ?_) (a' := ?_) #[true, true, true, true, true, true, true, true, true, false, false, false, false, false, false, false, false] rfl rfl (by kernel_rfl) (fun _ _ _ h => h) (Or.inl ⟨by rfl, ?_⟩) hHeld ?_ ?_
      rotate_left
      · rintro w' ⟨s0, s1, s2⟩
        go_simp
        with_reducible rfl
      rotate_left
      · simp only [Act.put, List.setIfInBounds_toArray, List.set_cons_zero, List.set_cons_succ]
        rfl
      refine pure_ (i := 9) (N := (some 50)) (v := ?_) (a' := ?_) #[true, true, true, true, true, true, true, true, true, true, false, false, false, false, false, false, false] rfl rfl (by kernel_rfl) (fun _ _ _ h => h) (Or.inl ⟨by rfl, ?_⟩) ?_ ?_
      rotate_left
      · intro w'
        go_simp
        with_reducible rfl
      rotate_left
      · simp only [Act.put, List.setIfInBounds_toArray, List.set_cons_zero, List.set_cons_succ]
        rfl
      refine pure_ (i := 10) (N := (some 51)) (v := ?_) (a' := ?_) #[true, true, true, true, true, true, true, true, true, true, true, false, false, false, false, false, false] rfl rfl (by kernel_rfl) (fun _ _ _ h => h) (Or.inl ⟨by rfl, ?_⟩) ?_ ?_
      rotate_left
      · intro w'
        go_simp
        with_reducible rfl
      rotate_left
      · simp only [Act.put, List.setIfInBounds_toArray, List.set_cons_zero, List.set_cons_succ]
        rfl
      refine take_ (i := 11) (N := (some 52)) (v := ?_) (a' := ?_) #[true, true, true, true, true, true, true, true, true, true, true, true, false, false, false, false, false] rfl rfl (by kernel_rfl) (fun _ _ _ h => h) (Or.inl ⟨by rfl, ?_⟩) hHeld ?_ ?_
      rotate_left
      · rintro w' ⟨s0, s1, s2⟩
        go_simp
        with_reducible rfl
      rotate_left
      · simp only [Act.put, List.setIfInBounds_toArray, List.set_cons_zero, List.set_cons_succ]
        rfl
      refine pure_ (i := 12) (N := (some 53)) (v := ?_) (a' := ?_) #[true, true, true, true, true, true, true, true, true, true, true, true, true, false, false, false, false] rfl rfl (by kernel_rfl) (fun _ _ _ h => h) (Or.inl ⟨by rfl, ?_⟩) ?_ ?_
      rotate_left
      · intro w'
        go_simp
        with_reducible rfl
      rotate_left
      · simp only [Act.put, List.setIfInBounds_toArray, List.set_cons_zero, List.set_cons_succ]
        rfl
      refine one_ (i := 13) (N := (some 54)) #[true, true, true, true, true, true, true, true, true, true, true, true, true, true, false, false, false] rfl rfl (by kernel_rfl) (by decide) (fun K hK => ?_)
      refine value_ (w1 := (wr.alloc (.cells #[.int .i64 v] 3)).drew) (v := .slice (some ⟨wr.heap.size, 0, none⟩) 1 1) (by rfl) rfl (by go_simp) ?_
      refine hK.out _ _ ⟨a0, a1, af⟩ (fun hHeld => ?_)
      clear hK K
      refine norm_ (a' := ?_) ?_ ?_
      rotate_left
      · simp only [Act.put, List.setIfInBounds_toArray, List.set_cons_zero, List.set_cons_succ]
        rfl
      refine one_ (i := 14) (N := (some 55)) #[true, true, true, true, true, true, true, true, true, true, true, true, true, true, true, false, false] rfl rfl (by kernel_rfl) (by decide) (fun K hK => ?_)
      refine step_append_SL (by rfl) _ _ _ (by rfl) 3 j0 _ 1 8 Try.underlying58 hj0 jz0 jz1 jz2 rfl Nat.one_pos (.slice Ar (row bs' n).length cr) _ _ (by rfl) hr1.out ⟨wr.heap.size, 0, none⟩ 1 1 [.int .i64 v] (by rfl) (by rfl) (World.news_of_block (cs := #[.int .i64 v]) (t := 3) (fr := (0, 0)) (heap_alloc_new wr _)) hone Nat.one_pos h63 hbytes ?_
      intro g2 off2 cap2 w1 HS HG HO
      obtain ⟨c0, c1, f1⟩ := hall.out.cell_grown (w1 := w1) (i := n) hnb (by rw [hrv]; exact ⟨HG.os, HG.tape, HG.output, HG.size, HG.block⟩) rfl
      rw [hrv] at c1
      refine hK.out _ _ ⟨c0, c1, f1⟩ (fun hHeld => ?_)
      clear hK K
      refine norm_ (a' := ?_) ?_ ?_
      rotate_left
      · simp only [Act.put, List.setIfInBounds_toArray, List.set_cons_zero, List.set_cons_succ]
        rfl
      refine pure_ (i := 15) (N := (some 56)) (v := ?_) (a' := ?_) #[true, true, true, true, true, true, true, true, true, true, true, true, true, true, true, true, false] rfl rfl (by kernel_rfl) (fun _ _ _ h => h) (Or.inl ⟨by rfl, ?_⟩) ?_ ?_
      rotate_left
      · intro w'
        go_simp
        with_reducible rfl
      rotate_left
      · simp only [Act.put, List.setIfInBounds_toArray, List.set_cons_zero, List.set_cons_succ]
        rfl
      refine last_ (i := 16) (N := none) #[true, true, true, true, true, true, true, true, true, true, true, true, true, true, true, true, true] rfl rfl (by kernel_rfl) (by decide) (fun K hK => ?_)
      refine step_store_cell (by rfl) 58 _ _ (by rfl) (by rfl) g (off + n) (by rfl) (.slice (some ⟨g2, off2, none⟩) ((row bs' n).length + 1) cap2) _ (by rfl) c1 f1 info58s rfl ?_
      rintro W' hW'
      refine hK.out _ _ ?_
      clear hK K
      refine done_ (by kernel_rfl) ?_
      have hp : Q3 F W' q (.slice (some ⟨g, off, none⟩) bs'.length cp') (rvs'.set n (.slice (some ⟨g2, off2, none⟩) ((row bs' n).length + 1) cap2)) (bs'.set n (row bs' n ++ [v])) most cnt now := by
        rw [hW']
        exact hall.out.put (w1 := w1) (i := n) (xs := row bs' n ++ [v]) (fun k hk => HF.out k (by have := HT.out.size; simp at hk; omega)) hnb (by rw [List.length_append, nums_append]; exact HS)
          (by rw [hrv]; exact ⟨HG.os, HG.tape, HG.output, HG.size, HG.block⟩) (fun k hk => by
            obtain rfl : g2 = k := by simpa [Value.ownBlock] using hk
            rw [hrv]; exact HO) rfl
      have ht : Touch F w W' := by
        rw [hW']
        exact ((HT.out.alloc (.cells #[.int .i64 v] 3)).grown (w' := w1) (row := (rowv rvs' n).ownBlock) (by rw [hrv]; exact ⟨HG.os, HG.tape, HG.output, HG.size, HG.block⟩) (fun k hk => .inl (hall.out.fr n k hk))).setCell (.inl (hall.out.fb g rfl)) _
      have d2 := hp.cell2
      have df := hp.frozen 2
      have HP := hid hp
      have HTT := hid ht
      clear hp ht hW' HS HG HO c0 c1 f1 a0 a1 af
      go_wp2
      go_ret
      have hfin : pushB bs (Int.toNat (n : Int)) v = bs'.set n (row bs' n ++ [v]) := by
        obtain ⟨j, hj⟩ := HJ.out
        exact pushB_of bs bs' n j v hj hnb hl
      refine ⟨fun h => by omega, fun _ => ⟨rfl, ?_, HTT.out.setCell (.inl HP.out.fq) _⟩⟩
      rw [hfin]
      exact ⟨_, _, HP.out.set2 _⟩
end Go.Proofs.Ytmbpdboengaclaa
