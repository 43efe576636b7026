/- The reference's Push: walked. -/
import Derived.Test.YtmbpdboengaclaaQr
import Derived.StillTailTactics
namespace Go.Proofs.Ytmbpdboengaclaa
set_option linter.unusedVariables false
set_option linter.unusedSimpArgs false
open Go.RowKit
attribute [local go_sem ↓] Go.wp_at_zero Go.wp_at_succ
theorem cellsI_set : ∀ (l : List (Int × Int)) (j : Nat) (p : Int × Int), cellsI (l.set j p) = ((cellsI l).set (j * 2) (.int .i64 p.1)).set (j * 2 + 1) (.int .i64 p.2)
  | [], j, p => by simp [cellsI]
  | a :: r, 0, p => by simp [cellsI]
  | a :: r, j + 1, p => by
    have ih := cellsI_set r j p
    have e : ∀ (a : Int × Int) (r : List (Int × Int)), cellsI (a :: r) = .int .i64 a.1 :: .int .i64 a.2 :: cellsI r := fun a r => by simp [cellsI]
    rw [List.set_cons_succ, e, e, ih, show (j + 1) * 2 = j * 2 + 1 + 1 from by omega]
    simp only [List.set_cons_succ]
/-- the items while a place is sought: x stands for what is at the gap j -/
def mid (l : List (Int × Int)) (j : Nat) (x : Int × Int) : List (Int × Int) := l.take j ++ x :: l.drop j
theorem mid_length {l : List (Int × Int)} {j : Nat} {x : Int × Int} (hj : j ≤ l.length) : (mid l j x).length = l.length + 1 := by
  simp [mid]; omega
theorem mid_lt {l : List (Int × Int)} {j i : Nat} {x : Int × Int} (hi : i < j) (hj : j ≤ l.length) : (mid l j x)[i]'(by rw [mid_length hj]; omega) = l[i]'(by omega) := by
  unfold mid
  rw [List.getElem_append_left (by simp; omega), List.getElem_take]
theorem mid_eq {l : List (Int × Int)} {j : Nat} {x : Int × Int} (hj : j ≤ l.length) : (mid l j x)[j]'(by rw [mid_length hj]; omega) = x := by
  unfold mid
  rw [List.getElem_append_right (by simp; omega)]
  simp [Nat.min_eq_left hj]
theorem mid_set {l : List (Int × Int)} {j : Nat} {x y : Int × Int} (hj : j ≤ l.length) : (mid l j x).set j y = mid l j y := by
  unfold mid
  rw [List.set_append_right _ _ (by simp; omega)]
  simp [Nat.min_eq_left hj]
theorem mid_step {l : List (Int × Int)} {j : Nat} (hj : j < l.length) : mid l (j + 1) l[j] = mid l j l[j] := by
  unfold mid
  rw [List.take_succ_eq_append_getElem hj, List.append_assoc, List.singleton_append, ← List.drop_eq_getElem_cons hj]
theorem mid_end (l : List (Int × Int)) (x : Int × Int) : mid l l.length x = l ++ [x] := by simp [mid]
theorem mid_ins {c v : Int} : ∀ {l : List (Int × Int)} {j : Nat}, j ≤ l.length → (∀ i (h : i < l.length), i < j → l[i].1 ≤ c) → (∀ (h : j < l.length), c < l[j].1) → mid l j (c, v) = ins c v l
  | [], j, hj, _, _ => by simp [mid, ins]
  | a :: r, 0, hj, h1, h2 => by
    have : c < a.1 := h2 (by simp)
    rw [ins, if_neg (by omega)]
    simp [mid]
  | a :: r, j + 1, hj, h1, h2 => by
    have : a.1 ≤ c := h1 0 (by simp) (by omega)
    rw [ins, if_pos this, ← mid_ins (j := j) (by simpa using hj) (fun i hi hij => h1 (i + 1) (by simpa using hi) (by omega)) (fun h => h2 (by simpa using h))]
    simp [mid]
theorem push_two {w w1 w2 : World} {n n2 cap1 cap2 : Nat} {A1 A2 : Option Addr} {o o2 : Obj} (hg1 : (w.alloc o).grownBy w1 (Value.slice (some ⟨w.heap.size, 0, none⟩) 0 0).ownBlock)
    (ho1 : ∀ k, (Value.slice A1 n cap1).ownBlock = some k → (Value.slice (some ⟨w.heap.size, 0, none⟩) 0 0).ownBlock = some k ∨ (w.alloc o).heap.size ≤ k)
    (hg2 : (w1.alloc o2).grownBy w2 (Value.slice A1 n cap1).ownBlock) (ho2 : ∀ k, (Value.slice A2 n2 cap2).ownBlock = some k → (Value.slice A1 n cap1).ownBlock = some k ∨ (w1.alloc o2).heap.size ≤ k) :
    Below w.heap.size w w2 ∧ ∀ k, (Value.slice A2 n2 cap2).ownBlock = some k → w.heap.size ≤ k := by
  have b0 := balloc (Below.refl w.heap.size w) o
  have b1 := b0.grown hg1 b0.size (fun k hk => by
    have : w.heap.size = k := by simpa [Value.ownBlock] using hk
    omega)
  have b2 := balloc b1 o2
  have h1 : ∀ k, (Value.slice A1 n cap1).ownBlock = some k → w.heap.size ≤ k := fun k hk => by
    rcases ho1 k hk with h | h
    · have : w.heap.size = k := by simpa [Value.ownBlock] using h
      omega
    · rw [World.size_alloc] at h; omega
  have b3 := b2.grown hg2 b2.size h1
  refine ⟨b3, fun k hk => ?_⟩
  rcases ho2 k hk with h | h
  · exact h1 k h
  · have := b2.size; omega
def RPushL (F : Nat → Prop) (w : World) (m : Nat) (l : List (Int × Int)) (most now c v : Int) (e : Ending) (w' : World) : Prop :=
  (c < now ∨ most < c → e = .returned (.int .i64 2) ∧ w = w') ∧
  (now ≤ c → c ≤ most → e = .returned (.int .i64 0) ∧ RL F w' m (ins c v l) most now ∧ Touch F w w')
set_option maxRecDepth 100000 in
set_option maxHeartbeats 2000000 in
theorem rpush_l {F : Nat → Prop} {w : World} {m : Nat} {l : List (Int × Int)} {most now : Int} (h : RL F w m l most now) (hF : ∀ k, w.heap.size ≤ k → F k) (hl : l.length ≤ 100000)
    (hs : l.Pairwise fun a b => a.1 ≤ b.1) (c v : Int) :
    Calls Try.prog 15 #[.pointer (some ⟨m, 0, none⟩), .int .i64 c, .int .i64 v] w (RPushL F w m l most now c v) := by
  obtain ⟨v0, h⟩ := h
  obtain ⟨A, cp, rfl, hcp⟩ := h.row.form
  have e0 := h.cell0
  have e1 := h.cell1
  have e2 := h.cell2
  have f2 := h.frozen 2
  have hm := blk_lt h.head
  have HH := hid h
  have HF := hid hF
  have HS := hid hs
  clear h hF hs
  by_cases ha : c < now
  · go_enter Try.func15, Try.ntmps15
    go_wp2
    go_ret
    exact ⟨fun _ => ⟨rfl, rfl⟩, fun h => by omega⟩
  by_cases hb : most < c
  · go_enter Try.func15, Try.ntmps15
    go_wp2
    go_ret
    exact ⟨fun _ => ⟨rfl, rfl⟩, fun h => by omega⟩
  obtain ⟨i0, hi0, hz0, hz1, hz2⟩ := info_parts info46
  have hall := hid (HH.out.row.alloc (.cells #[] 46))
  have hlit : Hid (SL (w.alloc (.cells #[] 46)) 46 2 (.slice (some ⟨w.heap.size, 0, none⟩) 0 0) 0 []) := hid (SL.lit w 46 2 0 #[] rfl (by simp [maxLen]))
  have hone := cellsI_one l
  have hone2 : ∀ u ∈ [Value.int .i64 0, .int .i64 0], u.oneCell' = true := by simp [Value.oneCell']
  have h63 : l.length ≤ maxLen := by simp only [maxLen]; omega
  have hbytes : l.length * 16 ≤ 140737488355328 := by omega
  have h63' : l.length + 1 ≤ maxLen := by simp only [maxLen]; omega
  have hbytes' : (l.length + 1) * 16 ≤ 140737488355328 := by omega
  have hnl : 0 + l.length = l.length := Nat.zero_add _
  have HN := hid hnl
  clear hnl
  go_enter Try.func15, Try.ntmps15
  go_wp2_with (first
    | (at_builtin; refine wpList_append_SLs rfl (.tmp 28) (.tmp 32) _ rfl 46 i0 _ 2 16 Try.underlying41 hi0 hz0 hz1 hz2 rfl Nat.two_pos (.slice (some ⟨w.heap.size, 0, none⟩) 0 0) 0 [] rfl hlit.out _ l.length (cellsI l) rfl hall.out hone l.length (cellsI l) HN.out rfl h63 hbytes ?_; intro A1 cap1 w1 hs1 hg1 ho1; have hlit2 : Hid (SL (w1.alloc (.cells #[.int .i64 0, .int .i64 0] 46)) 46 2 (.slice (some ⟨w1.heap.size, 0, none⟩) 1 1) 1 [.int .i64 0, .int .i64 0]) := hid (SL.lit w1 46 2 1 #[.int .i64 0, .int .i64 0] rfl (by simp [maxLen])); have HS1 := hid (hs1.alloc (.cells #[.int .i64 0, .int .i64 0] 46)); have HG1 := hid hg1; have HO1 := hid ho1; clear hs1 hg1 ho1)
    | (at_builtin; refine wpList_append_SLs rfl (.tmp 33) (.tmp 35) _ rfl 46 i0 _ 2 16 Try.underlying41 hi0 hz0 hz1 hz2 rfl Nat.two_pos (.slice A1 l.length cap1) l.length (cellsI l) rfl HS1.out _ 1 [.int .i64 0, .int .i64 0] rfl hlit2.out hone2 (l.length + 1) _ rfl rfl h63' hbytes' ?_; intro A2 cap2 w2 hs2 hg2 ho2; obtain ⟨hB2, hA2⟩ := push_two HG1.out HO1.out hg2 ho2; have hm2 := (hB2.block m hm).trans HH.out.head; have d2 : w2.cell? ⟨m, 2, none⟩ = some (.slice A l.length cp) := (by rw [cell_of_row w2 m 2 _ _ _ hm2]; rfl); have df2 := frozen_of_row w2 m 2 _ _ hm2; obtain ⟨g2, off2, cap3, hv2, -, -, -, -⟩ := hs2.open_ (Nat.succ_pos _); simp only [Value.slice.injEq, true_and] at hv2; obtain ⟨rfl, rfl⟩ := hv2; have HS2 := hid hs2; have HM2 := hid hm2; have HB2 := hid hB2; have HA2 : Hid (w.heap.size ≤ g2) := hid (hA2 g2 rfl); clear hs2 hg2 ho2 hm2 hB2 hA2))
  clear hall hlit hlit2 HS1 HG1 HO1 hone hone2 d2 df2 e0 e1 e2 f2 hz0 hz1 hz2 hi0
  go_loopw [7] (fun atv wr => ∃ (j : Nat) (x : Int × Int), j ≤ l.length ∧ atv = .int .i64 (j : Int) ∧ Hid (SL wr 46 2 (.slice (some ⟨g2, off2, none⟩) (l.length + 1) cap2) (l.length + 1) (cellsI (mid l j x))) ∧ Hid (wr.heap[m]? = some (.cells #[.int .i64 most, .int .i64 now, .slice (some ⟨g2, off2, none⟩) (l.length + 1) cap2] 43 (0, 0))) ∧ Hid (∀ i (h : i < l.length), j ≤ i → c < l[i].1) ∧ Hid (Touch F w wr)) (fun atv _ => (intOf atv).toNat)
  case atStart =>
    have hne : g2 ≠ m := by have := HA2.out; omega
    refine ⟨l.length, (0, 0), Nat.le_refl _, rfl, hid ?_, hid (heap_setCell_same _ m 2 _ _ _ HM2.out), hid (fun i h h' => by omega), hid (((Touch.of_below HB2.out (Nat.le_refl _)).mono (fun k hk => hk.elim)).setCell (p := ⟨m, 2, none⟩) (.inl HH.out.fm) _)⟩
    rw [mid_end, cellsI_append]
    refine HS2.out.far (fun k hk => ?_) _
    have e : g2 = k := by simpa [Value.ownBlock] using hk
    subst e
    exact hne
  case round =>
    obtain ⟨j, x, hj, rfl, HSr, HMr, HCr, HTr⟩ := hrel
    clear HS2 HM2 HB2
    have hml := mid_length (x := x) hj
    have hne : g2 ≠ m := by have := HA2.out; omega
    have cm : wr.cell? ⟨m, 2, none⟩ = some (.slice (some ⟨g2, off2, none⟩) (l.length + 1) cap2) := by rw [cell_of_row wr m 2 _ _ _ HMr.out]; rfl
    have hitem : ∀ k (hk : k < (mid l j x).length), wr.cell? ⟨g2, off2 + k * 2, none⟩ = some (.int .i64 (mid l j x)[k].1) ∧ wr.cell? ⟨g2, off2 + k * 2 + 1, none⟩ = some (.int .i64 (mid l j x)[k].2) ∧ (∀ k, wr.frozen? ⟨g2, k, none⟩ = false) := fun k hk => by
      obtain ⟨g, off, hv, k1, k2, k3, -⟩ := SL.item (w := wr) (t := 46) (A := some ⟨g2, off2, none⟩) (c := cap2) (l := mid l j x) (by rw [hml]; exact HSr.out) hk
      simp only [Option.some.injEq, Addr.mk.injEq, and_true] at hv
      obtain ⟨rfl, rfl⟩ := hv
      exact ⟨k1, k2, k3⟩
    obtain ⟨q1, q2, q3⟩ := hitem j (by omega)
    rw [mid_eq hj] at q1 q2
    by_cases hgo : ∃ i, ∃ h : i < l.length, j = i + 1 ∧ c < l[i].1
    · obtain ⟨i, hi, rfl, hci⟩ := hgo
      obtain ⟨p1, p2, -⟩ := hitem i (by omega)
      have hmi := mid_lt (l := l) (x := x) (Nat.lt_succ_self i) hj
      simp only [Nat.succ_eq_add_one] at hmi
      rw [hmi] at p1 p2
      have q3a := q3 (off2 + (i + 1) * 2)
      have q3b := q3 (off2 + (i + 1) * 2 + 1)
      clear hitem q3
      have hi2 : (i : Int) < (l.length : Int) := by omega
      go_wp2_with fail
      have hb1 : (0 : Int) ≤ (i : Int) := by omega
      have hb2 : (i : Int) < (l.length : Int) + 1 := by omega
      have hb3 : (0 : Int) ≤ (i : Int) + 1 := by omega
      have hb5 : IntKind.i64.wrap (i : Int) = i := by rw [IntKind.wrap_i64]; omega
      go_still_tail 13, (by kernel_rfl)
      change wpList _ _ _ _ _ wr.drew
      go_wp2
      have hset := (HSr.out.set_ (j := (i + 1) * 2) (by omega) (.int .i64 l[i].1)).set_ (j := (i + 1) * 2 + 1) (by omega) (.int .i64 l[i].2)
      rw [← cellsI_set, mid_set hj, mid_step hi] at hset
      have hfar : ((wr.setCell ⟨g2, off2 + (i + 1) * 2, none⟩ (.int .i64 l[i].1)).setCell ⟨g2, off2 + (i + 1) * 2 + 1, none⟩ (.int .i64 l[i].2)).heap[m]? = wr.heap[m]? :=
        (Below.heap_setCell _ _ _ m (fun e => hne e.symm)).trans (Below.heap_setCell _ _ _ m (fun e => hne e.symm))
      have hfg : F g2 := HF.out g2 HA2.out
      have hcr2 : ∀ k (h : k < l.length), i ≤ k → c < l[k].1 := fun k hk hik => by
        rcases Nat.lt_or_ge i k with h | h
        · exact HCr.out k hk h
        · have e : i = k := by omega
          subst e
          exact hci
      go_roundw
      case rel => exact ⟨i, l[i], by omega, rfl, hid hset, hid (hfar.trans HMr.out), hid hcr2, hid (((HTr.out.setCell (p := ⟨g2, off2 + (i + 1) * 2, none⟩) (.inl hfg) _).setCell (p := ⟨g2, off2 + (i + 1) * 2 + 1, none⟩) (.inl hfg) _).drew)⟩
      case measure => simp [intOf]
    · have hstop : ∀ k (h : k < l.length), k < j → l[k].1 ≤ c := fun k hk hkj => by
        obtain ⟨i, rfl⟩ : ∃ i, j = i + 1 := ⟨j - 1, by omega⟩
        have h1 : ¬ c < l[i].1 := fun h => hgo ⟨i, by omega, rfl, h⟩
        rcases Nat.lt_or_ge k i with h | h
        · have := List.pairwise_iff_getElem.1 HS.out k i hk (by omega) h
          omega
        · obtain rfl : i = k := by omega
          omega
      have hins := mid_ins (c := c) (v := v) hj hstop (fun h => HCr.out j h (Nat.le_refl _))
      have hset := (HSr.out.set_ (j := j * 2) (by omega) (.int .i64 c)).set_ (j := j * 2 + 1) (by omega) (.int .i64 v)
      rw [show (Value.int .i64 c) = .int .i64 ((c, v) : Int × Int).1 from rfl, show (Value.int .i64 v) = .int .i64 ((c, v) : Int × Int).2 from rfl, ← cellsI_set, mid_set hj, hins] at hset
      have hfar : ((wr.setCell ⟨g2, off2 + j * 2, none⟩ (.int .i64 c)).setCell ⟨g2, off2 + j * 2 + 1, none⟩ (.int .i64 v)).heap[m]? = wr.heap[m]? :=
        (Below.heap_setCell _ _ _ m (fun e => hne e.symm)).trans (Below.heap_setCell _ _ _ m (fun e => hne e.symm))
      have hfg : F g2 := HF.out g2 HA2.out
      have hil := ins_length c v l
      have hrow : SL ((wr.setCell ⟨g2, off2 + j * 2, none⟩ (.int .i64 c)).setCell ⟨g2, off2 + j * 2 + 1, none⟩ (.int .i64 v)) 46 2 (.slice (some ⟨g2, off2, none⟩) (l.length + 1) cap2) (ins c v l).length (cellsI (ins c v l)) := by rw [hil]; exact hset
      have hfr : ∀ k, (Value.slice (some ⟨g2, off2, none⟩) (l.length + 1) cap2).ownBlock = some k → F k := fun k hk => by
        have e : g2 = k := by simpa [Value.ownBlock] using hk
        rw [← e]
        exact hfg
      have HR : Hid (RL F ((wr.setCell ⟨g2, off2 + j * 2, none⟩ (.int .i64 c)).setCell ⟨g2, off2 + j * 2 + 1, none⟩ (.int .i64 v)) m (ins c v l) most now) :=
        hid ⟨_, hfar.trans HMr.out, hrow, HH.out.fm, hfr⟩
      have HT : Hid (Touch F w ((wr.setCell ⟨g2, off2 + j * 2, none⟩ (.int .i64 c)).setCell ⟨g2, off2 + j * 2 + 1, none⟩ (.int .i64 v))) := hid ((HTr.out.setCell (p := ⟨g2, off2 + j * 2, none⟩) (.inl hfg) _).setCell (p := ⟨g2, off2 + j * 2 + 1, none⟩) (.inl hfg) _)
      have q3a := q3 (off2 + j * 2)
      have q3b := q3 (off2 + j * 2 + 1)
      have hj2 : (j : Int) < (l.length : Int) + 1 := by omega
      by_cases hj0 : j = 0
      · subst hj0
        clear hitem q3 hset hfar hrow hil hins hstop hgo
        simp only [Nat.zero_mul, Nat.add_zero] at q1 q2 q3a q3b HR HT
        go_wp2
        go_ret
        exact ⟨fun h => by omega, fun _ _ => ⟨rfl, HR.out, HT.out⟩⟩
      · obtain ⟨i, rfl⟩ : ∃ i, j = i + 1 := ⟨j - 1, by omega⟩
        have hli := hstop i (by omega) (by omega)
        obtain ⟨p1, p2, -⟩ := hitem i (by omega)
        have hmi := mid_lt (l := l) (x := x) (Nat.lt_succ_self i) hj
        simp only [Nat.succ_eq_add_one] at hmi
        rw [hmi] at p1 p2
        have hi2 : (i : Int) < (l.length : Int) := by omega
        clear hitem q3 hset hfar hrow hins hstop hgo
        go_wp2
        go_ret
        exact ⟨fun h => by omega, fun _ _ => ⟨rfl, HR.out, HT.out⟩⟩
end Go.Proofs.Ytmbpdboengaclaa
