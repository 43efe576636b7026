/- The law's items, the reference's Same, Push and Pop: walked. -/
import Derived.Test.YtmbpdboengaclaaQall
import Derived.Test.YtmbpdboengaclaaSm
import Derived.Deep.QuietTactic
import Derived.BigQuiet
import Derived.RegionTactic
namespace Go.Proofs.Ytmbpdboengaclaa
set_option linter.unusedVariables false
set_option linter.unusedSimpArgs false
open Go.RowKit
attribute [local go_sem ↓] Go.wp_at_zero Go.wp_at_succ
theorem info46 : (Try.prog.info? 46).map (fun i => (i.zero, i.size, i.bytes)) = some (some (.agg #[.int .i64 0, .int .i64 0]), 2, 16) := by kernel_rfl
def ItemsL (l : List (Int × Int)) (w : World) (e : Ending) (w' : World) : Prop :=
  ∃ A c, e = .returned (.slice A l.length c) ∧ SL w' 46 2 (.slice A l.length c) l.length (cellsI l) ∧ (∀ k, (Value.slice A l.length c).ownBlock = some k → w.heap.size ≤ k) ∧ Below w.heap.size w w'
theorem cellsI_snoc (l : List (Int × Int)) (j : Nat) (hj : j < l.length) : cellsI (l.take (j + 1)) = cellsI (l.take j) ++ [.int .i64 l[j].1, .int .i64 l[j].2] := by
  rw [List.take_succ_eq_append_getElem hj, cellsI_append]
  rfl
/-- element j of a slice of items -/
theorem SL.item {w : World} {t : TypeId} {A : Option Addr} {c : Nat} {l : List (Int × Int)} (h : SL w t 2 (.slice A l.length c) l.length (cellsI l)) {j : Nat} (hj : j < l.length) :
    ∃ g off, A = some ⟨g, off, none⟩ ∧ w.cell? ⟨g, off + j * 2, none⟩ = some (.int .i64 l[j].1) ∧ w.cell? ⟨g, off + j * 2 + 1, none⟩ = some (.int .i64 l[j].2) ∧ (∀ k, w.frozen? ⟨g, k, none⟩ = false) ∧ g < w.heap.size := by
  obtain ⟨g, off, cap, hv, h1, h2, hc, hf⟩ := h.open_ (by omega)
  simp only [Value.slice.injEq, true_and] at hv
  obtain ⟨rfl, rfl⟩ := hv
  obtain ⟨hg1, hg2⟩ := cellsI_get l j l[j] (List.getElem?_eq_getElem hj)
  refine ⟨g, off, rfl, (hc (j * 2) (by omega)).trans hg1, ?_, hf, h.lt g rfl⟩
  have := (hc (j * 2 + 1) (by omega)).trans hg2
  exact this
set_option maxRecDepth 100000 in
set_option maxHeartbeats 1000000 in
theorem items_l {w : World} {v : Value} {l : List (Int × Int)} (h : SL w 31 2 v l.length (cellsI l)) (hl : l.length ≤ 100000) :
    Calls Try.prog 18 #[v] w (ItemsL l w) := by
  obtain ⟨A, c, rfl, hc⟩ := h.form
  have HS := hid h
  obtain ⟨i0, hi0, hz0, hz1, hz2⟩ := info_parts info46
  clear h
  go_enter Try.func18, Try.ntmps18
  go_wp2
  go_loopw [3, 8] (fun ov iv wr => ∃ (j : Nat) (A' : Option Addr) (c' : Nat), j ≤ l.length ∧ iv = .int .i64 (j : Int) ∧ ov = .slice A' j c' ∧ Hid (SL wr 46 2 (.slice A' j c') j (cellsI (l.take j))) ∧ Hid (∀ k, (Value.slice A' j c').ownBlock = some k → w.heap.size ≤ k) ∧ Hid (Below w.heap.size w wr)) (fun _ iv _ => l.length - (intOf iv).toNat)
  case atStart => exact ⟨0, none, 0, by omega, rfl, rfl, hid (SL.nil _ _ _), hid (fun k hk => by simp [Value.ownBlock] at hk), hid (Below.refl _ _)⟩
  case round =>
    obtain ⟨j, A', c', hj, rfl, rfl, HO, HF, HB⟩ := hrel
    by_cases hjl : j < l.length
    · have hj2 : (j : Int) < (l.length : Int) := by omega
      obtain ⟨g, off, rfl, k1, k2, k3, k4⟩ := (HS.out.keep (fun k hk => HB.out.block k (HS.out.lt k hk))).item hjl
      have hall := hid ((HO.out.alloc (.cells #[.int .i64 l[j].1, .int .i64 l[j].2] 31)).alloc (.cells #[.int .i64 l[j].1, .int .i64 l[j].2] 46))
      have hlit : Hid (SL ((wr.alloc (.cells #[.int .i64 l[j].1, .int .i64 l[j].2] 31)).alloc (.cells #[.int .i64 l[j].1, .int .i64 l[j].2] 46)) 46 2 (.slice (some ⟨wr.heap.size + 1, 0, none⟩) 1 1) 1 [.int .i64 l[j].1, .int .i64 l[j].2]) := by
        have := SL.lit (wr.alloc (.cells #[.int .i64 l[j].1, .int .i64 l[j].2] 31)) 46 2 1 #[.int .i64 l[j].1, .int .i64 l[j].2] rfl (by simp [maxLen])
        rw [World.size_alloc] at this
        exact this
      have hone : ∀ u ∈ [Value.int .i64 l[j].1, .int .i64 l[j].2], u.oneCell' = true := by simp [Value.oneCell']
      have h63 : j + 1 ≤ maxLen := by simp only [maxLen]; omega
      have hbytes : (j + 1) * 16 ≤ 140737488355328 := by omega
      clear k3
      go_wp2_with (at_builtin; refine wpList_append_SLs rfl _ _ _ rfl 46 i0 _ 2 16 Try.underlying41 hi0 hz0 hz1 hz2 rfl Nat.two_pos _ j _ rfl hall.out _ 1 [.int .i64 l[j].1, .int .i64 l[j].2] rfl hlit.out hone (j + 1) _ rfl rfl h63 hbytes ?_; intro A2 cap2 w2 hs2 hg2 ho2; have HS2 := hid hs2; have HG2 := hid hg2; have HO2 := hid ho2; clear hs2 hg2 ho2)
      have hb2 := (((balloc HB.out (.cells #[.int .i64 l[j].1, .int .i64 l[j].2] 31)).alloc (by have := HB.out.size; simp; omega) (.cells #[.int .i64 l[j].1, .int .i64 l[j].2] 46)).grown HG2.out (by have := HB.out.size; simp; omega) (fun k hk => HF.out k hk))
      have hs2 := HS2.out
      rw [← cellsI_snoc l j hjl] at hs2
      have hB2 := HB.out.size
      go_roundw
      case rel => exact ⟨j + 1, A2, cap2, by omega, by simp, rfl, hid hs2, hid (fun k hk => by rcases HO2.out k hk with h | h; exact HF.out k h; simp at h; omega), hid hb2⟩
      case measure => simp [intOf]; omega
    · obtain rfl : j = l.length := by omega
      go_wp2
      go_ret
      exact ⟨A', c', rfl, by have := HO.out; rwa [List.take_length] at this, HF.out, HB.out⟩
set_option maxRecDepth 100000 in
set_option maxHeartbeats 1000000 in
theorem same_l {w : World} {v1 v2 : Value} {l : List (Int × Int)} (h1 : SL w 46 2 v1 l.length (cellsI l)) (h2 : SL w 46 2 v2 l.length (cellsI l)) (hl : l.length ≤ 100000) :
    Calls Try.prog 17 #[v1, v2] w fun e w' => e = .returned (.bool true) ∧ ∃ n, w' = w.drewN n := by
  obtain ⟨A, c, rfl, hc⟩ := h1.form
  obtain ⟨A2, c2, rfl, hc2⟩ := h2.form
  have HS1 := hid h1
  have HS2 := hid h2
  clear h1 h2
  go_enter Try.func17, Try.ntmps17
  go_wp2
  go_loopw [13] (fun iv wr => ∃ (j n : Nat), j ≤ l.length ∧ iv = .int .i64 (j : Int) ∧ wr = w.drewN n) (fun iv _ => l.length - (intOf iv).toNat)
  case atStart => exact ⟨0, 0, by omega, rfl, rfl⟩
  case round =>
    obtain ⟨j, n, hj, rfl, rfl⟩ := hrel
    by_cases hjl : j < l.length
    · have hj2 : (j : Int) < (l.length : Int) := by omega
      have hj0 : (0 : Int) ≤ (j : Int) := by omega
      obtain ⟨g, off, rfl, k1, k2, k3, k4⟩ := HS1.out.item hjl
      obtain ⟨g2, off2, rfl, l1, l2, l3, l4⟩ := HS2.out.item hjl
      clear k3 l3
      go_wp2
      go_quiet (fail)
      go_wp2
      go_roundw
      case rel => exact ⟨j + 1, n + nq, by omega, by simp, rfl⟩
      case measure => simp [intOf]; omega
    · obtain rfl : j = l.length := by omega
      go_wp2
      go_ret
      exact ⟨rfl, n, rfl⟩
/-- the reference's queue: its items lie in one slice -/
structure RQ (F : Nat → Prop) (w : World) (m : Nat) (v : Value) (l : List (Int × Int)) (most now : Int) : Prop where
  head : w.heap[m]? = some (.cells #[.int .i64 most, .int .i64 now, v] 43 (0, 0))
  row : SL w 46 2 v l.length (cellsI l)
  fm : F m
  fr : ∀ k, v.ownBlock = some k → F k
def RL (F : Nat → Prop) (w : World) (m : Nat) (l : List (Int × Int)) (most now : Int) : Prop := ∃ v, RQ F w m v l most now
section
variable {F G : Nat → Prop} {w w' : World} {m : Nat} {v : Value} {l : List (Int × Int)} {most now : Int}
theorem RQ.ne (h : RQ F w m v l most now) : ∀ k, v.ownBlock = some k → k ≠ m := fun k hk e => by
  obtain ⟨cur, hc⟩ := h.row.typed k hk
  rw [e, h.head] at hc
  cases hc
theorem RQ.keep (h : RQ F w m v l most now) (hk : ∀ k, F k → k < w.heap.size → w'.heap[k]? = w.heap[k]?) : RQ F w' m v l most now :=
  ⟨(hk m h.fm (blk_lt h.head)).trans h.head, h.row.keep fun k hk' => hk k (h.fr k hk') (h.row.lt k hk'), h.fm, h.fr⟩
theorem RQ.touch (h : RQ F w m v l most now) (ht : Touch G w w') (hg : ∀ k, F k → ¬ G k) : RQ F w' m v l most now := h.keep fun k hk hl => ht.block k hl (hg k hk)
theorem RQ.below (h : RQ F w m v l most now) (ht : Below w.heap.size w w') : RQ F w' m v l most now := h.keep fun k _ hl => ht.block k hl
theorem RQ.bound (h : RQ F w m v l most now) : RQ (fun k => F k ∧ k < w.heap.size) w m v l most now := ⟨h.head, h.row, ⟨h.fm, blk_lt h.head⟩, fun k hk => ⟨h.fr k hk, h.row.lt k hk⟩⟩
theorem RQ.mono (h : RQ F w m v l most now) (hf : ∀ k, F k → G k) : RQ G w m v l most now := ⟨h.head, h.row, hf _ h.fm, fun k hk => hf _ (h.fr k hk)⟩
theorem RL.touch (h : RL F w m l most now) (ht : Touch G w w') (hg : ∀ k, F k → ¬ G k) : RL F w' m l most now := by
  obtain ⟨v, h⟩ := h
  exact ⟨v, h.touch ht hg⟩
theorem RL.below (h : RL F w m l most now) (ht : Below w.heap.size w w') : RL F w' m l most now := by
  obtain ⟨v, h⟩ := h
  exact ⟨v, h.below ht⟩
theorem RL.bound (h : RL F w m l most now) : RL (fun k => F k ∧ k < w.heap.size) w m l most now := by
  obtain ⟨v, h⟩ := h
  exact ⟨v, h.bound⟩
theorem RL.mono (h : RL F w m l most now) (hf : ∀ k, F k → G k) : RL G w m l most now := by
  obtain ⟨v, h⟩ := h
  exact ⟨v, h.mono hf⟩
theorem RQ.cell0 (h : RQ F w m v l most now) : w.cell? ⟨m, 0, none⟩ = some (.int .i64 most) := by rw [cell_of_row w m 0 _ _ _ h.head]; rfl
theorem RQ.cell1 (h : RQ F w m v l most now) : w.cell? ⟨m, 1, none⟩ = some (.int .i64 now) := by rw [cell_of_row w m 1 _ _ _ h.head]; rfl
theorem RQ.cell2 (h : RQ F w m v l most now) : w.cell? ⟨m, 2, none⟩ = some v := by rw [cell_of_row w m 2 _ _ _ h.head]; rfl
theorem RQ.frozen (h : RQ F w m v l most now) (j : Nat) : w.frozen? ⟨m, j, none⟩ = false := frozen_of_row w m j _ _ h.head
end
theorem blk2 {W : World} {o o' : Obj} {g : Nat} (hg : W.heap.size = g) : ((W.alloc o).alloc o').heap[g]? = some o := by
  subst hg
  exact (Below.heap_alloc _ _ _ (by rw [World.size_alloc]; omega)).trans (heap_alloc_new W o)
theorem RQ.pop {F : Nat → Prop} {w : World} {m g off c : Nat} {p : Int × Int} {r : List (Int × Int)} {most now : Int} (h : RQ F w m (.slice (some ⟨g, off, none⟩) (p :: r).length c) (p :: r) most now) (v' : Value)
    (hv : v' = .slice (if c = 1 then some ⟨g, off, none⟩ else some ⟨g, off + 2, none⟩) r.length (c - 1)) :
    RQ F ((w.setCell ⟨m, 2, none⟩ v').setCell ⟨m, 1, none⟩ (.int .i64 p.1)) m v' r most p.1 := by
  have hd := h.row.drop_ (k := 1) (by simp)
  have hx : (cellsI (p :: r)).drop (1 * 2) = cellsI r := rfl
  simp only [List.length_cons, Nat.add_sub_cancel, hx, Option.map_some, Addr.add_lit, Nat.one_mul] at hd
  have hb : v'.ownBlock = some g := by
    rw [hv]
    split <;> rfl
  rw [← hv] at hd
  have hne := h.ne g rfl
  exact ⟨heap_setCell_same _ m 1 _ _ _ (heap_setCell_same _ m 2 _ _ _ h.head), (hd.far (fun k hk => by rw [hb] at hk; cases hk; exact hne) _).far (fun k hk => by rw [hb] at hk; cases hk; exact hne) _, h.fm, fun k hk => by rw [hb] at hk; cases hk; exact h.fr g rfl⟩
theorem results16 (tmps : Array Value) (W : World) (g : Nat) (cs : Array Value) (hp : tmps.getD 2 undef = .pointer (some ⟨g, 0, none⟩)) (hg : W.heap[g]? = some (.cells cs 46 (0, 0))) (hcs : cs.size = 2) :
    (results Try.f16 tmps).run Try.prog W = .ok (.tuple #[.agg cs, tmps.getD 3 undef]) W := by
  have h1 : tmps[2]?.getD undef = .pointer (some ⟨g, 0, none⟩) := by simpa using hp
  have hi : (Try.prog.info? 46).map (·.size) = some cs.size := by rw [hcs]; kernel_rfl
  simp [results, show Try.f16.results = #[.cell 2 46, .tmp 3] from rfl, h1, asAddr, run_loadVar_row W g 46 46 cs (0, 0) _ hg Try.underlying46 rfl hi]
def RPopL (F : Nat → Prop) (w : World) (m : Nat) (l : List (Int × Int)) (most now : Int) (e : Ending) (w' : World) : Prop :=
  Touch F w w' ∧ (l = [] → e = .returned (.tuple #[.agg #[.int .i64 0, .int .i64 0], .int .i64 10]) ∧ RL F w' m l most now) ∧
  (∀ p r, l = p :: r → e = .returned (.tuple #[.agg #[.int .i64 p.1, .int .i64 p.2], .int .i64 0]) ∧ RL F w' m r most p.1)
set_option maxRecDepth 100000 in
set_option maxHeartbeats 1000000 in
theorem rpop_l {F : Nat → Prop} {w : World} {m : Nat} {l : List (Int × Int)} {most now : Int} (h : RL F w m l most now) (hl : l.length ≤ 100000) :
    Calls Try.prog 16 #[.pointer (some ⟨m, 0, none⟩)] w (RPopL F w m l most now) := by
  obtain ⟨v, h⟩ := h
  obtain ⟨A, c, rfl, hc⟩ := h.row.form
  have e0 := h.cell0
  have e1 := h.cell1
  have e2 := h.cell2
  have f1 := h.frozen 1
  have f2 := h.frozen 2
  have hm := blk_lt h.head
  have HH := hid h
  cases l with
  | nil =>
    clear h
    simp only [List.length_nil] at e2 hc
    go_enter Try.func16, Try.ntmps16
    go_wp2
    refine bodyPost_ret (results16 _ _ w.heap.size _ rfl (heap_alloc_new w _) rfl) rfl ?_
    exact ⟨(Touch.refl _ _).alloc _, fun _ => ⟨rfl, _, HH.out.below (balloc (Below.refl _ w) _)⟩, fun p r h => by cases h⟩
  | cons p r =>
    obtain ⟨g, off, rfl, k1, k2, k3, k4⟩ := h.row.item (j := 0) (by simp)
    clear h k3
    simp only [List.length_cons, List.getElem_cons_zero, Nat.zero_mul, Nat.add_zero] at e2 hc k1 k2 hl
    have hn0 : (0 : Int) < (r.length : Int) + 1 := by omega
    by_cases hc1 : c = 1
    · subst hc1
      obtain rfl : r = [] := List.eq_nil_of_length_eq_zero (by omega)
      have hR := HH.out.pop (.slice (some ⟨g, off, none⟩) 0 0) rfl
      go_enter Try.func16, Try.ntmps16
      go_wp2
      refine bodyPost_ret (results16 _ _ w.heap.size #[.int .i64 p.1, .int .i64 p.2] rfl (blk2 (by simp [World.setCell])) rfl) rfl ?_
      exact ⟨((((Touch.refl _ _).setCell (p := ⟨m, 2, none⟩) (.inl HH.out.fm) _).setCell (p := ⟨m, 1, none⟩) (.inl HH.out.fm) _).alloc _).alloc _, (fun h => by cases h), fun p' r' h => by cases h; exact ⟨rfl, _, hR.below (balloc (balloc (Below.refl _ _) _) _)⟩⟩
    · have hR := HH.out.pop (.slice (some ⟨g, off + 2, none⟩) r.length (c - 1)) (by rw [if_neg hc1])
      go_enter Try.func16, Try.ntmps16
      go_wp2
      refine bodyPost_ret (results16 _ _ w.heap.size #[.int .i64 p.1, .int .i64 p.2] rfl (blk2 (by simp [World.setCell])) rfl) rfl ?_
      exact ⟨((((Touch.refl _ _).setCell (p := ⟨m, 2, none⟩) (.inl HH.out.fm) _).setCell (p := ⟨m, 1, none⟩) (.inl HH.out.fm) _).alloc _).alloc _, (fun h => by cases h), fun p' r' h => by cases h; exact ⟨rfl, _, hR.below (balloc (balloc (Below.refl _ _) _) _)⟩⟩
end Go.Proofs.Ytmbpdboengaclaa
