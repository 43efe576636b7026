/- The contracts of bucket's functions, said of the list of items. -/
import Derived.Test.YtmbpdboengaclaaQp
namespace Go.Proofs.Ytmbpdboengaclaa
open Go.RowKit
/-- Queue q holds the items l, as they come; it takes costs from now to most. -/
def QL (F : Nat → Prop) (w : World) (q : Nat) (l : List (Int × Int)) (most now : Int) : Prop :=
  ∃ (bs : List (List Int)) (cnt : Int) (nw : Nat), QAt F w q bs most cnt nw ∧ items bs nw = l ∧ cnt = l.length ∧ now = (nw : Int) ∧ bs.length ≤ 4352 ∧ (∀ i, i < nw → row bs i = []) ∧ nw ≤ 4351 ∧ most ≤ 4351
section
variable {F G : Nat → Prop} {w w' : World} {q : Nat} {l : List (Int × Int)} {most now : Int}
theorem QL.touch (h : QL F w q l most now) (ht : Touch G w w') (hg : ∀ k, F k → ¬ G k) : QL F w' q l most now := by
  obtain ⟨bs, cnt, nw, h1, r⟩ := h
  exact ⟨bs, cnt, nw, h1.touch ht hg, r⟩
theorem QL.below (h : QL F w q l most now) (ht : Below w.heap.size w w') : QL F w' q l most now := by
  obtain ⟨bs, cnt, nw, h1, r⟩ := h
  exact ⟨bs, cnt, nw, h1.below ht, r⟩
theorem QL.mono (h : QL F w q l most now) (hf : ∀ k, F k → G k) : QL G w q l most now := by
  obtain ⟨bs, cnt, nw, h1, r⟩ := h
  exact ⟨bs, cnt, nw, h1.mono hf, r⟩
theorem QL.bound (h : QL F w q l most now) : QL (fun k => F k ∧ k < w.heap.size) w q l most now := by
  obtain ⟨bs, cnt, nw, h1, r⟩ := h
  exact ⟨bs, cnt, nw, h1.bound, r⟩
theorem QL.lt (h : QL F w q l most now) : q < w.heap.size := by
  obtain ⟨bs, cnt, nw, h1, r⟩ := h
  exact h1.lt
theorem QL.fq (h : QL F w q l most now) : F q := by
  obtain ⟨bs, cnt, nw, h1, r⟩ := h
  exact h1.fq
theorem QL.now1 (h : QL F w q l most now) : now ≤ 4351 := by
  obtain ⟨bs, cnt, nw, _, _, _, h1, _, _, h2, _⟩ := h
  omega
theorem QL.now0 (h : QL F w q l most now) : 0 ≤ now := by
  obtain ⟨bs, cnt, nw, _, _, _, h1, _⟩ := h
  omega
end
def PushL (F : Nat → Prop) (w : World) (q : Nat) (l : List (Int × Int)) (most now c v : Int) (e : Ending) (w' : World) : Prop :=
  (c < now ∨ most < c → e = .returned (.int .i64 2) ∧ w = w') ∧
  (now ≤ c → c ≤ most → e = .returned (.int .i64 0) ∧ QL F w' q (ins c v l) most now ∧ Touch F w w')
theorem push_l {F : Nat → Prop} {w : World} {q : Nat} {l : List (Int × Int)} {most now : Int} (h : QL F w q l most now) (hF : ∀ k, w.heap.size ≤ k → F k) (hl : l.length ≤ 100000) (c v : Int) :
    Calls Try.prog 11 #[.pointer (some ⟨q, 0, none⟩), .int .i64 c, .int .i64 v] w (PushL F w q l most now c v) := by
  obtain ⟨bs, cnt, nw, h1, h2, h3, h4, h5, h6, h7, h8⟩ := h
  refine (push_any h1 hF c v (by omega) h8 h5 (by omega) (by omega) (fun i => Nat.le_trans (row_le_items h6 i) (by rw [h2]; exact hl))).mono ?_
  rintro e w' ⟨p1, p2⟩
  subst h4
  refine ⟨p1, fun hn hc => ?_⟩
  obtain ⟨rfl, hq, ht⟩ := p2 ⟨hn, hc⟩
  obtain ⟨n, rfl⟩ : ∃ n : Nat, c = n := ⟨c.toNat, by omega⟩
  refine ⟨rfl, ⟨_, _, nw, hq, ?_, ?_, rfl, ?_, fun i hi => ?_, h7, h8⟩, ht⟩
  · rw [Int.toNat_natCast, items_push (L := 4352) h5 (by omega) (by omega), h2]
  · rw [ins_length, h3]; simp
  · rw [Int.toNat_natCast, pushB_length]; omega
  · rw [Int.toNat_natCast, row_push, if_neg (by omega), h6 i hi]
def PopL (F : Nat → Prop) (w : World) (q : Nat) (l : List (Int × Int)) (most now : Int) (e : Ending) (w' : World) : Prop :=
  Touch F w w' ∧ (l = [] → e = .returned (.tuple #[.agg #[.int .i64 0, .int .i64 0], .int .i64 10]) ∧ QL F w' q l most now) ∧
  (∀ p r, l = p :: r → e = .returned (.tuple #[.agg #[.int .i64 p.1, .int .i64 p.2], .int .i64 0]) ∧ QL F w' q r most p.1 ∧ now ≤ p.1)
theorem pop_l {F : Nat → Prop} {w : World} {q : Nat} {l : List (Int × Int)} {most now : Int} (h : QL F w q l most now) (hl : l.length ≤ 100000) :
    Calls Try.prog 12 #[.pointer (some ⟨q, 0, none⟩)] w (PopL F w q l most now) := by
  obtain ⟨bs, cnt, nw, h1, h2, h3, h4, h5, h6, h7, h8⟩ := h
  obtain ⟨bv, rvs, h1⟩ := h1.bound
  refine (callsIn_wide.1 (pop_in Fence.wide 6 trivial trivial trivial rfl (Nat.le_refl _) h1 (fun k hk => hk.2) (by omega) (by omega) (by omega) (by omega))).mono ?_
  rintro e w' ⟨ht, p1, p2⟩
  subst h4
  refine ⟨ht.mono fun k hk => hk.1, fun hn => ?_, fun p r hp => ?_⟩
  · have hf : fullTo bs nw bs.length = [] := by
      cases hf : fullTo bs nw bs.length with
      | nil => rfl
      | cons c l' =>
        obtain ⟨v, r, hr, _⟩ := p2 c l' hf
        rw [items_pop hf hr, hn] at h2
        cases h2
    obtain ⟨he, hq⟩ := p1 hf
    exact ⟨he, ⟨bs, cnt, nw, hq.mono fun k hk => hk.1, h2, h3, rfl, h5, h6, h7, h8⟩⟩
  · cases hf : fullTo bs nw bs.length with
    | nil =>
      rw [items_nil hf, hp] at h2
      cases h2
    | cons c l' =>
      obtain ⟨v, r', hr, he, hq⟩ := p2 c l' hf
      obtain ⟨f1, f2, f3, f4⟩ := fullTo_first hf
      rw [items_pop hf hr, hp] at h2
      obtain ⟨rfl, h2'⟩ := List.cons.inj h2
      refine ⟨he, ⟨_, _, c, hq.mono fun k hk => hk.1, h2', ?_, rfl, by simp; exact h5, fun i hi => ?_, by omega, h8⟩, by dsimp only; omega⟩
      · rw [h3, hp]; simp
      · rw [row_set _ _ _ _ f2, if_neg (by omega)]
        rcases Nat.lt_or_ge i nw with h | h
        · exact h6 i h
        · exact f4 i hi h
theorem len_l {F : Nat → Prop} {w : World} {q : Nat} {l : List (Int × Int)} {most now : Int} (h : QL F w q l most now) : Calls Try.prog 14 #[.pointer (some ⟨q, 0, none⟩)] w fun e w' => e = .returned (.int .i64 (l.length : Int)) ∧ w = w' := by
  obtain ⟨bs, cnt, nw, h1, h2, h3, h4, r⟩ := h
  rw [← h3]
  exact len_any h1
theorem now_l {F : Nat → Prop} {w : World} {q : Nat} {l : List (Int × Int)} {most now : Int} (h : QL F w q l most now) : Calls Try.prog 13 #[.pointer (some ⟨q, 0, none⟩)] w fun e w' => e = .returned (.int .i64 now) ∧ w = w' := by
  obtain ⟨bs, cnt, nw, h1, h2, h3, h4, r⟩ := h
  rw [h4]
  exact now_any h1
theorem all_l {F : Nat → Prop} {w : World} {q : Nat} {l : List (Int × Int)} {most now : Int} (h : QL F w q l most now) (hl : l.length ≤ 100000) :
    Calls Try.prog 19 #[.pointer (some ⟨q, 0, none⟩)] w fun e w' => ∃ v, e = .returned v ∧ w'.ownsRow w.heap.size 31 2 v l.length (cellsI l) ∧ (v = .slice none 0 0 ↔ l = []) ∧ Below w.heap.size w w' := by
  obtain ⟨bs, cnt, nw, h1, h2, h3, h4, h5, h6, h7, h8⟩ := h
  obtain ⟨bv, rvs, h1⟩ := h1.bound
  refine (callsIn_wide.1 (all_in Fence.wide 8 trivial trivial trivial trivial trivial rfl (Nat.le_refl _) h1 (fun k hk => hk.2) (by omega) (by omega) (fun i => Nat.le_trans (row_le_items h6 i) (by rw [h2]; exact hl)))).mono ?_
  rintro e w' ⟨v, he, ho, hn, hb⟩
  rw [h2] at ho hn
  exact ⟨v, he, ho, hn, hb⟩
def NewL (m : Int) (w : World) (e : Ending) (w' : World) : Prop :=
  (m < 0 ∨ 4351 < m → e = .returned (.tuple #[.pointer none, .int .i64 2]) ∧ w = w') ∧
  (0 ≤ m → m ≤ 4351 → e = .returned (.tuple #[.pointer (some ⟨w.heap.size, 0, none⟩), .int .i64 0]) ∧ QL (fun k => w.heap.size ≤ k) w' w.heap.size [] m 0 ∧ Below w.heap.size w w')
theorem new_l (m : Int) (w : World) : Calls Try.prog 10 #[.int .i64 m] w (NewL m w) := by
  refine (new_any m w).mono ?_
  rintro e w' ⟨p1, p2⟩
  refine ⟨fun h => ⟨(p1 h).1, (p1 h).2.symm⟩, fun h0 h1 => ?_⟩
  obtain ⟨he, hq, hb⟩ := p2 ⟨h0, h1⟩
  exact ⟨he, ⟨[], 0, 0, hq, rfl, rfl, rfl, by simp, fun i hi => absurd hi (by omega), by omega, h1⟩, hb⟩
set_option maxRecDepth 100000 in
set_option maxHeartbeats 400000 in
/-- a push into no queue -/
theorem push_nil (c v : Int) (w : World) : Calls Try.prog 11 #[.pointer none, .int .i64 c, .int .i64 v] w fun e w' => e = .returned (.int .i64 1) ∧ w = w' := by
  go_enter Try.func11, Try.ntmps11
  go_wp2
  go_ret
  exact ⟨rfl, rfl⟩
end Go.Proofs.Ytmbpdboengaclaa
