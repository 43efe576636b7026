/- The program's queue and the reference's, side by side. -/
import Derived.Test.YtmbpdboengaclaaQs
namespace Go.Proofs.Ytmbpdboengaclaa
set_option linter.unusedVariables false
set_option linter.unusedSimpArgs false
open Go.RowKit
structure Two (B : Nat) (F G : Nat → Prop) (w : World) (q m : Nat) (l1 : List (Int × Int)) (n1 : Int) (l2 : List (Int × Int)) (n2 top : Int) : Prop where
  hq : QL F w q l1 top n1
  hm : RL G w m l2 top n2
  ap : ∀ k, F k → ¬ G k
  fb : ∀ k, F k → B ≤ k ∧ k < w.heap.size
  gb : ∀ k, G k → B ≤ k ∧ k < w.heap.size
/-- what a push answers, and what is in behind it -/
def pc (n top c : Int) : Int := if c < n ∨ top < c then 2 else 0
def pl (n top c v : Int) (l : List (Int × Int)) : List (Int × Int) := if c < n ∨ top < c then l else ins c v l
def hd : List (Int × Int) → Int × Int
  | [] => (0, 0)
  | p :: _ => p
def qc : List (Int × Int) → Int
  | [] => 10
  | _ :: _ => 0
def nw (n : Int) : List (Int × Int) → Int
  | [] => n
  | p :: _ => p.1
theorem pl_le (n top c v : Int) (l : List (Int × Int)) : (pl n top c v l).length ≤ l.length + 1 := by
  unfold pl
  split
  · omega
  · rw [ins_length]; exact Nat.le_refl _
theorem ins_sorted {c v : Int} : ∀ {l : List (Int × Int)}, l.Pairwise (fun a b => a.1 ≤ b.1) → (ins c v l).Pairwise (fun a b => a.1 ≤ b.1)
  | [], _ => by simp [ins]
  | a :: r, h => by
    rw [List.pairwise_cons] at h
    rw [ins]
    split
    · rename_i hc
      rw [List.pairwise_cons]
      refine ⟨fun b hb => ?_, ins_sorted h.2⟩
      have hmem : ∀ {l : List (Int × Int)}, b ∈ ins c v l → b = (c, v) ∨ b ∈ l := by
        intro l
        induction l with
        | nil => intro h; rw [ins] at h; exact .inl (by simpa using h)
        | cons x xs ih =>
          intro h
          rw [ins] at h
          split at h
          · rcases List.mem_cons.1 h with h | h
            · exact .inr (by simp [h])
            · rcases ih h with h | h
              · exact .inl h
              · exact .inr (by simp [h])
          · rcases List.mem_cons.1 h with h | h
            · exact .inl h
            · exact .inr h
      rcases hmem hb with rfl | hb
      · exact hc
      · exact h.1 b hb
    · rename_i hc
      rw [List.pairwise_cons]
      refine ⟨fun b hb => ?_, List.pairwise_cons.2 h⟩
      rcases List.mem_cons.1 hb with rfl | hb
      · dsimp only; omega
      · have := h.1 b hb
        dsimp only
        omega
theorem pl_sorted {n top c v : Int} {l : List (Int × Int)} (h : l.Pairwise (fun a b => a.1 ≤ b.1)) : (pl n top c v l).Pairwise (fun a b => a.1 ≤ b.1) := by
  unfold pl
  split
  · exact h
  · exact ins_sorted h
section
variable {B : Nat} {F G : Nat → Prop} {w w' : World} {q m : Nat} {l1 l2 : List (Int × Int)} {n1 n2 top : Int}
theorem Two.below (h : Two B F G w q m l1 n1 l2 n2 top) (hb : Below w.heap.size w w') : Two B F G w' q m l1 n1 l2 n2 top :=
  ⟨h.hq.below hb, h.hm.below hb, h.ap, fun k hk => ⟨(h.fb k hk).1, Nat.lt_of_lt_of_le (h.fb k hk).2 hb.size⟩, fun k hk => ⟨(h.gb k hk).1, Nat.lt_of_lt_of_le (h.gb k hk).2 hb.size⟩⟩
theorem Two.drew (h : Two B F G w q m l1 n1 l2 n2 top) (n : Nat) : Two B F G (w.drewN n) q m l1 n1 l2 n2 top := h.below ⟨rfl, rfl, rfl, Nat.le_refl _, fun _ _ => rfl⟩
def TPush (B : Nat) (F G : Nat → Prop) (w : World) (q m : Nat) (l1 : List (Int × Int)) (n1 : Int) (l2 : List (Int × Int)) (n2 top c v : Int) (e : Ending) (w' : World) : Prop :=
  e = .returned (.int .i64 (pc n1 top c)) ∧ (∃ F', Two B F' G w' q m (pl n1 top c v l1) n1 l2 n2 top ∧ ∀ k, F' k → F k ∨ w.heap.size ≤ k) ∧ Touch F w w'
theorem two_push (h : Two B F G w q m l1 n1 l2 n2 top) (hB : B ≤ w.heap.size) (hl : l1.length ≤ 100000) (c v : Int) :
    Calls Try.prog 11 #[.pointer (some ⟨q, 0, none⟩), .int .i64 c, .int .i64 v] w (TPush B F G w q m l1 n1 l2 n2 top c v) := by
  have hq : QL (fun k => F k ∨ w.heap.size ≤ k) w q l1 top n1 := h.hq.mono fun k hk => .inl hk
  refine (push_l hq (fun k hk => .inr hk) hl c v).mono ?_
  rintro e w' ⟨p1, p2⟩
  by_cases hc : c < n1 ∨ top < c
  · obtain ⟨rfl, rfl⟩ := p1 hc
    exact ⟨by rw [pc, if_pos hc], ⟨F, by rw [pl, if_pos hc]; exact h, fun k hk => .inl hk⟩, Touch.refl _ _⟩
  · obtain ⟨rfl, hq', ht⟩ := p2 (by omega) (by omega)
    have ht2 : Touch F w w' := ⟨ht.os, ht.tape, ht.output, ht.size, fun k hk hf => ht.block k hk (fun h => by rcases h with h | h; exact hf h; omega)⟩
    refine ⟨by rw [pc, if_neg hc], ⟨fun k => (F k ∨ w.heap.size ≤ k) ∧ k < w'.heap.size, ⟨by rw [pl, if_neg hc]; exact hq'.bound, h.hm.touch ht2 (fun k hk hf => h.ap k hf hk), fun k hk hg => ?_, fun k hk => ⟨?_, hk.2⟩, fun k hk => ⟨(h.gb k hk).1, Nat.lt_of_lt_of_le (h.gb k hk).2 ht.size⟩⟩, fun k hk => hk.1⟩, ht2⟩
    · rcases hk.1 with h1 | h1
      · exact h.ap k h1 hg
      · have := (h.gb k hg).2; omega
    · rcases hk.1 with h1 | h1
      · exact (h.fb k h1).1
      · omega
def TRPush (B : Nat) (F G : Nat → Prop) (w : World) (q m : Nat) (l1 : List (Int × Int)) (n1 : Int) (l2 : List (Int × Int)) (n2 top c v : Int) (e : Ending) (w' : World) : Prop :=
  e = .returned (.int .i64 (pc n2 top c)) ∧ (∃ G', Two B F G' w' q m l1 n1 (pl n2 top c v l2) n2 top ∧ ∀ k, G' k → G k ∨ w.heap.size ≤ k) ∧ Touch G w w'
theorem two_rpush (h : Two B F G w q m l1 n1 l2 n2 top) (hB : B ≤ w.heap.size) (hl : l2.length ≤ 100000) (hs : l2.Pairwise fun a b => a.1 ≤ b.1) (c v : Int) :
    Calls Try.prog 15 #[.pointer (some ⟨m, 0, none⟩), .int .i64 c, .int .i64 v] w (TRPush B F G w q m l1 n1 l2 n2 top c v) := by
  have hq : RL (fun k => G k ∨ w.heap.size ≤ k) w m l2 top n2 := h.hm.mono fun k hk => .inl hk
  refine (rpush_l hq (fun k hk => .inr hk) hl hs c v).mono ?_
  rintro e w' ⟨p1, p2⟩
  by_cases hc : c < n2 ∨ top < c
  · obtain ⟨rfl, rfl⟩ := p1 hc
    exact ⟨by rw [pc, if_pos hc], ⟨G, by rw [pl, if_pos hc]; exact h, fun k hk => .inl hk⟩, Touch.refl _ _⟩
  · obtain ⟨rfl, hq', ht⟩ := p2 (by omega) (by omega)
    have ht2 : Touch G w w' := ⟨ht.os, ht.tape, ht.output, ht.size, fun k hk hf => ht.block k hk (fun h => by rcases h with h | h; exact hf h; omega)⟩
    refine ⟨by rw [pc, if_neg hc], ⟨fun k => (G k ∨ w.heap.size ≤ k) ∧ k < w'.heap.size, ⟨h.hq.touch ht2 (fun k hk hf => h.ap k hk hf), by rw [pl, if_neg hc]; exact hq'.bound, fun k hk hg => ?_, fun k hk => ⟨(h.fb k hk).1, Nat.lt_of_lt_of_le (h.fb k hk).2 ht.size⟩, fun k hk => ⟨?_, hk.2⟩⟩, fun k hk => hk.1⟩, ht2⟩
    · rcases hg.1 with h1 | h1
      · exact h.ap k hk h1
      · have := (h.fb k hk).2; omega
    · rcases hk.1 with h1 | h1
      · exact (h.gb k h1).1
      · omega
def TPop (B : Nat) (F G : Nat → Prop) (w : World) (q m : Nat) (l1 : List (Int × Int)) (n1 : Int) (l2 : List (Int × Int)) (n2 top : Int) (e : Ending) (w' : World) : Prop :=
  e = .returned (.tuple #[.agg #[.int .i64 (hd l1).1, .int .i64 (hd l1).2], .int .i64 (qc l1)]) ∧ Two B F G w' q m l1.tail (nw n1 l1) l2 n2 top ∧ Touch F w w'
theorem two_pop (h : Two B F G w q m l1 n1 l2 n2 top) (hl : l1.length ≤ 100000) : Calls Try.prog 12 #[.pointer (some ⟨q, 0, none⟩)] w (TPop B F G w q m l1 n1 l2 n2 top) := by
  refine (pop_l h.hq hl).mono ?_
  rintro e w' ⟨ht, p1, p2⟩
  have hm := h.hm.touch ht (fun k hk hf => h.ap k hf hk)
  have hf : ∀ k, F k → B ≤ k ∧ k < w'.heap.size := fun k hk => ⟨(h.fb k hk).1, Nat.lt_of_lt_of_le (h.fb k hk).2 ht.size⟩
  have hg : ∀ k, G k → B ≤ k ∧ k < w'.heap.size := fun k hk => ⟨(h.gb k hk).1, Nat.lt_of_lt_of_le (h.gb k hk).2 ht.size⟩
  cases l1 with
  | nil =>
    obtain ⟨rfl, hq⟩ := p1 rfl
    exact ⟨rfl, ⟨hq, hm, h.ap, hf, hg⟩, ht⟩
  | cons p r =>
    obtain ⟨rfl, hq, _⟩ := p2 p r rfl
    exact ⟨rfl, ⟨hq, hm, h.ap, hf, hg⟩, ht⟩
def TRPop (B : Nat) (F G : Nat → Prop) (w : World) (q m : Nat) (l1 : List (Int × Int)) (n1 : Int) (l2 : List (Int × Int)) (n2 top : Int) (e : Ending) (w' : World) : Prop :=
  e = .returned (.tuple #[.agg #[.int .i64 (hd l2).1, .int .i64 (hd l2).2], .int .i64 (qc l2)]) ∧ Two B F G w' q m l1 n1 l2.tail (nw n2 l2) top ∧ Touch G w w'
theorem two_rpop (h : Two B F G w q m l1 n1 l2 n2 top) (hl : l2.length ≤ 100000) : Calls Try.prog 16 #[.pointer (some ⟨m, 0, none⟩)] w (TRPop B F G w q m l1 n1 l2 n2 top) := by
  refine (rpop_l h.hm hl).mono ?_
  rintro e w' ⟨ht, p1, p2⟩
  have hm := h.hq.touch ht (fun k hk hf => h.ap k hk hf)
  have hf : ∀ k, F k → B ≤ k ∧ k < w'.heap.size := fun k hk => ⟨(h.fb k hk).1, Nat.lt_of_lt_of_le (h.fb k hk).2 ht.size⟩
  have hg : ∀ k, G k → B ≤ k ∧ k < w'.heap.size := fun k hk => ⟨(h.gb k hk).1, Nat.lt_of_lt_of_le (h.gb k hk).2 ht.size⟩
  cases l2 with
  | nil =>
    obtain ⟨rfl, hq⟩ := p1 rfl
    exact ⟨rfl, ⟨hm, hq, h.ap, hf, hg⟩, ht⟩
  | cons p r =>
    obtain ⟨rfl, hq⟩ := p2 p r rfl
    exact ⟨rfl, ⟨hm, hq, h.ap, hf, hg⟩, ht⟩
def AllP (l : List (Int × Int)) (w : World) (e : Ending) (w' : World) : Prop :=
  ∃ A c, e = .returned (.slice A l.length c) ∧ SL w' 31 2 (.slice A l.length c) l.length (cellsI l) ∧ (∀ k, (Value.slice A l.length c).ownBlock = some k → w.heap.size ≤ k) ∧ Below w.heap.size w w'
theorem all_p {F : Nat → Prop} {w : World} {q : Nat} {l : List (Int × Int)} {most now : Int} (h : QL F w q l most now) (hl : l.length ≤ 100000) : Calls Try.prog 19 #[.pointer (some ⟨q, 0, none⟩)] w (AllP l w) := by
  refine (all_l h hl).mono ?_
  rintro e w' ⟨v, rfl, ho, -, hb⟩
  obtain ⟨A, c, rfl, hc⟩ := (SL.of_own ho).form
  exact ⟨A, c, rfl, SL.of_own ho, ownsRow_ge ho, hb⟩
end
end Go.Proofs.Ytmbpdboengaclaa
