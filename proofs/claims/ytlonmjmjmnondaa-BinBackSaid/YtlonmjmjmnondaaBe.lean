/- The Writer's methods, walked. -/
import Derived.Test.YtlonmjmjmnondaaBd
import Derived.StillTailTactics
import Derived.Test.YtlonmjmjmnondaaWLast
namespace Go.Proofs.Ytlonmjmjmnondaa
set_option linter.unusedVariables false
set_option linter.unusedSimpArgs false
open Go.RowKit
open Go.Proofs.YtlonmjmjmnondaaW.PrintLast
attribute [local go_sem ↓] Go.wp_at_zero Go.wp_at_succ
/-- a Writer (or a Reader) at block p: its one field is a slice of these bytes -/
structure WrAt (t : TypeId) (F : Nat → Prop) (w : World) (p : Nat) (v : Value) (xs : List Int) : Prop where
  head : w.heap[p]? = some (.cells #[v] t (0, 0))
  bs : BS w v xs
  fp : F p
  fv : ∀ k, v.ownBlock = some k → F k
def WL (t : TypeId) (F : Nat → Prop) (w : World) (p : Nat) (xs : List Int) : Prop := ∃ v, WrAt t F w p v xs
section
variable {t : TypeId} {F G : Nat → Prop} {w w' : World} {p : Nat} {v : Value} {xs : List Int}
theorem WrAt.keep (h : WrAt t F w p v xs) (hk : ∀ k, F k → k < w.heap.size → w'.heap[k]? = w.heap[k]?) : WrAt t F w' p v xs :=
  ⟨(hk p h.fp (blk_lt h.head)).trans h.head, h.bs.keep fun k hk' => hk k (h.fv k hk') (h.bs.lt k hk'), h.fp, h.fv⟩
theorem WrAt.cell (h : WrAt t F w p v xs) : w.cell? ⟨p, 0, none⟩ = some v := by rw [cell_of_row w p 0 _ _ _ h.head]; rfl
theorem WrAt.frozen (h : WrAt t F w p v xs) : w.frozen? ⟨p, 0, none⟩ = false := frozen_of_row w p 0 _ _ h.head
theorem WrAt.ne (h : WrAt t F w p v xs) (ht : t ≠ 5) : ∀ k, v.ownBlock = some k → k ≠ p := fun k hk e => by
  obtain ⟨cur, hc⟩ := SL.typed h.bs k hk
  rw [e, h.head] at hc
  simp at hc
  exact ht hc.2
theorem WL.keep (h : WL t F w p xs) (hk : ∀ k, F k → k < w.heap.size → w'.heap[k]? = w.heap[k]?) : WL t F w' p xs := by
  obtain ⟨v, h⟩ := h
  exact ⟨v, h.keep hk⟩
theorem WL.touch (h : WL t F w p xs) (ht : Touch G w w') (hg : ∀ k, F k → ¬ G k) : WL t F w' p xs := h.keep fun k hk hl => ht.block k hl (hg k hk)
theorem WL.below (h : WL t F w p xs) (ht : Below w.heap.size w w') : WL t F w' p xs := h.keep fun k _ hl => ht.block k hl
theorem WL.mono (h : WL t F w p xs) (hf : ∀ k, F k → G k) : WL t G w p xs := by
  obtain ⟨v, h⟩ := h
  exact ⟨v, h.head, h.bs, hf _ h.fp, fun k hk => hf _ (h.fv k hk)⟩
theorem WL.bound (h : WL t F w p xs) : WL t (fun k => F k ∧ k < w.heap.size) w p xs := by
  obtain ⟨v, h⟩ := h
  exact ⟨v, h.head, h.bs, ⟨h.fp, blk_lt h.head⟩, fun k hk => ⟨h.fv k hk, h.bs.lt k hk⟩⟩
theorem WL.lt (h : WL t F w p xs) : p < w.heap.size := by
  obtain ⟨v, h⟩ := h
  exact blk_lt h.head
theorem WL.fp (h : WL t F w p xs) : F p := by
  obtain ⟨v, h⟩ := h
  exact h.fp
/-- a new slice in the field -/
theorem WrAt.put {ys : List Int} {v' : Value} (hp : w.heap[p]? = some (.cells #[v] t (0, 0))) (ht : t ≠ 5) (hb : BS w v' ys) (fp : F p) (fv : ∀ k, v'.ownBlock = some k → F k) : WrAt t F (w.setCell ⟨p, 0, none⟩ v') p v' ys :=
  ⟨heap_setCell_same w p 0 _ _ _ hp, SL.far hb (fun k hk e => by
    obtain ⟨cur, hc⟩ := SL.typed hb k hk
    have e2 : k = p := e
    rw [e2, hp] at hc
    simp at hc
    exact ht hc.2) _, fp, fv⟩
end
theorem info25 : (Try.prog.info? 25).map (·.size) = some 1 := by kernel_rfl
def NumP (F : Nat → Prop) (w : World) (p : Nat) (xs : List Int) (n : Int) (e : Ending) (w' : World) : Prop :=
  (n < 0 ∨ 1073741824 < n → e = .returned (.int .i64 2) ∧ w = w') ∧
  (0 ≤ n → n ≤ 1073741824 → e = .returned (.int .i64 0) ∧ WL 27 F w' p (xs ++ encN n.toNat) ∧ Touch F w w')
set_option maxRecDepth 100000 in
set_option maxHeartbeats 1000000 in
theorem num_nil (n : Int) (w : World) : Calls Try.prog 15 #[.pointer none, .int .i64 n] w fun e w' => e = .returned (.int .i64 1) ∧ w = w' := by
  go_enter Try.func15, Try.ntmps15
  go_wp2
  go_ret
  exact ⟨rfl, rfl⟩
set_option maxRecDepth 100000 in
set_option maxHeartbeats 2000000 in
theorem num_w {F : Nat → Prop} {w : World} {p : Nat} {xs : List Int} (h : WL 27 F w p xs) (hF : ∀ k, w.heap.size ≤ k → F k) (hl : xs.length ≤ 100000000) (n : Int) :
    Calls Try.prog 15 #[.pointer (some ⟨p, 0, none⟩), .int .i64 n] w (NumP F w p xs n) := by
  obtain ⟨v, h⟩ := h
  obtain ⟨A, c, rfl, hc⟩ := h.bs.form
  have e0 := h.cell
  have f0 := h.frozen
  have hp := blk_lt h.head
  by_cases hn : n < 0 ∨ 1073741824 < n
  · rcases hn with hn | hn
    all_goals
      go_enter Try.func15, Try.ntmps15
      go_wp2
      go_ret
      exact ⟨fun _ => ⟨rfl, rfl⟩, fun h1 h2 => by omega⟩
  · obtain ⟨m, rfl⟩ : ∃ m : Nat, n = m := ⟨n.toNat, by omega⟩
    have hm : m ≤ 1073741824 := by omega
    have hm2 : (m : Int) ≤ 1073741824 := by omega
    have HH := hid h
    have HF := hid hF
    have HBn : Hid ((w.drew.alloc (.cells #[.int .i64 (m : Int)] 3)).heap[w.heap.size]? = some (.cells #[.int .i64 (m : Int)] 3 (0, 0))) := hid (heap_alloc_new w.drew _)
    have HBS : Hid (BS (w.drew.alloc (.cells #[.int .i64 (m : Int)] 3)) (.slice A xs.length c) xs) := hid ((h.bs.drewN 1).alloc _)
    have HPp : Hid ((w.drew.alloc (.cells #[.int .i64 (m : Int)] 3)).heap[p]? = some (.cells #[.slice A xs.length c] 27 (0, 0))) := hid ((Below.heap_alloc w.drew _ p hp).trans h.head)
    have HNe := hid (h.ne (by decide))
    have e1 : (w.drew.alloc (.cells #[.int .i64 (m : Int)] 3)).cell? ⟨p, 0, none⟩ = some (.slice A xs.length c) := by rw [cell_of_row _ p 0 _ _ _ HPp.out]; rfl
    clear h hF
    go_enter Try.func15, Try.ntmps15
    go_wp2
    refine start_ (ds := [10]) (S := fun w' => w'.cell? ⟨p, 0, none⟩ = some (.slice A xs.length c)) #[false, false, false, false, false, false, false, false, false, false, false] (by kernel_rfl) (by rfl) (by rfl) e0 (fun hHeld => ?_)
    refine pure_ (i := 0) (N := (some 15)) (v := ?_) (a' := ?_) #[true, false, false, false, false, false, false, false, false, false, false] rfl rfl (by kernel_rfl) (fun _ _ _ h => h) (Or.inl ⟨by rfl, ?_⟩) ?_ ?_
    rotate_left
    · intro w'
      go_simp
      with_reducible rfl
    rotate_left
    · simp only [Act.put, List.setIfInBounds_toArray, List.set_cons_zero, List.set_cons_succ]
      rfl
    refine pure_ (i := 1) (N := (some 16)) (v := ?_) (a' := ?_) #[true, true, false, false, false, false, false, false, false, false, false] rfl rfl (by kernel_rfl) (fun _ _ _ h => h) (Or.inl ⟨by rfl, ?_⟩) ?_ ?_
    rotate_left
    · intro w'
      go_simp
      with_reducible rfl
    rotate_left
    · simp only [Act.put, List.setIfInBounds_toArray, List.set_cons_zero, List.set_cons_succ]
      rfl
    refine pure_ (i := 2) (N := (some 17)) (v := ?_) (a' := ?_) #[true, true, true, false, false, false, false, false, false, false, false] rfl rfl (by kernel_rfl) (fun _ _ _ h => h) (Or.inl ⟨by rfl, ?_⟩) ?_ ?_
    rotate_left
    · intro w'
      go_simp
      with_reducible rfl
    rotate_left
    · simp only [Act.put, List.setIfInBounds_toArray, List.set_cons_zero, List.set_cons_succ]
      rfl
    refine pure_ (i := 3) (N := (some 18)) (v := ?_) (a' := ?_) #[true, true, true, true, false, false, false, false, false, false, false] rfl rfl (by kernel_rfl) (fun _ _ _ h => h) (Or.inl ⟨by rfl, ?_⟩) ?_ ?_
    rotate_left
    · intro w'
      go_simp
      with_reducible rfl
    rotate_left
    · simp only [Act.put, List.setIfInBounds_toArray, List.set_cons_zero, List.set_cons_succ]
      rfl
    refine take_ (i := 4) (N := (some 19)) (v := ?_) (a' := ?_) #[true, true, true, true, true, false, false, false, false, false, false] rfl rfl (by kernel_rfl) (fun _ _ _ h => h) (Or.inl ⟨by rfl, ?_⟩) hHeld ?_ ?_
    rotate_left
    · intro w' s0
      go_simp
      with_reducible rfl
    rotate_left
    · simp only [Act.put, List.setIfInBounds_toArray, List.set_cons_zero, List.set_cons_succ]
      rfl
    refine pure_ (i := 5) (N := (some 20)) (v := ?_) (a' := ?_) #[true, true, true, true, true, true, false, false, false, false, false] rfl rfl (by kernel_rfl) (fun _ _ _ h => h) (Or.inl ⟨by rfl, ?_⟩) ?_ ?_
    rotate_left
    · intro w'
      go_simp
      with_reducible rfl
    rotate_left
    · simp only [Act.put, List.setIfInBounds_toArray, List.set_cons_zero, List.set_cons_succ]
      rfl
    refine one_ (i := 6) (N := (some 21)) #[true, true, true, true, true, true, true, false, false, false, false] rfl rfl (by kernel_rfl) (by decide) (fun K hK => ?_)
    refine goes_ Try.func33 (by kernel_rfl) rfl #[.int .i64 (m : Int)] (by rfl) rfl rfl (by go_simp) ?_
    refine (callsIn_wide.1 (digits_in Fence.wide 6 trivial rfl _ _)).mono ?_
    rintro e w2 ⟨rfl, rfl⟩
    refine ⟨_, rfl, ?_⟩
    refine hK.out _ _ e1 (fun hHeld => ?_)
    clear hK K
    refine norm_ (a' := ?_) ?_ ?_
    rotate_left
    · simp only [Act.put, List.setIfInBounds_toArray, List.set_cons_zero, List.set_cons_succ]
      rfl
    refine one_ (i := 7) (N := (some 22)) #[true, true, true, true, true, true, true, true, false, false, false] rfl rfl (by kernel_rfl) (by decide) (fun K hK => ?_)
    refine goes_ Try.func32 (by kernel_rfl) rfl #[.slice A xs.length c, .func (.func 39) #[] #[.pointer (some ⟨w.heap.size, 0, none⟩)]] (by rfl) rfl rfl (by go_simp) ?_
    refine (callsIn_wide.1 (appseq_in Fence.wide 6 trivial trivial rfl (Nat.le_refl _) HBS.out hl w.heap.size m hm HBn.out)).mono ?_
    rintro e w3 ⟨A3, c3, rfl, hs3, ho3, ht3⟩
    refine ⟨_, rfl, ?_⟩
    have hp3 := (ht3.block p (by rw [World.size_alloc]; exact Nat.lt_succ_of_lt hp) (fun hk => by rcases hk with hk | hk; exact HNe.out p hk rfl; omega)).trans HPp.out
    have e3 : w3.cell? ⟨p, 0, none⟩ = some (.slice A xs.length c) := by rw [cell_of_row _ p 0 _ _ _ hp3]; rfl
    have f3 := frozen_of_row w3 p 0 _ _ hp3
    refine hK.out _ _ e3 (fun hHeld => ?_)
    clear hK K
    refine norm_ (a' := ?_) ?_ ?_
    rotate_left
    · simp only [Act.put, List.setIfInBounds_toArray, List.set_cons_zero, List.set_cons_succ]
      rfl
    refine pure_ (i := 8) (N := (some 23)) (v := ?_) (a' := ?_) #[true, true, true, true, true, true, true, true, true, false, false] rfl rfl (by kernel_rfl) (fun _ _ _ h => h) (Or.inl ⟨by rfl, ?_⟩) ?_ ?_
    rotate_left
    · intro w'
      go_simp
      with_reducible rfl
    rotate_left
    · simp only [Act.put, List.setIfInBounds_toArray, List.set_cons_zero, List.set_cons_succ]
      rfl
    refine pure_ (i := 9) (N := (some 24)) (v := ?_) (a' := ?_) #[true, true, true, true, true, true, true, true, true, true, false] rfl rfl (by kernel_rfl) (fun _ _ _ h => h) (Or.inl ⟨by rfl, ?_⟩) ?_ ?_
    rotate_left
    · intro w'
      go_simp
      with_reducible rfl
    rotate_left
    · simp only [Act.put, List.setIfInBounds_toArray, List.set_cons_zero, List.set_cons_succ]
      rfl
    refine last_ (i := 10) (N := none) #[true, true, true, true, true, true, true, true, true, true, true] rfl rfl (by kernel_rfl) (by decide) (fun K hK => ?_)
    refine step_store_cell (by rfl) 25 _ _ (by rfl) (by rfl) p 0 (by rfl) (.slice A3 (xs ++ encN m).length c3) _ (by rfl) e3 f3 info25 rfl ?_
    rintro W' hW'
    refine hK.out _ _ ?_
    clear hK K
    refine done_ (by kernel_rfl) ?_
    have hfin : WL 27 F W' p (xs ++ encN m) := by
      rw [hW']
      refine ⟨_, WrAt.put hp3 (by decide) hs3 HH.out.fp (fun k hk => ?_)⟩
      rcases ho3 k hk with h | h
      · exact HH.out.fv k h
      · exact HF.out k (by rw [World.size_alloc] at h; have : w.drew.heap.size = w.heap.size := rfl; omega)
    have ht : Touch F w W' := by
      rw [hW']
      refine ((((Touch.refl F w).drew).alloc _).trans ht3 (fun k hk => ?_)).setCell (p := ⟨p, 0, none⟩) (.inl HH.out.fp) _
      rcases hk with hk | hk
      · exact .inl (HH.out.fv k hk)
      · exact .inr (by omega)
    have HFI := hid hfin
    have HTT := hid ht
    clear hfin ht hW' hs3 ho3 ht3 hp3 e3 f3
    go_wp2
    go_ret
    exact ⟨fun h => by omega, fun _ _ => ⟨rfl, by rw [Int.toNat_natCast]; exact HFI.out, HTT.out⟩⟩
end Go.Proofs.Ytlonmjmjmnondaa
