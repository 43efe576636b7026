/- A slice of structs (SL) and the shelf's rows (HoldsK, putRowK, grow): from one to the other. -/
import Derived.Test.YteigplfldhdakaaGreatDoorE07
import Derived.Test.YteigplfldhdakaaGreatDoorE03
import Derived.Test.YteigplfldhdakaaGreatDoorE02
import Derived.Test.YteigplfldhdakaaGreatDoorE06
import Derived.Test.YteigplfldhdakaaGreatDoorE04
import Derived.Lib.RuneBytes
import Derived.Laws.Cover1
import Derived.Lib.MinMaxS
set_option linter.unusedVariables false
set_option linter.unusedSimpArgs false
namespace Go.Proofs.YteigplfldhdakaaGreatDoor
open Go.RowKit
section
variable {α : Type} [Inhabited α] {enc : α → List Value} {k : Nat}
theorem flat_get (hk : ∀ x, (enc x).length = k) : ∀ (L : List α) (t : Nat), t < L.length * k → (L.flatMap enc)[t]? = (enc (L[t / k]!))[t % k]?
  | [], t, h => by simp at h
  | x :: r, t, h => by
    rw [List.length_cons, Nat.add_mul, Nat.one_mul] at h
    have k0 : 0 < k := by
      rcases Nat.eq_zero_or_pos k with e | e
      · subst e; simp at h
      · exact e
    rw [List.flatMap_cons]
    by_cases ht : t < k
    · rw [List.getElem?_append_left (by rw [hk]; exact ht), Nat.div_eq_of_lt ht, Nat.mod_eq_of_lt ht]
      rfl
    · rw [List.getElem?_append_right (by rw [hk]; omega), hk, flat_get hk r (t - k) (by omega)]
      have e1 : t / k = (t - k) / k + 1 := by rw [Nat.div_eq_sub_div k0 (by omega)]
      have e2 : t % k = (t - k) % k := by rw [Nat.mod_eq_sub_mod (by omega)]
      rw [e1, e2]
      rfl
omit [Inhabited α] in
theorem flat_len (hk : ∀ x, (enc x).length = k) (L : List α) : (L.flatMap enc).length = L.length * k := by
  induction L with
  | nil => simp
  | cons a r ih => rw [List.flatMap_cons, List.length_append, ih, hk, List.length_cons, Nat.add_mul, Nat.one_mul, Nat.add_comm]
theorem flatK_toArray (hk : ∀ x, (enc x).length = k) (L : List α) : (Sort.flatK enc k L.toArray).toList = L.flatMap enc := by
  apply List.ext_getElem?
  intro t
  by_cases ht : t < L.length * k
  · have k0 : 0 < k := by
      rcases Nat.eq_zero_or_pos k with e | e
      · subst e; simp at ht
      · exact e
    rw [flat_get hk L t ht]
    have hm : t % k < (enc (L[t / k]!)).length := by rw [hk]; exact Nat.mod_lt _ k0
    rw [Array.getElem?_toList, Array.getElem?_eq_getElem (by simpa using ht), List.getElem?_eq_getElem hm]
    have h2 := Sort.get_flatK enc k L.toArray t (by simpa using ht)
    rw [getElem!_pos _ t (by simpa using ht)] at h2
    rw [h2, show (L.toArray)[t / k]! = L[t / k]! by simp, getElem!_pos _ (t % k) hm]
  · rw [List.getElem?_eq_none (by rw [Array.length_toList, Sort.size_flatK, List.size_toArray]; omega), List.getElem?_eq_none (by rw [flat_len hk]; omega)]
end
section
variable {α : Type} [Inhabited α] {enc : α → List Value} {k : Nat} {w : World} {e : TypeId} {g off cap : Nat} {L : List α}
theorem SL.holdsK (hk : ∀ x, (enc x).length = k) (h : SL w e k (.slice (some ⟨g, off, none⟩) L.length cap) L.length (L.flatMap enc)) (hL : 0 < L.length) : Sort.HoldsK enc k w g off L.toArray := by
  obtain ⟨g', off', cap', hv, _, _, hc, hf⟩ := SL.open_ h hL
  simp only [Value.slice.injEq, Option.some.injEq, Addr.mk.injEq, and_true, true_and] at hv
  obtain ⟨⟨rfl, rfl⟩, rfl⟩ := hv
  intro j hj
  have hj2 : j < L.length * k := by simpa using hj
  refine ⟨?_, hf _⟩
  rw [hc j hj2, ← flatK_toArray hk L, Array.getElem?_toList, Array.getElem?_eq_getElem hj, getElem!_pos _ j hj]
  rfl
theorem putRow_block (w : World) (g off : Nat) (F : Array Value) (cur : Array Value) (t : TypeId) (m : Nat × Nat) (h : w.heap[g]? = some (.cells cur t m)) :
    (Sort.putRow id w g off F).heap[g]? = some (.cells (Sort.putCells id off F cur) t m) := by
  simp only [Sort.putRow, Sort.mapBlock, Array.getElem?_modify, if_pos, h, Option.map_some]
  rfl
theorem putRow_other (w : World) (g off : Nat) (F : Array Value) (b : Nat) (h : b ≠ g) : (Sort.putRow id w g off F).heap[b]? = w.heap[b]? := by
  simp only [Sort.putRow, Sort.mapBlock, Array.getElem?_modify]
  rw [if_neg (fun e => h e.symm)]
theorem putRow_size (w : World) (g off : Nat) (F : Array Value) : (Sort.putRow id w g off F).heap.size = w.heap.size := by simp [Sort.putRow, Sort.mapBlock]
theorem grow_get (w : World) (os : Array Obj) (b : Nat) (h : b < w.heap.size) : (Sort.grow w os).heap[b]? = w.heap[b]? := by
  simp only [Sort.grow]
  rw [Array.getElem?_append_left h]
/-- behind a sort, or a reversal: the slice reads as the list that was put there; of the rest nothing has turned -/
theorem SL.sorted (hk : ∀ x, (enc x).length = k) (h : SL w e k (.slice (some ⟨g, off, none⟩) L.length cap) L.length (L.flatMap enc)) (hL : 0 < L.length) (n : Nat) (M : List α) (hM : M.length = L.length) (os : Array Obj) :
    SL (Sort.grow (Sort.putRowK enc k (Sort.ahead w n) g off M.toArray) os) e k (.slice (some ⟨g, off, none⟩) M.length cap) M.length (M.flatMap enc) ∧
      Touch (fun b => b = g) w (Sort.grow (Sort.putRowK enc k (Sort.ahead w n) g off M.toArray) os) := by
  obtain ⟨h1, h2⟩ := h
  rcases h2 with ⟨h2, h3⟩ | ⟨g', off', cap', cur, hv, hg, hn, hm, hs, hx⟩
  · cases h2
  · simp only [Value.slice.injEq, Option.some.injEq, Addr.mk.injEq, and_true, true_and] at hv
    obtain ⟨⟨rfl, rfl⟩, rfl⟩ := hv
    have hlt := blk_lt hg
    have hF : (Sort.flatK enc k M.toArray).toList = M.flatMap enc := flatK_toArray hk M
    have hFs : (Sort.flatK enc k M.toArray).size = M.length * k := by simp
    have hblk : (Sort.grow (Sort.putRowK enc k (Sort.ahead w n) g off M.toArray) os).heap[g]? = some (.cells (Sort.putCells id off (Sort.flatK enc k M.toArray) cur) e (0, 0)) := by
      rw [grow_get _ _ _ (by rw [Sort.putRowK, putRow_size]; exact hlt)]
      exact putRow_block (Sort.ahead w n) g off _ cur e (0, 0) hg
    have hcap : M.length * k ≤ cap * k := Nat.mul_le_mul_right _ (by omega)
    refine ⟨⟨flat_len hk M, .inr ⟨g, off, cap, _, rfl, hblk, by omega, hm, by simp [Sort.putCells]; omega, ?_⟩⟩, ⟨rfl, rfl, rfl, ?_, fun b hb hne => ?_⟩⟩
    · rw [← hF]
      apply List.ext_getElem?
      intro t
      by_cases ht : t < M.length * k
      · rw [List.getElem?_take, if_pos ht, List.getElem?_drop, Array.getElem?_toList, Array.getElem?_toList]
        simp only [Sort.putCells, Array.getElem?_mapIdx]
        rw [Array.getElem?_eq_getElem (show off + t < cur.size by omega), Array.getElem?_eq_getElem (by rw [hFs]; exact ht), Option.map_some, if_pos (by rw [hFs]; omega), Nat.add_sub_cancel_left, getElem!_pos _ t (by rw [hFs]; exact ht)]
        rfl
      · rw [List.getElem?_eq_none (by rw [List.length_take]; omega), List.getElem?_eq_none (by rw [Array.length_toList, hFs]; omega)]
    · simp only [Sort.grow, Array.size_append, Sort.putRowK, putRow_size]
      exact Nat.le_add_right _ _
    · rw [grow_get _ _ _ (by rw [Sort.putRowK, putRow_size]; exact hb)]
      exact putRow_other _ _ _ _ _ hne
theorem SL.put (hk : ∀ x, (enc x).length = k) (h : SL w e k (.slice (some ⟨g, off, none⟩) L.length cap) L.length (L.flatMap enc)) (hL : 0 < L.length) (n : Nat) (M : List α) (hM : M.length = L.length) :
    SL (Sort.putRowK enc k (Sort.ahead w n) g off M.toArray) e k (.slice (some ⟨g, off, none⟩) M.length cap) M.length (M.flatMap enc) ∧ Touch (fun b => b = g) w (Sort.putRowK enc k (Sort.ahead w n) g off M.toArray) := by
  have := SL.sorted hk h hL n M hM #[]
  rwa [Sort.grow_empty] at this
end
end Go.Proofs.YteigplfldhdakaaGreatDoor
/- align: Steps. -/
namespace Go.Proofs.YteigplfldhdakaaGreatDoor
open Go.RowKit Go.Shelf
theorem stpC_len (s : Stp) : (stpC s).length = 3 := rfl
theorem stpC_one (s : Stp) : ∀ v ∈ stpC s, v.oneCell' = true := fun v hv => by
  simp only [stpC, List.mem_cons, List.mem_nil_iff, or_false] at hv
  rcases hv with rfl | rfl | rfl <;> rfl
theorem reverse_c {w : World} {A : Option Addr} {c : Nat} {L : List Stp} (h : StS w (.slice A L.length c) L) : Calls Tryz.prog 88 #[.slice A L.length c] w fun e w' =>
    e = .returned (.tuple #[]) ∧ StS w' (.slice A L.length c) L.reverse ∧ Touch (fun b => (Value.slice A L.length c).ownBlock = some b) w w' := by
  rcases Nat.eq_zero_or_pos L.length with h0 | h0
  · obtain rfl : L = [] := List.eq_nil_of_length_eq_zero h0
    exact (AnyQ.slices_Reverse_empty Tryz.revStep A c w).mono fun e w' ⟨h1, h2⟩ => by
      rw [h2]
      exact ⟨h1, h, Touch.refl _ _⟩
  · obtain ⟨g, off, cap, hv, _, ho, _, _⟩ := SL.open_ h h0
    obtain ⟨rfl, -, rfl⟩ := Value.slice.inj hv
    have hH := SL.holdsK (enc := stpC) stpC_len h h0
    have hle : L.length ≤ 9223372036854775807 := SL.le h
    refine (AnyQ.slices_Reverse Tryz.revStep 3 Tryz.isAgg189 Tryz.sizeOf189 stpC stpC_len stpC_one g off c L.toArray w hH (by simpa using hle)).mono fun e w' ⟨h1, n, h2⟩ => ?_
    obtain ⟨s1, s2⟩ := SL.put (enc := stpC) stpC_len h h0 n L.reverse (by simp)
    rw [List.reverse_toArray] at h2
    rw [← h2] at s1 s2
    refine ⟨h1, ?_, s2.mono fun b hb => by rw [hb]; rfl⟩
    have e : L.reverse.length = L.length := by simp
    unfold StS
    rw [e] at s1 ⊢
    exact s1
theorem collect_in (n : Nat) (hn : 6 ≤ n) (w : World) (gf : Nat) (lb : Array Value) (eg : ∀ args w, (callFunc gf args).run Tryz.prog w = .ok (.enter gf args) w) (L : List Stp) (hL : L.length ≤ 1000000) (w0 : World) (hw0 : Below w0.heap.size w0 w) (R : Nat → Prop)
    (hseq : SeqL Fence.wide (n - 1) Tryz.prog gf lb (stpArgs L) L.length (fun _ => R) (fun _ _ => False) w0) (hR : ∀ k, R k → k < w0.heap.size) :
    Calls Tryz.prog 86 #[.func (.func gf) #[] lb] w (ColP L w) := by
  have hc := callsIn_wide.1 (appS_in n hn w gf lb eg L hL w0 hw0 R hseq hR)
  have HC := hid hc
  clear hc hseq
  go_enter Tryz.func86, Tryz.ntmps86
  go_wp2_with (go_at_call 131; refine HC.out.mono ?_; rintro e w1 ⟨A, c, rfl, h1, h2, h3⟩; have H1 := hid h1; have H2 := hid h2; have H3 := hid h3; clear h1 h2 h3)
  go_ret
  exact ⟨A, c, rfl, H1.out, H2.out, H3.out⟩
/-- what Steps hands back -/
def StepsP (a b : ByteArray) (w : World) (e : Ending) (w' : World) : Prop :=
  Below w.heap.size w w' ∧ ((pairErr (bys a) (bys b) ≠ 0 ∧ e = .returned (.tuple #[.slice none 0 0, .int .i64 (pairErr (bys a) (bys b))])) ∨
    (pairErr (bys a) (bys b) = 0 ∧ ∃ A c, e = .returned (.tuple #[.slice A (stepsF (runesOf (bys a)) (runesOf (bys b))).length c, .int .i64 0]) ∧ StS w' (.slice A (stepsF (runesOf (bys a)) (runesOf (bys b))).length c) (stepsF (runesOf (bys a)) (runesOf (bys b))) ∧
      ∀ k, (Value.slice A (stepsF (runesOf (bys a)) (runesOf (bys b))).length c).ownBlock = some k → w.heap.size ≤ k))
set_option maxRecDepth 100000 in
set_option maxHeartbeats 2000000 in
theorem steps_c (a b : ByteArray) (ha : a.size ≤ 1048576) (hb : b.size ≤ 1048576) (w : World) (hT : Tab w) : Calls Tryz.prog 50 #[.string a, .string b] w (StepsP a b w) := by
  have hf := fill_c a b ha hb w hT
  by_cases he : pairErr (bys a) (bys b) = 0
  · have hf2 : Calls Tryz.prog 85 #[.string a, .string b] w fun e w' => Below w.heap.size w w' ∧ (cntR (bys a) ≤ 64 ∧ cntR (bys b) ≤ 64 ∧ ∃ g va vb vf vk, e = .returned (.tuple #[.pointer (some ⟨g, 0, none⟩), .int .i64 0]) ∧
      GridAt w' g va vb vf vk (runesOf (bys a)) (runesOf (bys b)) (fillF (runesOf (bys a)) (runesOf (bys b)) ((cntR (bys a) + 1) * (cntR (bys b) + 1))).1 (fillF (runesOf (bys a)) (runesOf (bys b)) ((cntR (bys a) + 1) * (cntR (bys b) + 1))).2) := hf.mono fun e w' ⟨h1, h2⟩ => by
      rcases h2 with ⟨h2, _⟩ | ⟨_, _, _, h3, h4, h2⟩
      · exact absurd he h2
      · exact ⟨h1, h3, h4, h2⟩
    have HE := hid he
    have hal : (runesOf (bys a)).length = cntR (bys a) := runesTo_length _ _
    have hbl : (runesOf (bys b)).length = cntR (bys b) := runesTo_length _ _
    obtain ⟨RA, hRA⟩ : ∃ RA, runesOf (bys a) = RA := ⟨_, rfl⟩
    obtain ⟨RB, hRB⟩ : ∃ RB, runesOf (bys b) = RB := ⟨_, rfl⟩
    have hfin : ∀ e w', Below w.heap.size w w' → (∃ A c, e = .returned (.tuple #[.slice A (stepsF RA RB).length c, .int .i64 0]) ∧ StS w' (.slice A (stepsF RA RB).length c) (stepsF RA RB) ∧ ∀ k, (Value.slice A (stepsF RA RB).length c).ownBlock = some k → w.heap.size ≤ k) → StepsP a b w e w' := fun e w' h1 h2 =>
      ⟨h1, .inr ⟨HE.out, by rw [hRA, hRB]; exact h2⟩⟩
    rw [hRA] at hf2 hal
    rw [hRB] at hf2 hbl
    rw [← hal, ← hbl] at hf2
    have HFIN := hid hfin
    have HF2 := hid hf2
    clear hfin hf2 hf he hRA hRB hal hbl
    go_enter Tryz.func50, Tryz.ntmps50
    go_wp2_with (first
      | (go_at_call 85; refine HF2.out.mono ?_; rintro e w1 ⟨hb1, h1, h2, g, va, vb, vf, vk, rfl, hg⟩; have HB1 := hid hb1; have HG := hid hg; clear hb1 hg)
      | (go_at_call 87; refine (back_c g w1).mono ?_; rintro e w2 ⟨rfl, rfl⟩; obtain ⟨L, hL⟩ : ∃ L, stepsB RA RB (fillF RA RB ((RA.length + 1) * (RB.length + 1))).2 RA.length RB.length = L := ⟨_, rfl⟩; have HL := hid hL; have hLl : L.length ≤ 1000000 := (by rw [← hL]; have := stepsB_len (okGrid_fill RA RB h1 h2) _ RA.length RB.length (Nat.le_refl _) (Nat.le_refl _) (Nat.le_refl _); omega); have hcol := collect_in 6 (Nat.le_refl _) (w1.alloc (.cells #[.pointer (some ⟨g, 0, none⟩)] 184)) 132 #[.pointer (some ⟨w1.heap.size, 0, none⟩)] (enters_of Tryz.func132 (by kernel_rfl) rfl) L hLl _ (Below.refl _ _) (fun k => k < (w1.alloc (.cells #[.pointer (some ⟨g, 0, none⟩)] 184)).heap.size) (by have h := back_seq 5 (by decide) w1.heap.size g va vb vf vk RA RB _ _ h1 h2 (fillF_len RA RB _).2 (okGrid_fill RA RB h1 h2) (w1.alloc (.cells #[.pointer (some ⟨g, 0, none⟩)] 184)) (heap_alloc_new _ _) (HG.out.keep (balloc (Below.refl _ w1) _)); rw [hL] at h; exact h) (fun k hk => hk); have HCOL := hid hcol; clear hL hLl hcol)
      | (go_at_call 86; refine HCOL.out.mono ?_; rintro e w3 ⟨A, c, rfl, hs, ho, hb3⟩; have HS3 := hid hs; have HO3 := hid ho; have HB3 := hid ((balloc HB1.out _).trans (hb3.mono (by rw [World.size_alloc]; have := HB1.out.size; omega))); have HSZ := hid hb3.size; clear hs ho hb3)
      | (go_at_call 88; refine (reverse_c HS3.out).mono ?_; rintro e w4 ⟨rfl, hs4, ht4⟩; have HS4 := hid hs4; have HT4 := hid ht4; clear hs4 ht4))
    go_ret2
    have hlen : (stepsF RA RB).length = L.length := by rw [stepsF, HL.out, List.length_reverse]
    have hsz1 := HB1.out.size
    refine HFIN.out _ _ (HT4.out.below HB3.out (fun k hk => ?_)) ?_
    · have := HO3.out k hk
      rw [World.size_alloc] at this
      omega
    · refine ⟨A, c, by rw [hlen]; rfl, ?_, fun k hk => ?_⟩
      · rw [hlen, stepsF, HL.out]; exact HS4.out
      · rw [hlen] at hk
        have := HO3.out k hk
        rw [World.size_alloc] at this
        omega
  · have hf2 : Calls Tryz.prog 85 #[.string a, .string b] w fun e w' => Below w.heap.size w w' ∧ e = .returned (.tuple #[.pointer none, .int .i64 (pairErr (bys a) (bys b))]) := hf.mono fun e w' ⟨h1, h2⟩ => by
      rcases h2 with ⟨_, h2⟩ | ⟨h2, _⟩
      · exact ⟨h1, h2⟩
      · exact absurd h2 he
    obtain ⟨q, hq⟩ : ∃ q, pairErr (bys a) (bys b) = q := ⟨_, rfl⟩
    have HQ := hid hq
    rw [hq] at hf2 he
    have hqn : (q != 0) = true := by rw [bne_iff_ne]; exact he
    have HNE := hid he
    clear hf he hq
    go_enter Tryz.func50, Tryz.ntmps50
    go_wp2_with (go_at_call 85; refine hf2.mono ?_; rintro e w1 ⟨hb1, rfl⟩; have HB1 := hid hb1; clear hb1)
    go_ret2
    exact ⟨HB1.out, .inl ⟨by rw [HQ.out]; exact HNE.out, by rw [HQ.out]; rfl⟩⟩
end Go.Proofs.YteigplfldhdakaaGreatDoor
/- utf8.AppendRune onto a slice of bytes wherever it lies: what it hands back lies there, or anew. -/
namespace Go.Proofs.YteigplfldhdakaaGreatDoor
open Go.RowKit
attribute [local go_sem ↓] Go.wp_at_zero Go.wp_at_succ
/-- what an append of bytes hands back -/
def ApR (w : World) (v : Value) (xs ys : List Int) (e : Ending) (w' : World) : Prop :=
  ∃ A c zs, zs = xs ++ ys ∧ e = .returned (.slice A zs.length c) ∧ BS w' (.slice A zs.length c) zs ∧ (∀ k, (Value.slice A zs.length c).ownBlock = some k → v.ownBlock = some k ∨ w.heap.size ≤ k) ∧ Touch (fun k => v.ownBlock = some k) w w'
theorem ApR.of {w w2 : World} {v : Value} {xs ys : List Int} {A : Option Addr} {c N : Nat} {o : Obj} (hN : N = (xs ++ ys).length) (hs : SL w2 5 1 (.slice A N c) N (by8 (xs ++ ys))) (hg : (w.alloc o).grownBy w2 v.ownBlock)
    (ho : ∀ k, (Value.slice A N c).ownBlock = some k → v.ownBlock = some k ∨ (w.alloc o).heap.size ≤ k) : ApR w v xs ys (.returned (.slice A N c)) w2 := by
  subst hN
  exact ⟨A, c, _, rfl, rfl, hs, fun k hk => (ho k hk).imp id (fun h => by rw [World.size_alloc] at h; omega), ((Touch.refl _ w).alloc o).grown hg (fun k hk => .inl hk)⟩
set_option maxHeartbeats 1000000 in
set_option maxRecDepth 100000 in
theorem ar_two {w : World} {v : Value} {xs : List Int} (r : Int) (h0 : 128 ≤ r) (h1 : r ≤ 2047) (h : BS w v xs) (hl : xs.length ≤ 100000000) : Calls Tryz.prog 217 #[v, .int .i32 r] w (ApR w v xs [192 + r / 64, 128 + r % 64]) := by
  obtain ⟨i0, hi, hz0, hz1, hz2⟩ := info_parts info5
  obtain ⟨A, c, rfl, hc⟩ := h.form
  have HS := hid (h.alloc (.cells #[.int .u8 (192 + r / 64), .int .u8 (128 + r % 64)] 5))
  have HL := hid (SL.lit w 5 1 2 #[.int .u8 (192 + r / 64), .int .u8 (128 + r % 64)] rfl (by simp [maxLen]))
  have hone : ∀ u ∈ [Value.int .u8 (192 + r / 64), .int .u8 (128 + r % 64)], u.oneCell' = true := fun u hu => by
    simp only [List.mem_cons, List.mem_nil_iff, or_false] at hu
    rcases hu with rfl | rfl <;> rfl
  have h63 : xs.length + 2 ≤ maxLen := by simp only [maxLen]; omega
  have hby : (xs.length + 2) * 1 ≤ 140737488355328 := by omega
  clear h
  go_enter Tryz.func217, Tryz.ntmps217
  go_wp2_with (at_builtin; refine wpList_append_SLs rfl _ _ _ rfl 5 i0 _ 1 1 Tryz.underlying119 hi hz0 hz1 hz2 rfl Nat.one_pos (.slice A xs.length c) xs.length (by8 xs) rfl HS.out _ 2 _ rfl HL.out hone (xs.length + 2) _ rfl rfl h63 hby ?_; intro A1 c1 w1 hs1 hg1 ho1; have HS1 := hid hs1; have HG1 := hid hg1; have HO1 := hid ho1; clear hs1 hg1 ho1)
  go_ret
  exact ApR.of (by simp) (by rw [by8_append]; exact HS1.out) HG1.out HO1.out
set_option maxHeartbeats 1000000 in
set_option maxRecDepth 100000 in
theorem ar_lo {w : World} {v : Value} {xs : List Int} (r : Int) (h0 : 2048 ≤ r) (h1 : r < 55296) (h : BS w v xs) (hl : xs.length ≤ 100000000) : Calls Tryz.prog 217 #[v, .int .i32 r] w (ApR w v xs [224 + r / 4096, 128 + r / 64 % 64, 128 + r % 64]) := by
  obtain ⟨i0, hi, hz0, hz1, hz2⟩ := info_parts info5
  obtain ⟨A, c, rfl, hc⟩ := h.form
  have HS := hid (h.alloc (.cells #[.int .u8 (224 + r / 4096), .int .u8 (128 + r / 64 % 64), .int .u8 (128 + r % 64)] 5))
  have HL := hid (SL.lit w 5 1 3 #[.int .u8 (224 + r / 4096), .int .u8 (128 + r / 64 % 64), .int .u8 (128 + r % 64)] rfl (by simp [maxLen]))
  have hone : ∀ u ∈ [Value.int .u8 (224 + r / 4096), .int .u8 (128 + r / 64 % 64), .int .u8 (128 + r % 64)], u.oneCell' = true := fun u hu => by
    simp only [List.mem_cons, List.mem_nil_iff, or_false] at hu
    rcases hu with rfl | rfl | rfl <;> rfl
  have h63 : xs.length + 3 ≤ maxLen := by simp only [maxLen]; omega
  have hby : (xs.length + 3) * 1 ≤ 140737488355328 := by omega
  clear h
  go_enter Tryz.func217, Tryz.ntmps217
  go_wp2_with (at_builtin; refine wpList_append_SLs rfl _ _ _ rfl 5 i0 _ 1 1 Tryz.underlying119 hi hz0 hz1 hz2 rfl Nat.one_pos (.slice A xs.length c) xs.length (by8 xs) rfl HS.out _ 3 _ rfl HL.out hone (xs.length + 3) _ rfl rfl h63 hby ?_; intro A1 c1 w1 hs1 hg1 ho1; have HS1 := hid hs1; have HG1 := hid hg1; have HO1 := hid ho1; clear hs1 hg1 ho1)
  go_ret
  exact ApR.of (by simp) (by rw [by8_append]; exact HS1.out) HG1.out HO1.out
set_option maxHeartbeats 1000000 in
set_option maxRecDepth 100000 in
theorem ar_hi {w : World} {v : Value} {xs : List Int} (r : Int) (h0 : 57343 < r) (h1 : r ≤ 65535) (h : BS w v xs) (hl : xs.length ≤ 100000000) : Calls Tryz.prog 217 #[v, .int .i32 r] w (ApR w v xs [224 + r / 4096, 128 + r / 64 % 64, 128 + r % 64]) := by
  obtain ⟨i0, hi, hz0, hz1, hz2⟩ := info_parts info5
  obtain ⟨A, c, rfl, hc⟩ := h.form
  have HS := hid (h.alloc (.cells #[.int .u8 (224 + r / 4096), .int .u8 (128 + r / 64 % 64), .int .u8 (128 + r % 64)] 5))
  have HL := hid (SL.lit w 5 1 3 #[.int .u8 (224 + r / 4096), .int .u8 (128 + r / 64 % 64), .int .u8 (128 + r % 64)] rfl (by simp [maxLen]))
  have hone : ∀ u ∈ [Value.int .u8 (224 + r / 4096), .int .u8 (128 + r / 64 % 64), .int .u8 (128 + r % 64)], u.oneCell' = true := fun u hu => by
    simp only [List.mem_cons, List.mem_nil_iff, or_false] at hu
    rcases hu with rfl | rfl | rfl <;> rfl
  have h63 : xs.length + 3 ≤ maxLen := by simp only [maxLen]; omega
  have hby : (xs.length + 3) * 1 ≤ 140737488355328 := by omega
  clear h
  go_enter Tryz.func217, Tryz.ntmps217
  go_wp2_with (at_builtin; refine wpList_append_SLs rfl _ _ _ rfl 5 i0 _ 1 1 Tryz.underlying119 hi hz0 hz1 hz2 rfl Nat.one_pos (.slice A xs.length c) xs.length (by8 xs) rfl HS.out _ 3 _ rfl HL.out hone (xs.length + 3) _ rfl rfl h63 hby ?_; intro A1 c1 w1 hs1 hg1 ho1; have HS1 := hid hs1; have HG1 := hid hg1; have HO1 := hid ho1; clear hs1 hg1 ho1)
  go_ret
  exact ApR.of (by simp) (by rw [by8_append]; exact HS1.out) HG1.out HO1.out
set_option maxHeartbeats 1000000 in
set_option maxRecDepth 100000 in
theorem ar_four {w : World} {v : Value} {xs : List Int} (r : Int) (h0 : 65536 ≤ r) (h1 : r ≤ 1114111) (h : BS w v xs) (hl : xs.length ≤ 100000000) : Calls Tryz.prog 217 #[v, .int .i32 r] w (ApR w v xs [240 + r / 262144, 128 + r / 4096 % 64, 128 + r / 64 % 64, 128 + r % 64]) := by
  obtain ⟨i0, hi, hz0, hz1, hz2⟩ := info_parts info5
  obtain ⟨A, c, rfl, hc⟩ := h.form
  have HS := hid (h.alloc (.cells #[.int .u8 (240 + r / 262144), .int .u8 (128 + r / 4096 % 64), .int .u8 (128 + r / 64 % 64), .int .u8 (128 + r % 64)] 5))
  have HL := hid (SL.lit w 5 1 4 #[.int .u8 (240 + r / 262144), .int .u8 (128 + r / 4096 % 64), .int .u8 (128 + r / 64 % 64), .int .u8 (128 + r % 64)] rfl (by simp [maxLen]))
  have hone : ∀ u ∈ [Value.int .u8 (240 + r / 262144), .int .u8 (128 + r / 4096 % 64), .int .u8 (128 + r / 64 % 64), .int .u8 (128 + r % 64)], u.oneCell' = true := fun u hu => by
    simp only [List.mem_cons, List.mem_nil_iff, or_false] at hu
    rcases hu with rfl | rfl | rfl | rfl <;> rfl
  have h63 : xs.length + 4 ≤ maxLen := by simp only [maxLen]; omega
  have hby : (xs.length + 4) * 1 ≤ 140737488355328 := by omega
  clear h
  go_enter Tryz.func217, Tryz.ntmps217
  go_wp2_with (at_builtin; refine wpList_append_SLs rfl _ _ _ rfl 5 i0 _ 1 1 Tryz.underlying119 hi hz0 hz1 hz2 rfl Nat.one_pos (.slice A xs.length c) xs.length (by8 xs) rfl HS.out _ 4 _ rfl HL.out hone (xs.length + 4) _ rfl rfl h63 hby ?_; intro A1 c1 w1 hs1 hg1 ho1; have HS1 := hid hs1; have HG1 := hid hg1; have HO1 := hid ho1; clear hs1 hg1 ho1)
  go_ret
  exact ApR.of (by simp) (by rw [by8_append]; exact HS1.out) HG1.out HO1.out
set_option maxHeartbeats 1000000 in
set_option maxRecDepth 100000 in
theorem ar_neg {w : World} {v : Value} {xs : List Int} (r : Int) (h0 : -2147483648 ≤ r) (h1 : r < 0) (h : BS w v xs) (hl : xs.length ≤ 100000000) : Calls Tryz.prog 217 #[v, .int .i32 r] w (ApR w v xs [239, 191, 189]) := by
  obtain ⟨i0, hi, hz0, hz1, hz2⟩ := info_parts info5
  obtain ⟨A, c, rfl, hc⟩ := h.form
  have HS := hid (h.alloc (.cells #[.int .u8 (239), .int .u8 (191), .int .u8 (189)] 5))
  have HL := hid (SL.lit w 5 1 3 #[.int .u8 (239), .int .u8 (191), .int .u8 (189)] rfl (by simp [maxLen]))
  have hone : ∀ u ∈ [Value.int .u8 (239), .int .u8 (191), .int .u8 (189)], u.oneCell' = true := fun u hu => by
    simp only [List.mem_cons, List.mem_nil_iff, or_false] at hu
    rcases hu with rfl | rfl | rfl <;> rfl
  have h63 : xs.length + 3 ≤ maxLen := by simp only [maxLen]; omega
  have hby : (xs.length + 3) * 1 ≤ 140737488355328 := by omega
  clear h
  go_enter Tryz.func217, Tryz.ntmps217
  go_wp2_with (at_builtin; refine wpList_append_SLs rfl _ _ _ rfl 5 i0 _ 1 1 Tryz.underlying119 hi hz0 hz1 hz2 rfl Nat.one_pos (.slice A xs.length c) xs.length (by8 xs) rfl HS.out _ 3 _ rfl HL.out hone (xs.length + 3) _ rfl rfl h63 hby ?_; intro A1 c1 w1 hs1 hg1 ho1; have HS1 := hid hs1; have HG1 := hid hg1; have HO1 := hid ho1; clear hs1 hg1 ho1)
  go_ret
  exact ApR.of (by simp) (by rw [by8_append]; exact HS1.out) HG1.out HO1.out
set_option maxHeartbeats 1000000 in
set_option maxRecDepth 100000 in
theorem ar_sur {w : World} {v : Value} {xs : List Int} (r : Int) (h0 : 55296 ≤ r) (h1 : r ≤ 57343) (h : BS w v xs) (hl : xs.length ≤ 100000000) : Calls Tryz.prog 217 #[v, .int .i32 r] w (ApR w v xs [239, 191, 189]) := by
  obtain ⟨i0, hi, hz0, hz1, hz2⟩ := info_parts info5
  obtain ⟨A, c, rfl, hc⟩ := h.form
  have HS := hid (h.alloc (.cells #[.int .u8 (239), .int .u8 (191), .int .u8 (189)] 5))
  have HL := hid (SL.lit w 5 1 3 #[.int .u8 (239), .int .u8 (191), .int .u8 (189)] rfl (by simp [maxLen]))
  have hone : ∀ u ∈ [Value.int .u8 (239), .int .u8 (191), .int .u8 (189)], u.oneCell' = true := fun u hu => by
    simp only [List.mem_cons, List.mem_nil_iff, or_false] at hu
    rcases hu with rfl | rfl | rfl <;> rfl
  have h63 : xs.length + 3 ≤ maxLen := by simp only [maxLen]; omega
  have hby : (xs.length + 3) * 1 ≤ 140737488355328 := by omega
  clear h
  go_enter Tryz.func217, Tryz.ntmps217
  go_wp2_with (at_builtin; refine wpList_append_SLs rfl _ _ _ rfl 5 i0 _ 1 1 Tryz.underlying119 hi hz0 hz1 hz2 rfl Nat.one_pos (.slice A xs.length c) xs.length (by8 xs) rfl HS.out _ 3 _ rfl HL.out hone (xs.length + 3) _ rfl rfl h63 hby ?_; intro A1 c1 w1 hs1 hg1 ho1; have HS1 := hid hs1; have HG1 := hid hg1; have HO1 := hid ho1; clear hs1 hg1 ho1)
  go_ret
  exact ApR.of (by simp) (by rw [by8_append]; exact HS1.out) HG1.out HO1.out
set_option maxHeartbeats 1000000 in
set_option maxRecDepth 100000 in
theorem ar_big {w : World} {v : Value} {xs : List Int} (r : Int) (h0 : 1114111 < r) (h1 : r ≤ 2147483647) (h : BS w v xs) (hl : xs.length ≤ 100000000) : Calls Tryz.prog 217 #[v, .int .i32 r] w (ApR w v xs [239, 191, 189]) := by
  obtain ⟨i0, hi, hz0, hz1, hz2⟩ := info_parts info5
  obtain ⟨A, c, rfl, hc⟩ := h.form
  have HS := hid (h.alloc (.cells #[.int .u8 (239), .int .u8 (191), .int .u8 (189)] 5))
  have HL := hid (SL.lit w 5 1 3 #[.int .u8 (239), .int .u8 (191), .int .u8 (189)] rfl (by simp [maxLen]))
  have hone : ∀ u ∈ [Value.int .u8 (239), .int .u8 (191), .int .u8 (189)], u.oneCell' = true := fun u hu => by
    simp only [List.mem_cons, List.mem_nil_iff, or_false] at hu
    rcases hu with rfl | rfl | rfl <;> rfl
  have h63 : xs.length + 3 ≤ maxLen := by simp only [maxLen]; omega
  have hby : (xs.length + 3) * 1 ≤ 140737488355328 := by omega
  clear h
  go_enter Tryz.func217, Tryz.ntmps217
  go_wp2_with (at_builtin; refine wpList_append_SLs rfl _ _ _ rfl 5 i0 _ 1 1 Tryz.underlying119 hi hz0 hz1 hz2 rfl Nat.one_pos (.slice A xs.length c) xs.length (by8 xs) rfl HS.out _ 3 _ rfl HL.out hone (xs.length + 3) _ rfl rfl h63 hby ?_; intro A1 c1 w1 hs1 hg1 ho1; have HS1 := hid hs1; have HG1 := hid hg1; have HO1 := hid ho1; clear hs1 hg1 ho1)
  go_ret
  exact ApR.of (by simp) (by rw [by8_append]; exact HS1.out) HG1.out HO1.out
/- utf8.AppendRune, every rune. -/
theorem enc_bytes4 (r : Int) : (Lib.encodeRuneZ r).length ≤ 4 := by
  unfold Lib.encodeRuneZ
  repeat' split
  all_goals simp
theorem arn_c {w : World} {v : Value} {xs : List Int} (r : Int) (h0 : -2147483648 ≤ r) (h1 : r ≤ 2147483647) (h2 : r < 0 ∨ 128 ≤ r) (h : BS w v xs) (hl : xs.length ≤ 100000000) : Calls Tryz.prog 217 #[v, .int .i32 r] w (ApR w v xs (Lib.encodeRuneZ r)) := by
  unfold Lib.encodeRuneZ
  rw [if_neg (by omega)]
  by_cases c1 : 128 ≤ r ∧ r ≤ 2047
  · rw [if_pos c1]; exact ar_two r c1.1 c1.2 h hl
  · rw [if_neg c1]
    by_cases c2 : (2048 ≤ r ∧ r < 55296) ∨ (57343 < r ∧ r ≤ 65535)
    · rw [if_pos c2]
      rcases c2 with c2 | c2
      · exact ar_lo r c2.1 c2.2 h hl
      · exact ar_hi r c2.1 c2.2 h hl
    · rw [if_neg c2]
      by_cases c3 : 65536 ≤ r ∧ r ≤ 1114111
      · rw [if_pos c3]; exact ar_four r c3.1 c3.2 h hl
      · rw [if_neg c3]
        by_cases c4 : r < 0
        · exact ar_neg r h0 c4 h hl
        · by_cases c5 : r ≤ 57343
          · exact ar_sur r (by omega) c5 h hl
          · exact ar_big r (by omega) h1 h hl
set_option maxHeartbeats 1000000 in
set_option maxRecDepth 100000 in
theorem ar_c {w : World} {v : Value} {xs : List Int} (r : Int) (h0 : -2147483648 ≤ r) (h1 : r ≤ 2147483647) (h : BS w v xs) (hl : xs.length ≤ 100000000) : Calls Tryz.prog 181 #[v, .int .i32 r] w (ApR w v xs (Lib.encodeRuneZ r)) := by
  by_cases hr : 0 ≤ r ∧ r ≤ 127
  · obtain ⟨r0, r1⟩ := hr
    rw [Lib.encodeRuneZ_one r0 r1]
    obtain ⟨i0, hi, hz0, hz1, hz2⟩ := info_parts info5
    obtain ⟨A, c, rfl, hc⟩ := h.form
    have HS := hid (h.alloc (.cells #[.int .u8 r] 5))
    have HL := hid (SL.lit w 5 1 1 #[.int .u8 r] rfl (by simp [maxLen]))
    have hone : ∀ u ∈ [Value.int .u8 r], u.oneCell' = true := by simp [Value.oneCell']
    have h63 : xs.length + 1 ≤ maxLen := by simp only [maxLen]; omega
    have hby : (xs.length + 1) * 1 ≤ 140737488355328 := by omega
    clear h
    go_enter Tryz.func181, Tryz.ntmps181
    go_wp2_with (at_builtin; refine wpList_append_SLs rfl _ _ _ rfl 5 i0 _ 1 1 Tryz.underlying119 hi hz0 hz1 hz2 rfl Nat.one_pos (.slice A xs.length c) xs.length (by8 xs) rfl HS.out _ 1 _ rfl HL.out hone (xs.length + 1) _ rfl rfl h63 hby ?_; intro A1 c1 w1 hs1 hg1 ho1; have HS1 := hid hs1; have HG1 := hid hg1; have HO1 := hid ho1; clear hs1 hg1 ho1)
    go_ret
    exact ApR.of (by simp) (by rw [by8_append]; exact HS1.out) HG1.out HO1.out
  · have hc := arn_c r h0 h1 (by omega) h hl
    have HC := hid hc
    have hnr : r < 0 ∨ 128 ≤ r := by omega
    clear hc
    rcases hnr with hn | hn
    all_goals
      go_enter Tryz.func181, Tryz.ntmps181
      go_wp2_with (go_at_call 217; refine HC.out.mono ?_; rintro e w1 ⟨A, c, zs, hz, rfl, h4, h5, h6⟩; have HZ := hid hz; have H4 := hid h4; have H5 := hid h5; have H6 := hid h6; clear hz h4 h5 h6)
      go_ret
      exact ⟨A, c, zs, HZ.out, rfl, H4.out, H5.out, H6.out⟩
end Go.Proofs.YteigplfldhdakaaGreatDoor
/- align: may, Check. -/
namespace Go.Proofs.YteigplfldhdakaaGreatDoor
open Go.RowKit Go.Shelf
attribute [local go_sem ↓] Go.wp_at_zero Go.wp_at_succ
def mayB (s : Stp) : Bool :=
  if Lib.validRune s.2.1 && Lib.validRune s.2.2 then
    (if s.1 = 0 then s.2.1 == s.2.2 else if s.1 = 1 then s.2.1 != s.2.2 else if s.1 = 2 then s.2.2 == 0 else if s.1 = 3 then s.2.1 == 0 else false)
  else false
set_option maxRecDepth 100000 in
set_option maxHeartbeats 1000000 in
theorem may_c (s : Stp) (w : World) : Calls Tryz.prog 135 #[stpV s] w fun e w' => e = .returned (.bool (mayB s)) ∧ Below w.heap.size w w' := by
  obtain ⟨k, a, b⟩ := s
  unfold stpV
  dsimp only
  cases hva : Lib.validRune a
  · have HM : Hid (mayB (k, a, b) = false) := hid (by simp [mayB, hva])
    have hv := fun W => Tryz.utf8_ValidRune a W
    rw [hva] at hv
    go_enter Tryz.func135, Tryz.ntmps135
    go_wp2_with (go_at_call 166; refine (hv _).mono ?_; rintro e w1 ⟨rfl, rfl⟩)
    go_ret
    exact ⟨by rw [HM.out]; rfl, balloc (Below.refl _ w) _⟩
  · cases hvb : Lib.validRune b
    · have HM : Hid (mayB (k, a, b) = false) := hid (by simp [mayB, hvb])
      have hv := fun W => Tryz.utf8_ValidRune a W
      have hw := fun W => Tryz.utf8_ValidRune b W
      rw [hva] at hv
      rw [hvb] at hw
      by_cases hab : a = b
      · rw [hab, hvb] at hva; cases hva
      go_enter Tryz.func135, Tryz.ntmps135
      go_wp2_with (first | (go_at_call_of 166 a; refine (hv _).mono ?_; rintro e w1 ⟨rfl, rfl⟩) | (go_at_call_of 166 b; refine (hw _).mono ?_; rintro e w1 ⟨rfl, rfl⟩))
      go_ret
      exact ⟨by rw [HM.out]; rfl, balloc (Below.refl _ w) _⟩
    · have hv := fun W => Tryz.utf8_ValidRune a W
      have hw := fun W => Tryz.utf8_ValidRune b W
      rw [hva] at hv
      rw [hvb] at hw
      by_cases n0 : k = 0
      · subst n0
        have HM : Hid (mayB (0, a, b) = (a == b)) := hid (by simp [mayB, hva, hvb])
        go_enter Tryz.func135, Tryz.ntmps135
        go_wp2_with (first | (go_at_call_of 166 a; refine (hv _).mono ?_; rintro e w1 ⟨rfl, rfl⟩) | (go_at_call_of 166 b; refine (hw _).mono ?_; rintro e w1 ⟨rfl, rfl⟩))
        go_ret
        exact ⟨by rw [HM.out]; rfl, balloc (Below.refl _ w) _⟩
      · skip
        by_cases n1 : k = 1
        · subst n1
          have HM : Hid (mayB (1, a, b) = (a != b)) := hid (by simp [mayB, hva, hvb])
          go_enter Tryz.func135, Tryz.ntmps135
          go_wp2_with (first | (go_at_call_of 166 a; refine (hv _).mono ?_; rintro e w1 ⟨rfl, rfl⟩) | (go_at_call_of 166 b; refine (hw _).mono ?_; rintro e w1 ⟨rfl, rfl⟩))
          go_ret
          exact ⟨by rw [HM.out]; rfl, balloc (Below.refl _ w) _⟩
        · skip
          by_cases n2 : k = 2
          · subst n2
            have HM : Hid (mayB (2, a, b) = (b == 0)) := hid (by simp [mayB, hva, hvb])
            go_enter Tryz.func135, Tryz.ntmps135
            go_wp2_with (first | (go_at_call_of 166 a; refine (hv _).mono ?_; rintro e w1 ⟨rfl, rfl⟩) | (go_at_call_of 166 b; refine (hw _).mono ?_; rintro e w1 ⟨rfl, rfl⟩))
            go_ret
            exact ⟨by rw [HM.out]; rfl, balloc (Below.refl _ w) _⟩
          · skip
            by_cases n3 : k = 3
            · subst n3
              have HM : Hid (mayB (3, a, b) = (a == 0)) := hid (by simp [mayB, hva, hvb])
              go_enter Tryz.func135, Tryz.ntmps135
              go_wp2_with (first | (go_at_call_of 166 a; refine (hv _).mono ?_; rintro e w1 ⟨rfl, rfl⟩) | (go_at_call_of 166 b; refine (hw _).mono ?_; rintro e w1 ⟨rfl, rfl⟩))
              go_ret
              exact ⟨by rw [HM.out]; rfl, balloc (Below.refl _ w) _⟩
            · skip
              have e0 : (k == 0) = false := by rw [beq_eq_false_iff_ne]; exact n0
              have e1 : (k == 1) = false := by rw [beq_eq_false_iff_ne]; exact n1
              have e2 : (k == 2) = false := by rw [beq_eq_false_iff_ne]; exact n2
              have e3 : (k == 3) = false := by rw [beq_eq_false_iff_ne]; exact n3
              have HM : Hid (mayB (k, a, b) = false) := hid (by simp [mayB, n0, n1, n2, n3])
              clear n0 n1 n2 n3
              go_enter Tryz.func135, Tryz.ntmps135
              go_wp2_with (first | (go_at_call_of 166 a; refine (hv _).mono ?_; rintro e w1 ⟨rfl, rfl⟩) | (go_at_call_of 166 b; refine (hw _).mono ?_; rintro e w1 ⟨rfl, rfl⟩))
              go_ret
              exact ⟨by rw [HM.out]; rfl, balloc (Below.refl _ w) _⟩
/- align: Check. -/
theorem SL.cellsK {α : Type} [Inhabited α] {enc : α → List Value} {k : Nat} {w : World} {e : TypeId} {g off cap : Nat} {L : List α} (hk : ∀ x, (enc x).length = k)
    (h : SL w e k (.slice (some ⟨g, off, none⟩) L.length cap) L.length (L.flatMap enc)) : ∀ j, j < L.length → ∀ i v, (enc L[j]!)[i]? = some v → w.cell? ⟨g, off + j * k + i, none⟩ = some v := fun j hj i v hv => by
  have hi : i < k := by
    have := (List.getElem?_eq_some_iff.1 hv).1
    rwa [hk] at this
  obtain ⟨g', off', cap', hv', _, _, hc, _⟩ := SL.open_ h (by omega)
  simp only [Value.slice.injEq, Option.some.injEq, Addr.mk.injEq, and_true, true_and] at hv'
  obtain ⟨⟨rfl, rfl⟩, rfl⟩ := hv'
  have hlt : j * k + i < L.length * k := by
    have : (j + 1) * k ≤ L.length * k := Nat.mul_le_mul_right _ hj
    rw [Nat.add_mul] at this
    omega
  have h1 := hc (j * k + i) hlt
  rw [flat_get hk L _ hlt, show (j * k + i) / k = j by rw [Nat.mul_comm, Nat.mul_add_div (by omega), Nat.div_eq_of_lt hi, Nat.add_zero], show (j * k + i) % k = i by rw [Nat.mul_comm, Nat.mul_add_mod, Nat.mod_eq_of_lt hi], hv] at h1
  rw [Nat.add_assoc]
  exact h1
set_option maxRecDepth 100000 in
set_option maxHeartbeats 1000000 in
theorem notmay_c (s : Stp) (w : World) : Calls Tryz.prog 134 #[stpV s] w fun e w' => e = .returned (.bool (!mayB s)) ∧ Below w.heap.size w w' := by
  have hm := fun W => may_c s W
  have HM := hid hm
  obtain ⟨k, a, b⟩ := s
  unfold stpV at HM ⊢
  dsimp only at HM ⊢
  obtain ⟨q, hq⟩ : ∃ q, mayB (k, a, b) = q := ⟨_, rfl⟩
  rw [hq] at HM ⊢
  clear hm
  go_enter Tryz.func134, Tryz.ntmps134
  go_wp2_with (go_at_call 135; refine (HM.out _).mono ?_; rintro e w1 ⟨rfl, hb⟩; have HB := hid (bthen (balloc (Below.refl _ w) _) hb); clear hb)
  go_ret
  exact ⟨rfl, HB.out⟩
def chkS (L : List Stp) : Int := if L.any (fun s => !mayB s) then 7 else 0
set_option maxRecDepth 100000 in
set_option maxHeartbeats 1000000 in
theorem idx_empty (A : Option Addr) (c : Nat) (w : World) : Calls Tryz.prog 180 #[.slice A 0 c, .func (.func 134) #[] #[]] w fun e w' => e = .returned (.int .i64 (-1)) ∧ w' = w := by
  go_enter Tryz.func180, Tryz.ntmps180
  go_wp2
  go_loopw [8] (fun iv wr => iv = .int .i64 0 ∧ wr = w) (fun _ _ => 0)
  case atStart => exact ⟨rfl, rfl⟩
  case round =>
    obtain ⟨rfl, rfl⟩ := hrel
    go_wp2
    go_ret
    exact ⟨rfl, rfl⟩
set_option maxRecDepth 100000 in
set_option maxHeartbeats 1000000 in
theorem any_empty (A : Option Addr) (c : Nat) (w : World) : Calls Tryz.prog 133 #[.slice A 0 c, .func (.func 134) #[] #[]] w fun e w' => e = .returned (.bool false) ∧ Below w.heap.size w w' := by
  go_enter Tryz.func133, Tryz.ntmps133
  go_wp2_with (go_at_call 180; refine (idx_empty A c w).mono ?_; rintro e w1 ⟨rfl, rfl⟩)
  go_ret
  exact ⟨rfl, Below.refl _ _⟩
set_option maxRecDepth 100000 in
set_option maxHeartbeats 1000000 in
theorem check_c {w : World} {v : Value} {L : List Stp} (h : StS w v L) : Calls Tryz.prog 89 #[v] w fun e w' => e = .returned (.int .i64 (chkS L)) ∧ Below w.heap.size w w' := by
  have hcall : Calls Tryz.prog 133 #[v, .func (.func 134) #[] #[]] w fun e w' => e = .returned (.bool (L.any (fun s => !mayB s))) ∧ Below w.heap.size w w' := by
    rcases Nat.eq_zero_or_pos L.length with h0 | h0
    · obtain rfl : L = [] := List.eq_nil_of_length_eq_zero h0
      obtain ⟨A, c, rfl, _⟩ := SL.form h
      exact any_empty A c w
    · obtain ⟨g, off, cap, rfl, _, _, _, _⟩ := SL.open_ h h0
      have hg := SL.lt h g rfl
      have := AnyQ.slices_ContainsFunc Tryz.hasStep 3 Tryz.isAgg189 Tryz.sizeOf189 stpC stpC_len (fun s => !mayB s) 134 #[] (enters_of Tryz.func134 (by kernel_rfl) rfl) g off L.length cap L w
        (fun W x hW => (notmay_c x W).mono fun e w' ⟨h1, h2⟩ => ⟨h1, bthen hW h2⟩) (Nat.le_refl _) (SL.le h) hg (SL.cellsK stpC_len h)
      rw [List.take_length] at this
      exact this
  have HC := hid hcall
  clear hcall
  cases hq : L.any (fun s => !mayB s)
  · have HE : Hid (chkS L = 0) := hid (by simp only [chkS, hq]; rfl)
    rw [hq] at HC
    clear hq
    go_enter Tryz.func89, Tryz.ntmps89
    go_wp2_with (go_at_call 133; refine HC.out.mono ?_; rintro e w1 ⟨rfl, hb⟩; have HB := hid hb; clear hb)
    go_ret
    exact ⟨by rw [HE.out]; rfl, HB.out⟩
  · have HE : Hid (chkS L = 7) := hid (by simp only [chkS, hq]; rfl)
    rw [hq] at HC
    clear hq
    go_enter Tryz.func89, Tryz.ntmps89
    go_wp2_with (go_at_call 133; refine HC.out.mono ?_; rintro e w1 ⟨rfl, hb⟩; have HB := hid hb; clear hb)
    go_ret
    exact ⟨by rw [HE.out]; rfl, HB.out⟩
/- align: Read. -/
def rdA (L : List Stp) : List Int := L.flatMap fun s => if s.1 = 3 then [] else Lib.encodeRuneZ s.2.1
def rdB (L : List Stp) : List Int := L.flatMap fun s => if s.1 = 2 then [] else Lib.encodeRuneZ s.2.2
def i32ok (r : Int) : Prop := -2147483648 ≤ r ∧ r ≤ 2147483647
def okStps (L : List Stp) : Prop := ∀ s ∈ L, i32ok s.2.1 ∧ i32ok s.2.2
theorem rdA_take {L : List Stp} {k : Nat} (hk : k < L.length) : rdA (L.take (k + 1)) = rdA (L.take k) ++ if L[k].1 = 3 then [] else Lib.encodeRuneZ L[k].2.1 := by
  unfold rdA
  rw [List.take_add_one, List.getElem?_eq_getElem hk, List.flatMap_append]
  simp only [Option.toList, List.flatMap_cons, List.flatMap_nil, List.append_nil]
theorem rdB_take {L : List Stp} {k : Nat} (hk : k < L.length) : rdB (L.take (k + 1)) = rdB (L.take k) ++ if L[k].1 = 2 then [] else Lib.encodeRuneZ L[k].2.2 := by
  unfold rdB
  rw [List.take_add_one, List.getElem?_eq_getElem hk, List.flatMap_append]
  simp only [Option.toList, List.flatMap_cons, List.flatMap_nil, List.append_nil]
theorem rdA_len : ∀ L : List Stp, (rdA L).length ≤ 4 * L.length
  | [] => by simp [rdA]
  | s :: r => by
    have := rdA_len r
    have h4 := enc_bytes4 s.2.1
    rw [show rdA (s :: r) = (if s.1 = 3 then [] else Lib.encodeRuneZ s.2.1) ++ rdA r from rfl, List.length_append, List.length_cons]
    split <;> simp <;> omega
theorem rdB_len : ∀ L : List Stp, (rdB L).length ≤ 4 * L.length
  | [] => by simp [rdB]
  | s :: r => by
    have := rdB_len r
    have h4 := enc_bytes4 s.2.2
    rw [show rdB (s :: r) = (if s.1 = 2 then [] else Lib.encodeRuneZ s.2.2) ++ rdB r from rfl, List.length_append, List.length_cons]
    split <;> simp <;> omega
def readE (L : List Stp) : Int := chkS L
def readA (L : List Stp) : ByteArray := if chkS L = 0 then strOfNums (rdA L) else ⟨#[]⟩
def readB (L : List Stp) : ByteArray := if chkS L = 0 then strOfNums (rdB L) else ⟨#[]⟩
/-- two own slices of bytes, apart -/
structure TwoB (w wr : World) (va vb : Value) (xa xb : List Int) : Prop where
  a : BS wr va xa
  b : BS wr vb xb
  oa : ∀ k, va.ownBlock = some k → w.heap.size ≤ k
  ob : ∀ k, vb.ownBlock = some k → w.heap.size ≤ k
  ne : ∀ k, va.ownBlock = some k → vb.ownBlock ≠ some k
  below : Below w.heap.size w wr
theorem TwoB.bel {w wr w2 : World} {va vb : Value} {xa xb : List Int} (h : TwoB w wr va vb xa xb) (hb : Below wr.heap.size wr w2) : TwoB w w2 va vb xa xb :=
  ⟨h.a.below hb, h.b.below hb, h.oa, h.ob, h.ne, bthen h.below hb⟩
theorem TwoB.appA {w wr w2 : World} {va vb v : Value} {xa xb xs : List Int} (h : TwoB w wr va vb xa xb) (hs : BS w2 v xs) (ho : ∀ k, v.ownBlock = some k → va.ownBlock = some k ∨ wr.heap.size ≤ k) (ht : Touch (fun k => va.ownBlock = some k) wr w2) : TwoB w w2 v vb xs xb := by
  refine ⟨hs, h.b.touch ht (fun k hk hk2 => h.ne k hk2 hk), fun k hk => ?_, h.ob, fun k hk hk2 => ?_, ht.below h.below h.oa⟩
  · rcases ho k hk with h1 | h1
    · exact h.oa k h1
    · exact Nat.le_trans h.below.size h1
  · rcases ho k hk with h1 | h1
    · exact h.ne k h1 hk2
    · have := h.b.lt k hk2; omega
theorem TwoB.swap {w wr : World} {va vb : Value} {xa xb : List Int} (h : TwoB w wr va vb xa xb) : TwoB w wr vb va xb xa := ⟨h.b, h.a, h.ob, h.oa, fun k h1 h2 => h.ne k h2 h1, h.below⟩
theorem SL.at3 {w : World} {e : TypeId} {A : Option Addr} {c : Nat} {L : List Stp} (h : StS w (.slice A L.length c) L) {k : Nat} (hk : k < L.length) :
    ∃ g off, A = some ⟨g, off, none⟩ ∧ g < w.heap.size ∧ w.cell? ⟨g, off + k * 3, none⟩ = some (.int .i64 L[k].1) ∧ w.cell? ⟨g, off + k * 3 + 1, none⟩ = some (.int .i32 L[k].2.1) ∧ w.cell? ⟨g, off + k * 3 + 2, none⟩ = some (.int .i32 L[k].2.2) := by
  obtain ⟨g, off, cap, hv, _, _, _, _⟩ := SL.open_ h (by omega)
  obtain ⟨rfl, -, rfl⟩ := Value.slice.inj hv
  have hc := SL.cellsK (enc := stpC) stpC_len h k hk
  rw [getElem!_pos L k hk] at hc
  exact ⟨g, off, rfl, SL.lt h g rfl, hc 0 _ rfl, hc 1 _ rfl, hc 2 _ rfl⟩
set_option maxRecDepth 100000 in
set_option maxHeartbeats 2000000 in
theorem read_c {w : World} {v : Value} {L : List Stp} (h : StS w v L) (hL : L.length ≤ 1000000) (hok : okStps L) : Calls Tryz.prog 137 #[v] w fun e w' => e = .returned (.tuple #[.string (readA L), .string (readB L), .int .i64 (chkS L)]) ∧ Below w.heap.size w w' := by
  obtain ⟨A, c, rfl, hc⟩ := SL.form h
  have HC := hid (check_c h)
  have HS := hid h
  have HOK := hid hok
  clear h hok
  by_cases hq : chkS L = 0
  · have HA : Hid (readA L = strOfNums (rdA L)) := hid (by rw [readA, if_pos hq])
    have HB : Hid (readB L = strOfNums (rdB L)) := hid (by rw [readB, if_pos hq])
    have HQ := hid hq
    rw [hq] at HC
    clear hq
    go_enter Tryz.func137, Tryz.ntmps137
    go_wp2_with (go_at_call 89; refine HC.out.mono ?_; rintro e w1 ⟨rfl, hb⟩; have HB1 := hid hb; clear hb)
    go_loopw [6, 7, 17] (fun va vb iv wr => ∃ (k : Nat) (Aa Ab : Option Addr) (ca cb : Nat) (xa xb : List Int), k ≤ L.length ∧ iv = .int .i64 (k : Int) ∧ va = .slice Aa xa.length ca ∧ vb = .slice Ab xb.length cb ∧ Hid (xa = rdA (L.take k)) ∧ Hid (xb = rdB (L.take k)) ∧ Hid (TwoB w wr va vb xa xb)) (fun _ _ iv _ => L.length - (intOf iv).toNat)
    case atStart => exact ⟨0, none, none, 0, 0, [], [], Nat.zero_le _, rfl, rfl, rfl, hid rfl, hid rfl, hid ⟨BS.nil _, BS.nil _, fun k hk => by simp [Value.ownBlock] at hk, fun k hk => by simp [Value.ownBlock] at hk, fun k hk => by simp [Value.ownBlock] at hk, HB1.out⟩⟩
    case round =>
      obtain ⟨k, Aa, Ab, ca, cb, xa, xb, hk, rfl, rfl, rfl, HXA, HXB, HT⟩ := hrel
      by_cases hkl : k < L.length
      · have hkl2 : (k : Int) < (L.length : Int) := by omega
        have hS2 : StS wr (.slice A L.length c) L := SL.keep HS.out fun b hb => HT.out.below.block b (SL.lt HS.out b hb)
        obtain ⟨g, off, rfl, hg, k0, k1, k2⟩ := SL.at3 (e := 0) hS2 hkl
        obtain ⟨s, hs⟩ : ∃ s, L[k] = s := ⟨_, rfl⟩
        rw [hs] at k0 k1 k2
        have hoks : i32ok s.2.1 ∧ i32ok s.2.2 := by rw [← hs]; exact HOK.out _ (List.getElem_mem hkl)
        have hla : xa.length ≤ 4 * k := by rw [HXA.out]; have := rdA_len (L.take k); rw [List.length_take] at this; omega
        have hlb : xb.length ≤ 4 * k := by rw [HXB.out]; have := rdB_len (L.take k); rw [List.length_take] at this; omega
        have hta := rdA_take hkl
        have htb := rdB_take hkl
        rw [hs, ← HXA.out] at hta
        rw [hs, ← HXB.out] at htb
        have HTA := hid hta
        have HTB := hid htb
        have HT1 : Hid (TwoB w (wr.alloc (.cells #[.int .i64 s.1, .int .i32 s.2.1, .int .i32 s.2.2] 189)) _ _ xa xb) := hid (HT.out.bel (balloc (Below.refl _ wr) _))
        clear hS2 hs hta htb
        obtain ⟨kd, a, b⟩ := s
        dsimp only at k0 k1 k2 hoks HTA HTB HT1
        obtain ⟨⟨ha0, ha1⟩, hb0, hb1⟩ := hoks
        have hla9 : xa.length ≤ 100000000 := by omega
        have hlb9 : xb.length ≤ 100000000 := by omega
        have hbx : ∀ (F : Nat → Prop) W2, (∀ k, F k → k < wr.heap.size) → Touch F (wr.alloc (.cells #[.int .i64 kd, .int .i32 a, .int .i32 b] 189)) W2 → W2.cell? ⟨wr.heap.size, 0, none⟩ = some (.int .i64 kd) ∧ W2.cell? ⟨wr.heap.size, 1, none⟩ = some (.int .i32 a) ∧ W2.cell? ⟨wr.heap.size, 2, none⟩ = some (.int .i32 b) := fun F W2 hF ht => by
          have h1 : W2.heap[wr.heap.size]? = some (.cells #[.int .i64 kd, .int .i32 a, .int .i32 b] 189 (0, 0)) := (ht.block _ (by rw [World.size_alloc]; omega) (fun h => by have := hF _ h; omega)).trans (heap_alloc_new wr _)
          exact ⟨by rw [cell_of_row W2 _ 0 _ _ _ h1]; rfl, by rw [cell_of_row W2 _ 1 _ _ _ h1]; rfl, by rw [cell_of_row W2 _ 2 _ _ _ h1]; rfl⟩
        have HBX := hid hbx
        have hal : ∀ k, (Value.slice Aa xa.length ca).ownBlock = some k → k < wr.heap.size := fun k hk => HT.out.a.lt k hk
        have HAL := hid hal
        clear hbx hal
        by_cases e3 : kd = 3
        · subst e3
          have HTA2 : Hid (xa = rdA (L.take (k + 1))) := hid (by rw [HTA.out]; simp)
          have HTB2 : Hid (rdB (L.take (k + 1)) = xb ++ Lib.encodeRuneZ b) := hid (by rw [HTB.out]; simp)
          go_wp2_with (go_at_call 181; refine (ar_c b hb0 hb1 HT1.out.b hlb9).mono ?_; rintro e W2 ⟨A2, c2, zs, hz, rfl, hs2, ho2, ht2⟩; have HZ := hid hz; have HT2 := hid (HT1.out.swap.appA hs2 ho2 ht2).swap; clear hz hs2 ho2 ht2)
          exact ⟨⟨k + 1, Aa, A2, ca, c2, xa, zs, by omega, by simp, rfl, rfl, HTA2, hid (by rw [HZ.out, HTB2.out]), HT2⟩, by simp [intOf]; omega⟩
        · by_cases e2 : kd = 2
          · subst e2
            have HTB2 : Hid (xb = rdB (L.take (k + 1))) := hid (by rw [HTB.out]; simp)
            have HTA2 : Hid (rdA (L.take (k + 1)) = xa ++ Lib.encodeRuneZ a) := hid (by rw [HTA.out]; simp)
            go_wp2_with (go_at_call 181; refine (ar_c a ha0 ha1 HT1.out.a hla9).mono ?_; rintro e W2 ⟨A2, c2, zs, hz, rfl, hs2, ho2, ht2⟩; have HZ := hid hz; have HT2 := hid (HT1.out.appA hs2 ho2 ht2); obtain ⟨p0, p1, p2⟩ := HBX.out _ W2 HAL.out ht2; clear hz hs2 ho2 ht2)
            exact ⟨⟨k + 1, A2, Ab, c2, cb, zs, xb, by omega, by simp, rfl, rfl, hid (by rw [HZ.out, HTA2.out]), HTB2, HT2⟩, by simp [intOf]; omega⟩
          · have e3b : (kd != 3) = true := by rw [bne_iff_ne]; exact e3
            have e2b : (kd != 2) = true := by rw [bne_iff_ne]; exact e2
            have HTB2 : Hid (rdB (L.take (k + 1)) = xb ++ Lib.encodeRuneZ b) := hid (by rw [HTB.out, if_neg e2])
            have HTA2 : Hid (rdA (L.take (k + 1)) = xa ++ Lib.encodeRuneZ a) := hid (by rw [HTA.out, if_neg e3])
            clear e3 e2
            go_wp2_with (first
              | (have _h := HT2; go_at_call 181; refine (ar_c b hb0 hb1 HT2.out.b hlb9).mono ?_; rintro e W3 ⟨A3, c3, zb, hz3, rfl, hs3, ho3, ht3⟩; have HZ3 := hid hz3; have HT3 := hid (HT2.out.swap.appA hs3 ho3 ht3).swap; clear hz3 hs3 ho3 ht3)
              | (go_at_call 181; refine (ar_c a ha0 ha1 HT1.out.a hla9).mono ?_; rintro e W2 ⟨A2, c2, zs, hz, rfl, hs2, ho2, ht2⟩; have HZ := hid hz; have HT2 := hid (HT1.out.appA hs2 ho2 ht2); obtain ⟨p0, p1, p2⟩ := HBX.out _ W2 HAL.out ht2; clear hz hs2 ho2 ht2))
            exact ⟨⟨k + 1, A2, A3, c2, c3, zs, zb, by omega, by simp, rfl, rfl, hid (by rw [HZ.out, HTA2.out]), hid (by rw [HZ3.out, HTB2.out]), HT3⟩, by simp [intOf]; omega⟩
      · obtain rfl : k = L.length := by omega
        rw [List.take_length] at HXA HXB
        have hca : ∀ n, (convert 119 9 (.slice Aa xa.length ca)).run Tryz.prog (wr.drewN n) = .ok (.string (strOfNums xa)) (wr.drewN n) := fun n => run_convert_SR 119 5 9 Tryz.underlying119 Tryz.underlying5 Tryz.underlying9 (HT.out.a.drewN n).rb
        have hcb : ∀ n, (convert 119 9 (.slice Ab xb.length cb)).run Tryz.prog (wr.drewN n) = .ok (.string (strOfNums xb)) (wr.drewN n) := fun n => run_convert_SR 119 5 9 Tryz.underlying119 Tryz.underlying5 Tryz.underlying9 (HT.out.b.drewN n).rb
        go_wp2
        go_quiet (fail)
        go_wp2
        go_ret3
        exact ⟨by rw [HA.out, HB.out, HQ.out, ← HXA.out, ← HXB.out]; rfl, bdrew HT.out.below _⟩
  · have HE : Hid (chkS L = 7) := hid (by unfold chkS at hq ⊢; split at hq <;> simp_all)
    have HA : Hid (readA L = ⟨#[]⟩) := hid (by rw [readA, if_neg hq])
    have HB : Hid (readB L = ⟨#[]⟩) := hid (by rw [readB, if_neg hq])
    rw [HE.out] at HC
    clear hq
    go_enter Tryz.func137, Tryz.ntmps137
    go_wp2_with (go_at_call 89; refine HC.out.mono ?_; rintro e w1 ⟨rfl, hb⟩; have HB1 := hid hb; clear hb)
    go_ret3
    exact ⟨by rw [HA.out, HB.out, HE.out]; rfl, HB1.out⟩
/- The order of strings; cmp.Or; the order of blocks. -/
/-- is a string ahead of another one? -/
def ltS (a b : ByteArray) : Bool := Op.bytesLess a.toList b.toList
theorem ltS_eq (a b : ByteArray) : ltS a b = decide (bys a < bys b) := by
  unfold ltS bys
  rw [Proofs.bytesLess_eq, Lib.toList_data, Lib.toList_data]
theorem ltS_irrefl (a : ByteArray) : ltS a a = false := by rw [ltS_eq]; simp
theorem ltS_trans {a b c : ByteArray} (h : ltS a b = true) (k : ltS b c = true) : ltS a c = true := by
  rw [ltS_eq] at *
  simp only [decide_eq_true_eq] at *
  exact List.lt_trans h k
theorem ltS_total {a b : ByteArray} (h : ltS a b = false) (k : ltS b a = false) : a = b := by
  rw [ltS_eq] at *
  simp only [decide_eq_false_iff_not, List.not_lt] at *
  exact bys_inj (List.le_antisymm k h)
theorem ltS_asymm {a b : ByteArray} (h : ltS a b = true) : ltS b a = false := by
  cases k : ltS b a
  · rfl
  · have := ltS_trans h k
    rw [ltS_irrefl] at this
    cases this
def cmpS (a b : ByteArray) : Int := if ltS a b then -1 else if ltS b a then 1 else 0
theorem gtS (a b : ByteArray) : (!(Op.bytesLess a.toList b.toList || a.toList == b.toList)) = ltS b a := by
  show (!(ltS a b || a.toList == b.toList)) = ltS b a
  cases h : ltS a b
  · by_cases e : a = b
    · subst e
      rw [ltS_irrefl]
      simp
    · have hne : (a.toList == b.toList) = false := by
        rw [beq_eq_false_iff_ne]
        intro h2
        rw [Lib.toList_data, Lib.toList_data] at h2
        exact e (bys_inj h2)
      rw [hne]
      cases k : ltS b a
      · exact absurd (ltS_total h k) e
      · rfl
  · rw [ltS_asymm h]; rfl
set_option maxRecDepth 100000 in
set_option maxHeartbeats 1000000 in
theorem cmps_c (a b : ByteArray) (w : World) : Calls Tryz.prog 95 #[.string a, .string b] w fun e w' => e = .returned (.int .i64 (cmpS a b)) ∧ w' = w := by
  have hg := gtS a b
  cases h1 : ltS a b
  · have h1' : Op.bytesLess a.toList b.toList = false := h1
    cases h2 : ltS b a
    · rw [h2, h1', Bool.false_or] at hg
      have hq : (a.toList == b.toList) = true := by cases hq : (a.toList == b.toList) <;> simp_all
      clear hg
      have HE : Hid (cmpS a b = 0) := hid (by simp [cmpS, h1, h2])
      clear h1 h2
      go_enter Tryz.func95, Tryz.ntmps95
      go_wp2
      go_ret
      exact ⟨by rw [HE.out]; rfl, rfl⟩
    · rw [h2, h1', Bool.false_or] at hg
      have hq : (a.toList == b.toList) = false := by cases hq : (a.toList == b.toList) <;> simp_all
      clear hg
      have HE : Hid (cmpS a b = 1) := hid (by simp [cmpS, h1, h2])
      clear h1 h2
      go_enter Tryz.func95, Tryz.ntmps95
      go_wp2
      go_ret
      exact ⟨by rw [HE.out]; rfl, rfl⟩
  · have h1' : Op.bytesLess a.toList b.toList = true := h1
    have HE : Hid (cmpS a b = -1) := hid (by simp [cmpS, h1])
    clear h1 hg
    go_enter Tryz.func95, Tryz.ntmps95
    go_wp2
    go_ret
    exact ⟨by rw [HE.out]; rfl, rfl⟩
def i64s (xs : List Int) : List Value := xs.map fun x => .int .i64 x
def orF : List Int → Int
  | [] => 0
  | x :: r => if x = 0 then orF r else x
theorem orF_drop {xs : List Int} {k : Nat} (hk : k < xs.length) : orF (xs.drop k) = if xs[k] = 0 then orF (xs.drop (k + 1)) else xs[k] := by
  rw [List.drop_eq_getElem_cons hk]
  rfl
set_option maxRecDepth 100000 in
set_option maxHeartbeats 1000000 in
theorem or_c {w : World} {v : Value} {xs : List Int} (h : SL w 3 1 v xs.length (i64s xs)) : Calls Tryz.prog 94 #[v] w fun e w' => e = .returned (.int .i64 (orF xs)) ∧ w' = w := by
  obtain ⟨A, c, rfl, hc⟩ := h.form
  have HS := hid h
  have hle := h.le
  clear h
  go_enter Tryz.func94, Tryz.ntmps94
  go_wp2
  go_loopw [8] (fun iv wr => ∃ k : Nat, k ≤ xs.length ∧ iv = .int .i64 (k : Int) ∧ wr = w ∧ Hid (orF xs = orF (xs.drop k))) (fun iv _ => xs.length - (intOf iv).toNat)
  case atStart => exact ⟨0, Nat.zero_le _, rfl, rfl, hid rfl⟩
  case round =>
    obtain ⟨k, hk, rfl, rfl, HO⟩ := hrel
    by_cases hkl : k < xs.length
    · have hkl2 : (k : Int) < (xs.length : Int) := by omega
      obtain ⟨g, off, cap, hv, _, _, hcs, _⟩ := HS.out.open_ (by omega)
      obtain ⟨rfl, -, rfl⟩ := Value.slice.inj hv
      have h1 := hcs k (by omega)
      rw [show (i64s xs)[k]? = some (.int .i64 (xs[k]'hkl)) by simp [i64s, hkl]] at h1
      have h2 := orF_drop hkl
      obtain ⟨x, hx⟩ : ∃ x, xs[k] = x := ⟨_, rfl⟩
      rw [hx] at h1 h2
      have HOD := hid h2
      clear hcs hv hx h2
      by_cases hx0 : x = 0
      · subst hx0
        go_wp2
        exact ⟨⟨k + 1, by omega, by simp, trivial, hid (by rw [HO.out, HOD.out, if_pos rfl])⟩, by simp [intOf]; omega⟩
      · have hx1 : (x != 0) = true := by rw [bne_iff_ne]; exact hx0
        have HX := hid hx0
        clear hx0
        go_wp2
        go_ret
        exact ⟨by rw [HO.out, HOD.out, if_neg HX.out]; rfl, rfl⟩
    · obtain rfl : k = xs.length := by omega
      go_wp2
      go_ret
      exact ⟨by rw [HO.out, List.drop_length]; rfl, rfl⟩
/-- a block: what was read, what it should have been, how often -/
abbrev Blk := ByteArray × ByteArray × Int
instance : Inhabited Blk := ⟨(⟨#[]⟩, ⟨#[]⟩, 0)⟩
def blkC (b : Blk) : List Value := [.string b.1, .string b.2.1, .int .i64 b.2.2]
def blkV (b : Blk) : Value := .agg #[.string b.1, .string b.2.1, .int .i64 b.2.2]
/-- the order of blocks -/
def cmpB (a b : Blk) : Int := orF [cmpS a.1 b.1, cmpS a.2.1 b.2.1]
end Go.Proofs.YteigplfldhdakaaGreatDoor
