/- The two iterators of bucket: full, and the library's Values at whole numbers. -/
import Derived.RangeFuncNested
import Derived.RangeFuncBound
import Derived.RangeFuncCalls
import Derived.RangeFuncLeaves
import Derived.Shelf.Abstract
import Derived.Shelf.RegionOpen
import Derived.WalkKit
import Derived.OwnWalkIn
import Derived.TacticsInMore
import Derived.LoopNIn
import Derived.LoopIn
import Derived.Scope
import Derived.Test.YtmbpdboengaclaaQb
namespace Go.Proofs.Ytmbpdboengaclaa
set_option linter.unusedVariables false
set_option linter.unusedSimpArgs false
open Go.RowKit Go.Shelf
attribute [local go_sem] Oper.semAt_some
section
variable {F : Fence} {n : Nat} {P : Program} {Q : Exit → Act → World → Prop} {a : Act} {w : World}
theorem stepR_scope {b : Frame} {k : List Item} {cs : List Frame} {c : Code} : step P (lone (b.atR a (.code (.scope c) :: k)) cs w) = .next (lone (b.atR a (.code c :: .inScope c :: k)) cs w) :=
  step_lone_go (by simp [stepG, stepG.exec, Frame.atR])
theorem stepR_inScope {b : Frame} {k : List Item} {cs : List Frame} {c : Code} : step P (lone (b.atR a (.inScope c :: k)) cs w) = .next (lone (b.atR a k) cs w) :=
  step_lone_go (by simp [stepG, stepG.exec, Frame.atR])
/-- A scope out of which nothing jumps to a label. -/
theorem wpIn_scope_straight {c : Code} (h : c.wpIn F n P (Exit.noGoto Q) a w) : (Code.scope c).wpIn F n P Q a w := by
  intro b k cs hro hb hr
  have h0 : (lone (b.atR a (.code (.scope c) :: k)) cs w).fenced P F := fenced_calm hb hr rfl
  obtain ⟨e, a₁, w₁, hq, harr⟩ := h b (.inScope c :: k) cs hro hb hr
  cases e with
  | normal => exact ⟨.normal, a₁, w₁, hq, .head h0 stepR_scope (StepsIn.trans harr (.one (fenced_calm hb hr rfl) stepR_inScope))⟩
  | exit id =>
    have hx : exitTo id (.inScope c :: k) = exitTo id k := by simp [exitTo]
    exact ⟨.exit id, a₁, w₁, hq, fun k' hk => .head h0 stepR_scope (harr.1 k' (by rw [hx]; exact hk)),
      fun hr' hk => let ⟨k₁, h1, h2⟩ := harr.2 hr' (by rw [hx]; exact hk); ⟨k₁, h1, .head h0 stepR_scope h2⟩⟩
  | goto l => exact hq.elim
  | ret => exact ⟨_, a₁, w₁, hq, .of_steps (.one h0 stepR_scope) harr⟩
  | panic ch => exact ⟨_, a₁, w₁, hq, .of_steps (.one h0 stepR_scope) harr⟩
  | outgrown => exact ⟨_, a₁, w₁, hq, .of_steps (.one h0 stepR_scope) harr⟩
end
/-- A bucket that a walk over q.full() comes to. -/
abbrev Bk (bs : List (List Int)) (nw : Nat) := { c : Nat // nw ≤ c ∧ c < bs.length ∧ row bs c ≠ [] }
/-- The buckets that hold something, from nw on, below c. -/
def fullTo (bs : List (List Int)) (nw c : Nat) : List Nat := (List.range c).filter fun i => decide (nw ≤ i) && !(row bs i).isEmpty
theorem fullTo_succ (bs : List (List Int)) (nw c : Nat) : fullTo bs nw (c + 1) = fullTo bs nw c ++ if nw ≤ c ∧ row bs c ≠ [] then [c] else [] := by
  unfold fullTo
  rw [List.range_succ, List.filter_append]
  congr 1
  by_cases h1 : nw ≤ c
  · cases h2 : row bs c with
    | nil => simp [h2]
    | cons a r => simp [h1, h2]
  · simp [h1]
theorem fullTo_empty {bs : List (List Int)} {nw c : Nat} (h : row bs c = []) : fullTo bs nw (c + 1) = fullTo bs nw c := by rw [fullTo_succ]; simp [h]
theorem fullTo_full {bs : List (List Int)} {nw c : Nat} (h1 : nw ≤ c) (h : row bs c ≠ []) : fullTo bs nw (c + 1) = fullTo bs nw c ++ [c] := by rw [fullTo_succ, if_pos ⟨h1, h⟩]
theorem row_beyond {bs : List (List Int)} {i : Nat} (h : bs.length ≤ i) : row bs i = [] := by simp [row, h]
theorem fullTo_all {bs : List (List Int)} {nw : Nat} : ∀ (k : Nat), fullTo bs nw (bs.length + k) = fullTo bs nw bs.length
  | 0 => rfl
  | k + 1 => by rw [← Nat.add_assoc, fullTo_empty (row_beyond (by omega)), fullTo_all k]
theorem fullTo_nw (bs : List (List Int)) (nw : Nat) : ∀ c, c ≤ nw → fullTo bs nw c = []
  | 0, _ => rfl
  | c + 1, h => by rw [fullTo_succ, fullTo_nw bs nw c (by omega), if_neg (by omega)]; rfl
theorem fullTo_prefix (bs : List (List Int)) (nw c : Nat) : ∀ k, fullTo bs nw c <+: fullTo bs nw (c + k)
  | 0 => List.prefix_refl _
  | k + 1 => (fullTo_prefix bs nw c k).trans (by rw [← Nat.add_assoc, fullTo_succ]; exact List.prefix_append _ _)
theorem fullTo_length (bs : List (List Int)) (nw c : Nat) : (fullTo bs nw c).length ≤ c := by
  have := List.length_filter_le (fun i => decide (nw ≤ i) && !(row bs i).isEmpty) (List.range c)
  simpa [fullTo] using this
set_option maxRecDepth 100000 in
set_option maxHeartbeats 2000000 in
theorem full1_in (F : Fence) (n : Nat) (h23 : F.fn 23) (hro : F.round = none) (hn : 1 ≤ n) (l Bn q : Nat) (G Fq : Nat → Prop) (bv : Value) (rvs : List Value) (bs : List (List Int)) (most cnt : Int) (nw : Nat)
    (hG : ∀ k, Fq k → ¬ G k) (hGB : ¬ G Bn) (hlen : bs.length ≤ 100000) (hnw : nw ≤ 100000) (J Jx : List (Bk bs nw) → World → Prop)
    (hY : ∀ pre x W, J pre W → pre.length < bs.length → YieldAt F (n - 1) Try.prog l #[.int .i64 (x.1 : Int), rowv rvs x.1] W fun e W' =>
      (e = .returned (.bool true) ∧ J (pre ++ [x]) W' ∧ Touch G W W') ∨ (e = .returned (.bool false) ∧ Jx (pre ++ [x]) W'))
    (W : World) (hBn : W.cell? ⟨Bn, 0, none⟩ = some (.pointer (some ⟨q, 0, none⟩))) (hQ : Q3 Fq W q bv rvs bs most cnt nw) (h0 : J [] W) :
    CallsIn F n Try.prog 23 #[.func (.yield l) #[] #[], .pointer (some ⟨Bn, 0, none⟩)] W fun e W' => (∃ v, e = .returned v) ∧
      ((∃ ys : List (Bk bs nw), ys.map (·.1) = fullTo bs nw bs.length ∧ J ys W') ∨ (∃ pre : List (Bk bs nw), pre.map (·.1) <+: fullTo bs nw bs.length ∧ Jx pre W')) := by
  have e3 := hQ.cell3
  have HQ := hid hQ
  clear hQ
  refine callsIn_of_wp Try.func23 rfl h23 ?_ hro
  simp only [Try.ntmps23, List.size_toArray, List.length_cons, List.length_nil, Nat.reduceAdd, Nat.reduceSub, Array.replicate_succ, Array.replicate_zero, List.push_toArray, List.append_toArray, List.nil_append, List.cons_append]
  gi_wp2
  refine wpIn_scope_straight ?_
  gi_wp2
  refine wpIn_label ?_
  gi_wp2
  gi_loopw [3] (fun cv wr => ∃ (c : Nat) (pre : List (Bk bs nw)), cv = .int .i64 (c : Int) ∧ nw ≤ c ∧ c ≤ max nw bs.length ∧ Hid (pre.map (·.1) = fullTo bs nw c) ∧ J pre wr ∧ wr.cell? ⟨Bn, 0, none⟩ = some (.pointer (some ⟨q, 0, none⟩)) ∧ Hid (Q3 Fq wr q bv rvs bs most cnt nw)) (fun cv _ => bs.length - (intOf cv).toNat)
  case atStart => exact ⟨nw, [], rfl, Nat.le_refl _, by omega, hid (by rw [fullTo_nw _ _ _ (Nat.le_refl _)]; rfl), h0, hBn, HQ⟩
  case round =>
    obtain ⟨c, pre, rfl, hnc, hcm, HP, hJ, hBn2, HQ2⟩ := hrel
    clear hBn e3 HQ
    have e0 := HQ2.out.cell0
    by_cases hlt : c < bs.length
    · obtain ⟨g, off, cap, hbv2, hcap, _, hgc, hgf⟩ := HQ2.out.buckets.open_ (by omega)
      rw [hbv2] at e0
      have hcn := hgc c (by omega)
      rw [rowv_get _ _ (by rw [HQ2.out.rlen]; exact hlt)] at hcn
      obtain ⟨Ar, cr, hrv, hcr⟩ := (HQ2.out.rows c).form
      rw [hrv] at hcn
      clear hgc hgf hbv2
      by_cases hem : row bs c = []
      · have hl0 : (row bs c).length = 0 := by rw [hem]; rfl
        gi_wp2
        go_roundw
        case rel => exact ⟨c + 1, pre, by simp, by omega, by omega, hid (by rw [fullTo_empty hem]; exact HP.out), hJ, hBn2, HQ2⟩
        case measure => simp [intOf]; omega
      · have hl1 : (row bs c).length ≠ 0 := fun e => hem (List.eq_nil_of_length_eq_zero e)
        have hpl : pre.length < bs.length := by
          have h1 : (pre.map (·.1)).length ≤ c := by rw [HP.out]; exact fullTo_length _ _ _
          rw [List.length_map] at h1
          omega
        obtain ⟨fn, tmps, assign, body, hy, hR⟩ := hY pre ⟨c, hnc, hlt, hem⟩ wr hJ hpl
        dsimp only at hy
        rw [hrv] at hy
        gi_wp2
        refine hR.mono ?_
        rintro e W3 (⟨rfl, hJ3, hk3⟩ | ⟨rfl, hJx3⟩)
        · have hB3 : W3.cell? ⟨Bn, 0, none⟩ = some (.pointer (some ⟨q, 0, none⟩)) := (World.cell?_of_block (hk3.block Bn (World.block_lt_of_cell? wr _ hBn2) hGB)).trans hBn2
          have hQ3 := hid (HQ2.out.keep (w' := W3) fun k hk hl => hk3.block k hl (hG k hk))
          gi_wp2
          go_roundw
          case rel => exact ⟨c + 1, pre ++ [⟨c, hnc, hlt, hem⟩], by simp, by omega, by omega, hid (by rw [fullTo_full hnc hem, List.map_append, HP.out]; rfl), hJ3, hB3, hQ3⟩
          case measure => simp [intOf]; omega
        · gi_wp2
          simp only [Exit.noGoto]
          go_end0
          refine ⟨⟨_, rfl⟩, .inr ⟨_, ?_, hJx3⟩⟩
          rw [List.map_append, HP.out]
          refine List.IsPrefix.trans ?_ (fullTo_prefix bs nw (c + 1) (bs.length - (c + 1)) |>.trans (by rw [Nat.add_sub_cancel' (by omega)]; exact List.prefix_refl _))
          rw [fullTo_full hnc hem]
          exact List.prefix_refl _
    · obtain ⟨Ab, cb, hbv, _⟩ := HQ2.out.buckets.form
      rw [hbv] at e0
      gi_wp2
      simp only [Exit.noGoto]
      go_end0
      refine ⟨⟨_, rfl⟩, .inl ⟨pre, ?_, hJ⟩⟩
      rw [HP.out]
      by_cases h1 : bs.length ≤ nw
      · rw [fullTo_nw _ _ c (by omega), fullTo_nw _ _ _ h1]
      · rw [show c = bs.length by omega]
set_option maxRecDepth 100000 in
set_option maxHeartbeats 1000000 in
/-- q.full(): the receiver is boxed; the function value captures the box. -/
theorem full_in (F : Fence) (n : Nat) (h21 : F.fn 21) (hro : F.round = none) (p0 : Option Addr) (w : World) :
    CallsIn F n Try.prog 21 #[.pointer p0] w fun e w' => e = .returned (.func (.func 23) #[] #[.pointer (some ⟨w.heap.size, 0, none⟩)]) ∧ w' = w.alloc (.cells #[.pointer p0] 24) := by
  refine callsIn_of_wp Try.func21 rfl h21 ?_ hro
  simp only [Try.ntmps21, List.size_toArray, List.length_cons, List.length_nil, Nat.reduceAdd, Nat.reduceSub, Array.replicate_succ, Array.replicate_zero, List.push_toArray, List.append_toArray, List.nil_append, List.cons_append]
  gi_wp2
  go_ret
  exact ⟨rfl, rfl⟩
set_option maxRecDepth 100000 in
set_option maxHeartbeats 1000000 in
/-- slices.Values(l), l of whole numbers. -/
theorem values_in (F : Fence) (n : Nat) (h22 : F.fn 22) (hro : F.round = none) (A : Option Addr) (len cap : Nat) (w : World) :
    CallsIn F n Try.prog 22 #[.slice A len cap] w fun e w' => e = .returned (.func (.func 24) #[] #[.pointer (some ⟨w.heap.size, 0, none⟩)]) ∧ w' = w.alloc (.cells #[.slice A len cap] 58) := by
  refine callsIn_of_wp Try.func22 rfl h22 ?_ hro
  simp only [Try.ntmps22, List.size_toArray, List.length_cons, List.length_nil, Nat.reduceAdd, Nat.reduceSub, Array.replicate_succ, Array.replicate_zero, List.push_toArray, List.append_toArray, List.nil_append, List.cons_append]
  gi_wp2
  go_ret
  exact ⟨rfl, rfl⟩
/-- what q.full() hands back, as a loop's law asks it -/
theorem full_stops (F : Fence) (n : Nat) (h23 : F.fn 23) (hro : F.round = none) (hn : 1 ≤ n) (Bn q : Nat) (G Fq : Nat → Prop) (bv : Value) (rvs : List Value) (bs : List (List Int)) (most cnt : Int) (nw : Nat)
    (hG : ∀ k, Fq k → ¬ G k) (hGB : ¬ G Bn) (hlen : bs.length ≤ 100000) (hnw : nw ≤ 100000) (w : World) (hBn : Bn < w.heap.size)
    (hc : w.cell? ⟨Bn, 0, none⟩ = some (.pointer (some ⟨q, 0, none⟩))) (hQ : Q3 Fq w q bv rvs bs most cnt nw) :
    SeqStopsK F n Try.prog 23 #[.pointer (some ⟨Bn, 0, none⟩)] (fun x : Bk bs nw => #[.int .i64 (x.1 : Int), rowv rvs x.1]) (Touch G)
      (fun ys => ys.map (·.1) = fullTo bs nw bs.length) (fun pre => pre.map (·.1) <+: fullTo bs nw bs.length) bs.length w := fun l J Jx W hW _ _ hY h0 =>
  full1_in F n h23 hro hn l Bn q G Fq bv rvs bs most cnt nw hG hGB hlen hnw J Jx hY W ((hW.cell (p := ⟨Bn, 0, none⟩) hBn).trans hc) (hQ.below hW) h0
set_option maxRecDepth 100000 in
set_option maxHeartbeats 2000000 in
theorem values1_in (F : Fence) (n : Nat) (h24 : F.fn 24) (hro : F.round = none) (hn : 1 ≤ n) (l Bs : Nat) (G : Nat → Prop) (sv : Value) (zs : List Int) (hG : ∀ k, sv.ownBlock = some k → ¬ G k) (hreach : zs.length ≤ 100000) (J Jx : List Int → World → Prop)
    (hY : ∀ pre x W, J pre W → pre.length < zs.length → YieldAt F (n - 1) Try.prog l #[.int .i64 x] W fun e W' =>
      (e = .returned (.bool true) ∧ J (pre ++ [x]) W' ∧ Touch G W W') ∨ (e = .returned (.bool false) ∧ Jx (pre ++ [x]) W'))
    (W : World) (hBs : W.cell? ⟨Bs, 0, none⟩ = some sv) (hS : SL W 3 1 sv zs.length (nums zs)) (h0 : J [] W) :
    CallsIn F n Try.prog 24 #[.func (.yield l) #[] #[], .pointer (some ⟨Bs, 0, none⟩)] W fun e W' => (∃ v, e = .returned v) ∧
      ((∃ ys, ys = zs ∧ J ys W') ∨ (∃ pre, pre <+: zs ∧ Jx pre W')) := by
  obtain ⟨A, cp, hsv, hcp⟩ := hS.form
  have HS := hid hS
  rw [hsv] at hBs
  refine callsIn_of_wp Try.func24 rfl h24 ?_ hro
  simp only [Try.ntmps24, List.size_toArray, List.length_cons, List.length_nil, Nat.reduceAdd, Nat.reduceSub, Array.replicate_succ, Array.replicate_zero, List.push_toArray, List.append_toArray, List.nil_append, List.cons_append]
  gi_wp2
  gi_loopw [7] (fun i wr => ∃ k : Nat, k ≤ zs.length ∧ i = .int .i64 k ∧ J (zs.take k) wr ∧ Hid (SL wr 3 1 sv zs.length (nums zs))) (fun i _ => zs.length - (intOf i).toNat)
  case atStart => exact ⟨0, Nat.zero_le _, rfl, by simpa using h0, HS⟩
  case round =>
    obtain ⟨k, hk, rfl, hJs, HS2⟩ := hrel
    by_cases hlt : k < zs.length
    · obtain ⟨g, off, cap, hv, hcap, _, hgc, _⟩ := HS2.out.open_ (by omega)
      have hcx := hgc k (by omega)
      rw [hsv] at hv
      obtain ⟨rfl, -, rfl⟩ : A = some ⟨g, off, none⟩ ∧ True ∧ cp = cap := by simpa using hv
      have hz : (nums zs)[k]? = some (.int .i64 zs[k]) := by simp [nums, hlt]
      rw [hz] at hcx
      clear hgc hv
      obtain ⟨fn, tmps, assign, body, hy, hR⟩ := hY _ zs[k] wr hJs (by rw [List.length_take]; omega)
      gi_wp2
      refine hR.mono ?_
      rintro e W3 (⟨rfl, hJ3, hk3⟩ | ⟨rfl, hJx3⟩)
      · have hS3 := hid (HS2.out.touch hk3 hG)
        gi_wp2
        go_roundw
        case rel => exact ⟨k + 1, by omega, by simp, by rw [List.take_add_one, List.getElem?_eq_getElem hlt]; exact hJ3, hS3⟩
        case measure => simp [intOf]; omega
      · gi_wp2
        refine bodyPost_ret (results_none rfl _ _ _) rfl ?_
        refine ⟨⟨_, rfl⟩, .inr ⟨_, ?_, hJx3⟩⟩
        rw [show zs.take k ++ [zs[k]] = zs.take (k + 1) by rw [List.take_add_one, List.getElem?_eq_getElem hlt]; rfl]
        exact List.take_prefix _ _
    · obtain rfl : k = zs.length := by omega
      gi_wp2
      go_end0
      exact ⟨⟨_, rfl⟩, .inl ⟨_, rfl, by simpa using hJs⟩⟩
theorem values_stops (F : Fence) (n : Nat) (h24 : F.fn 24) (hro : F.round = none) (hn : 1 ≤ n) (Bs : Nat) (G : Nat → Prop) (sv : Value) (zs : List Int) (hG : ∀ k, sv.ownBlock = some k → ¬ G k) (hreach : zs.length ≤ 100000) (w : World) (hBs : Bs < w.heap.size)
    (hc : w.cell? ⟨Bs, 0, none⟩ = some sv) (hS : SL w 3 1 sv zs.length (nums zs)) :
    SeqStopsK F n Try.prog 24 #[.pointer (some ⟨Bs, 0, none⟩)] (fun x : Int => #[Value.int .i64 x]) (Touch G) (fun ys => ys = zs) (fun pre => pre <+: zs) zs.length w := fun l J Jx W hW _ _ hY h0 =>
  values1_in F n h24 hro hn l Bs G sv zs hG hreach J Jx hY W ((hW.cell (p := ⟨Bs, 0, none⟩) hBs).trans hc) (hS.keep fun k hk => hW.block k (hS.lt k hk)) h0
end Go.Proofs.Ytmbpdboengaclaa
