/- The walk of bucket's Pop. -/
import Derived.Test.YtmbpdboengaclaaQc
import Derived.Test.YtmbpdboengaclaaCalm
namespace Go.Proofs.Ytmbpdboengaclaa
set_option linter.unusedVariables false
set_option linter.unusedSimpArgs false
open Go.RowKit Go.Shelf Go.Proofs.YtmbpdboengaclaaW.PrintLast
attribute [local go_sem] Oper.semAt_some
theorem cells_grown {A B : World} {row : Option Nat} {b : Nat} (hg : A.grownBy B row) (hr : ∀ r, row = some r → b ≤ r ∧ ∃ o : Obj, A.heap[r]? = some o ∧ o.isCells = false) : ∀ (k : Nat) (cs : Array Value) (t : TypeId) (fr : Nat × Nat), A.heap[k]? = some (Obj.cells cs t fr) → B.heap[k]? = A.heap[k]? := fun k cs t fr hk =>
  hg.block k (blk_lt hk) (fun e => by obtain ⟨_, o, ho, hc⟩ := hr k e.symm; rw [hk] at ho; cases ho; cases hc)
/-- What holds when Pop's loop begins. -/
structure PopI (B : Nat) (Fq : Nat → Prop) (w : World) (q : Nat) (bv : Value) (rvs : List Value) (bs : List (List Int)) (most cnt now : Int) (W : World) : Prop where
  xq : W.heap[B]? = some (.cells #[.pointer (some ⟨q, 0, none⟩)] 24 (0, 0))
  xx : W.heap[B + 1]? = some (.cells #[.int .i64 0, .int .i64 0] 31 (0, 0))
  xe : W.heap[B + 2]? = some (.cells #[.int .i64 10] 25 (0, 0))
  qq : Q3 Fq W q bv rvs bs most cnt now
  below : Touch Fq w W
/-- What holds when Pop's loop has been left. -/
structure PopX (B : Nat) (Fq : Nat → Prop) (w : World) (q : Nat) (bs : List (List Int)) (most cnt : Int) (c : Nat) (W : World) : Prop where
  ex : ∃ v r, row bs c = v :: r ∧ W.heap[B + 1]? = some (.cells #[.int .i64 (c : Int), .int .i64 v] 31 (0, 0)) ∧ QAt Fq W q (bs.set c r) most (cnt - 1) c
  xe : W.heap[B + 2]? = some (.cells #[.int .i64 0] 25 (0, 0))
  below : Touch Fq w W
theorem touch_grown {b : Nat} {Fq : Nat → Prop} {w A B : World} {row : Option Nat} (h : Touch Fq w A) (hw : w.heap.size ≤ b) (hg : A.grownBy B row) (hr : ∀ r, row = some r → b ≤ r ∧ ∃ o : Obj, A.heap[r]? = some o ∧ o.isCells = false) : Touch Fq w B :=
  ⟨hg.os.trans h.os, hg.tape.trans h.tape, hg.output.trans h.output, Nat.le_trans h.size hg.size, fun k hk hf => (hg.block k (Nat.lt_of_lt_of_le hk h.size) (fun e => by have := (hr k e.symm).1; omega)).trans (h.block k hk hf)⟩
theorem PopI.own {β : Type} {C B : Nat} {Fq : Nat → Prop} {w : World} {q : Nat} {bv : Value} {rvs : List Value} {bs : List (List Int)} {most cnt now : Int} (hC : w.heap.size ≤ C) :
    OwnFrom C (fun (_ : β) W => PopI B Fq w q bv rvs bs most cnt now W) := fun _ X Y row hs hg hr => by
  have hc := cells_grown hg hr
  exact ⟨(hc _ _ _ _ hs.xq).trans hs.xq, (hc _ _ _ _ hs.xx).trans hs.xx, (hc _ _ _ _ hs.xe).trans hs.xe, hs.qq.keepC hc, touch_grown hs.below hC hg hr⟩
theorem PopX.own {C B : Nat} {Fq : Nat → Prop} {w : World} {q : Nat} {bs : List (List Int)} {most cnt : Int} (hC : w.heap.size ≤ C) :
    OwnFrom C (fun (c : Nat) W => PopX B Fq w q bs most cnt c W) := fun _ X Y row hs hg hr => by
  have hc := cells_grown hg hr
  obtain ⟨v, r, h1, h2, bv, rvs, h3⟩ := hs.ex
  exact ⟨⟨v, r, h1, (hc _ _ _ _ h2).trans h2, bv, rvs, h3.keepC hc⟩, (hc _ _ _ _ hs.xe).trans hs.xe, touch_grown hs.below hC hg hr⟩
theorem alloc4 (w : World) (a b c d : Obj) : ((((w.alloc a).alloc b).alloc c).alloc d).heap[w.heap.size]? = some a ∧ ((((w.alloc a).alloc b).alloc c).alloc d).heap[w.heap.size + 1]? = some b ∧
    ((((w.alloc a).alloc b).alloc c).alloc d).heap[w.heap.size + 2]? = some c ∧ ((((w.alloc a).alloc b).alloc c).alloc d).heap[w.heap.size + 3]? = some d ∧ ((((w.alloc a).alloc b).alloc c).alloc d).heap.size = w.heap.size + 4 := by
  have hs : ∀ (W : World) (o : Obj), (W.alloc o).heap.size = W.heap.size + 1 := fun W o => World.size_alloc W o
  have hn : ∀ (W : World) (o : Obj) (k : Nat), W.heap.size = k → (W.alloc o).heap[k]? = some o := fun W o k e => by subst e; exact heap_alloc_new W o
  have hk : ∀ (W : World) (o : Obj) (k : Nat) (x : Obj), W.heap[k]? = some x → (W.alloc o).heap[k]? = some x := fun W o k x h => (Below.heap_alloc W o k (blk_lt h)).trans h
  refine ⟨hk _ _ _ _ (hk _ _ _ _ (hk _ _ _ _ (hn _ _ _ rfl))), hk _ _ _ _ (hk _ _ _ _ (hn _ _ _ (hs _ _))), hk _ _ _ _ (hn _ _ _ (by rw [hs, hs])), hn _ _ _ (by rw [hs, hs, hs]), by rw [hs, hs, hs, hs]⟩
theorem results_pair (tmps : Array Value) (W : World) (g g' : Nat) (cs : Array Value) (v : Value) (hp : tmps.getD 2 undef = .pointer (some ⟨g, 0, none⟩)) (hp' : tmps.getD 3 undef = .pointer (some ⟨g', 0, none⟩))
    (hg : W.heap[g]? = some (.cells cs 31 (0, 0))) (hcs : cs.size = 2) (hg' : W.heap[g']? = some (.cells #[v] 25 (0, 0))) :
    (results Try.f12 tmps).run Try.prog W = .ok (.tuple #[.agg cs, v]) W := by
  have h1 : tmps[2]?.getD undef = .pointer (some ⟨g, 0, none⟩) := by simpa using hp
  have h2 : tmps[3]?.getD undef = .pointer (some ⟨g', 0, none⟩) := by simpa using hp'
  have hi : (Try.prog.info? 31).map (·.size) = some cs.size := by rw [hcs]; kernel_rfl
  have hl : (loadVar 25 ⟨g', 0, none⟩).run Try.prog W = .ok v W := by
    have hc : W.cell? ⟨g', 0, none⟩ = some v := by rw [cell_of_row W g' 0 _ _ _ hg']; rfl
    have hu := Try.underlying25
    go_simp
  simp [results, show Try.f12.results = #[.cell 2 31, .cell 3 25] from rfl, h1, h2, asAddr, run_loadVar_row W g 31 31 cs (0, 0) _ hg Try.underlying31 rfl hi, hl]
theorem same_set {W : World} {g j : Nat} {cs : Array Value} {t : TypeId} {v : Value} (hg : W.heap[g]? = some (.cells cs t (0, 0))) (hj : cs[j]? = some v) : ∀ k : Nat, (W.setCell ⟨g, j, none⟩ v).heap[k]? = W.heap[k]? := fun k => by
  by_cases h : k = g
  · subst h
    rw [heap_setCell_same W k j cs t v hg, hg]
    have hl : j < cs.size := (Array.getElem?_eq_some_iff.1 hj).1
    have he : cs[j] = v := (Array.getElem?_eq_some_iff.1 hj).2
    rw [← he, Array.setIfInBounds_def, dif_pos hl, Array.set_getElem_self]
  · exact Below.heap_setCell W _ _ k h
/-- Behind Pop's last statement all lies as it lay. -/
theorem pop_same {W : World} {B : Nat} {a b z : Value} (hx : W.heap[B + 1]? = some (.cells #[a, b] 31 (0, 0))) (he : W.heap[B + 2]? = some (.cells #[z] 25 (0, 0))) :
    ∀ k : Nat, (((W.setCell ⟨B + 1, 0, none⟩ a).setCell ⟨B + 1, 1, none⟩ b).setCell ⟨B + 1 + 1, 0, none⟩ z).drew.heap[k]? = W.heap[k]? := fun k => by
  have h1 := same_set (j := 0) (v := a) hx rfl
  have h2 := same_set (j := 1) (v := b) ((h1 _).trans hx) rfl
  have h3 := same_set (g := B + 1 + 1) (j := 0) (v := z) (((h2 _).trans (h1 _)).trans he) rfl
  exact ((h3 k).trans (h2 k)).trans (h1 k)
theorem put_other {W : World} {D k : Nat} {o : Obj} (h : k ≠ D) : (W.putObj D o).heap[k]? = W.heap[k]? := World.putObj_heap_other h
def PopPost (Fq : Nat → Prop) (w : World) (q : Nat) (bs : List (List Int)) (most cnt : Int) (nw : Nat) (e : Ending) (w' : World) : Prop :=
  Touch Fq w w' ∧
  (fullTo bs nw bs.length = [] → e = .returned (.tuple #[.agg #[.int .i64 0, .int .i64 0], .int .i64 10]) ∧ QAt Fq w' q bs most cnt nw) ∧
  (∀ c l, fullTo bs nw bs.length = c :: l → ∃ v r, row bs c = v :: r ∧ e = .returned (.tuple #[.agg #[.int .i64 (c : Int), .int .i64 v], .int .i64 0]) ∧ QAt Fq w' q (bs.set c r) most (cnt - 1) c)
set_option maxRecDepth 100000 in
set_option maxHeartbeats 4000000 in
theorem pop_in (F : Fence) (n : Nat) (h12 : F.fn 12) (h21 : F.fn 21) (h23 : F.fn 23) (hro : F.round = none) (hn : 6 ≤ n) {Fq : Nat → Prop} {w : World} {q : Nat} {bv : Value} {rvs : List Value} {bs : List (List Int)} {most cnt : Int} {nw : Nat}
    (h : Q3 Fq w q bv rvs bs most cnt nw) (hFq : ∀ k, Fq k → k < w.heap.size) (hlen : bs.length ≤ 100000) (hnw : nw ≤ 100000) (hc0 : 0 ≤ cnt) (hc1 : cnt ≤ 100000) :
    CallsIn F n Try.prog 12 #[.pointer (some ⟨q, 0, none⟩)] w (PopPost Fq w q bs most cnt nw) := by
  have h1 : 1 ≤ n := by omega
  refine callsIn_of_wp_marks Try.func12 rfl h12 ?_ hro
  simp only [Try.ntmps12, List.size_toArray, List.length_cons, List.length_nil, Nat.reduceAdd, Nat.reduceSub, Array.replicate_succ, Array.replicate_zero, List.push_toArray, List.append_toArray, List.nil_append, List.cons_append]
  gi_wp2_with (gi_at_call 21; refine (full_in F (n - 1) h21 hro _ _).mono ?_; rintro e w' ⟨rfl, rfl⟩)
  obtain ⟨W0, hW0⟩ : ∃ W0, ((((w.alloc (.cells #[.pointer (some ⟨q, 0, none⟩)] 24)).alloc (.cells #[.int .i64 0, .int .i64 0] 31)).alloc (.cells #[.int .i64 10] 25)).alloc (.cells #[.pointer (some ⟨q, 0, none⟩)] 24)) = W0 := ⟨_, rfl⟩
  have hB0 : Below w.heap.size w W0 := by rw [← hW0]; exact balloc (balloc (balloc (balloc (Below.refl _ w) _) _) _) _
  obtain ⟨b0, b1, b2, b3, hsz⟩ := alloc4 w (.cells #[.pointer (some ⟨q, 0, none⟩)] 24) (.cells #[.int .i64 0, .int .i64 0] 31) (.cells #[.int .i64 10] 25) (.cells #[.pointer (some ⟨q, 0, none⟩)] 24)
  rw [hW0] at b0 b1 b2 b3 hsz ⊢
  clear hW0
  have hI0 : PopI w.heap.size Fq w q bv rvs bs most cnt nw W0 := ⟨b0, b1, b2, h.below hB0, (Touch.of_below hB0 (Nat.le_refl _)).mono (fun _ h => h.elim)⟩
  have hbox : W0.cell? ⟨w.heap.size + 1 + 1 + 1, 0, none⟩ = some (.pointer (some ⟨q, 0, none⟩)) := by rw [cell_of_row W0 _ 0 _ _ _ b3]; rfl
  refine wpIn_rangeFunc_ownG hro h1 (gf := 23) (lb := #[.pointer (some ⟨w.heap.size + 1 + 1 + 1, 0, none⟩)]) rfl h23 (enters_of Try.func23 (by kernel_rfl) rfl)
    (full_stops F (n - 1) h23 hro (by omega) (w.heap.size + 1 + 1 + 1) q (fun k => W0.heap.size ≤ k) Fq bv rvs bs most cnt nw (fun k hk => by have := hFq k hk; omega) (by omega) hlen hnw W0 (by omega) hbox hI0.qq)
    (fun h k => h.trans k (fun i hi => .inl hi)) (fun W l o o' hl _ _ _ => ⟨rfl, rfl, rfl, by simp, fun k _ hk => World.putObj_heap_other (fun e => hk (by omega))⟩) (Below.refl _ _) (fun _ => rfl)
    (fun pre W => pre = [] ∧ PopI w.heap.size Fq w q bv rvs bs most cnt nw W)
    (fun c pre W => c = .exit 0 ∧ ∃ x : Bk bs nw, pre = [x] ∧ PopX w.heap.size Fq w q bs most cnt x.1 W)
    (OwnFrom.and (ownFrom_pure _ (fun pre => pre = [])) (PopI.own (by omega)))
    (fun c pre X Y row hs hg hr => by
      obtain ⟨h1, x, h2, h3⟩ := hs
      exact ⟨h1, x, h2, PopX.own (C := W0.heap.size) (by omega) x.1 X Y row h3 hg hr⟩)
    ⟨rfl, hI0⟩
    (fun x => { tmps := #[.pointer (some ⟨q, 0, none⟩), .pointer (some ⟨w.heap.size, 0, none⟩), .pointer (some ⟨w.heap.size + 1, 0, none⟩), .pointer (some ⟨w.heap.size + 1 + 1, 0, none⟩), .int .i64 (x.1 : Int), rowv rvs x.1,
      .pointer (some ⟨q, 0, none⟩), .bool false, undef, .pointer (some ⟨q, 0, none⟩), .func (.func 23) #[] #[.pointer (some ⟨w.heap.size + 1 + 1 + 1, 0, none⟩)], .int .i64 (x.1 : Int), rowv rvs x.1,
      undef, undef, undef, undef, undef, undef, undef, undef, undef, undef, undef, undef, undef, undef, undef, undef, undef, undef, undef, undef, undef, undef, undef, undef, undef, undef], defers := [] }) ?assign ?body ?done ?stop
  case assign =>
    intro l x W K hK
    gi_wp2
    exact hK
  case body =>
    rintro l pre ⟨c, hnc, hcl, hce⟩ W ⟨rfl, hI⟩ _
    have hqq := hI.qq
    obtain ⟨v, r, hvr⟩ : ∃ v r, row bs c = v :: r := by
      cases hr : row bs c with
      | nil => exact absurd hr hce
      | cons v r => exact ⟨v, r, rfl⟩
    have hrl : (row bs c).length = r.length + 1 := by rw [hvr]; rfl
    obtain ⟨g2, off2, cap2, hrv, hcap2, hro2, hrc, hrf⟩ := (hqq.rows c).open_ (by omega)
    have hc2 := hrc 0 (by omega)
    have hz : (nums (row bs c))[0]? = some (.int .i64 v) := by rw [hvr]; rfl
    rw [hz, Nat.add_zero] at hc2
    obtain ⟨g, off, cap, hbv, hcap, hbo, hbc, hbf⟩ := hqq.buckets.open_ (by omega)
    have q0 := hqq.cell0
    have x0 : W.cell? ⟨w.heap.size + 1, 0, none⟩ = some (.int .i64 0) := by rw [cell_of_row W _ 0 _ _ _ hI.xx]; rfl
    have x1 : W.cell? ⟨w.heap.size + 1, 1, none⟩ = some (.int .i64 0) := by rw [cell_of_row W _ 1 _ _ _ hI.xx]; rfl
    have f0 : W.frozen? ⟨w.heap.size + 1, 0, none⟩ = false := frozen_of_row W _ 0 _ _ hI.xx
    have f1 : W.frozen? ⟨w.heap.size + 1, 1, none⟩ = false := frozen_of_row W _ 1 _ _ hI.xx
    have e0 : W.cell? ⟨w.heap.size + 1 + 1, 0, none⟩ = some (.int .i64 10) := by rw [cell_of_row W _ 0 _ _ _ hI.xe]; rfl
    have ef : W.frozen? ⟨w.heap.size + 1 + 1, 0, none⟩ = false := frozen_of_row W _ 0 _ _ hI.xe
    have HI := hid hI
    have hbv' := hbv
    subst hbv
    rw [hrv]
    have hz2 : rvs[c]? = some (rowv rvs c) := rowv_get _ _ (by rw [hqq.rlen]; exact hcl)
    have hcc := hbc c (by omega)
    rw [hz2, hrv] at hcc
    have hfc := hbf (off + c)
    clear hI hrc hrf hbc hqq hbf hz hz2
    gi_wp2
    obtain ⟨W1, hW1⟩ : ∃ W1, ((W.setCell ⟨w.heap.size + 1, 0, none⟩ (.int .i64 (c : Int))).setCell ⟨w.heap.size + 1, 1, none⟩ (.int .i64 v)).setCell ⟨w.heap.size + 1 + 1, 0, none⟩ (.int .i64 0) = W1 := ⟨_, rfl⟩
    have hfar : ∀ k : Nat, k ≠ w.heap.size + 1 → k ≠ w.heap.size + 2 → W1.heap[k]? = W.heap[k]? := fun k h1 h2 => by
      rw [← hW1]
      exact (Below.heap_setCell _ _ _ k h2).trans ((Below.heap_setCell _ _ _ k h1).trans (Below.heap_setCell _ _ _ k h1))
    have hQ1 := HI.out.qq.keep (w' := W1) fun k hk _ => hfar k (by have := hFq k hk; omega) (by have := hFq k hk; omega)
    have hxx1 : W1.heap[w.heap.size + 1]? = some (.cells #[.int .i64 (c : Int), .int .i64 v] 31 (0, 0)) := by
      rw [← hW1]
      exact (Below.heap_setCell _ _ _ _ (by simp)).trans (heap_setCell_same _ _ 1 _ _ _ (heap_setCell_same _ _ 0 _ _ _ HI.out.xx))
    have hxe1 : W1.heap[w.heap.size + 2]? = some (.cells #[.int .i64 0] 25 (0, 0)) := by
      rw [← hW1]
      exact heap_setCell_same _ _ 0 _ _ _ ((Below.heap_setCell _ _ _ _ (by simp)).trans ((Below.heap_setCell _ _ _ _ (by simp)).trans HI.out.xe))
    have hT1 : Touch Fq w W1 := by
      rw [← hW1]
      exact ((HI.out.below.setCell (p := ⟨w.heap.size + 1, 0, none⟩) (.inr (by simp)) _).setCell (p := ⟨w.heap.size + 1, 1, none⟩) (.inr (by simp)) _).setCell (p := ⟨w.heap.size + 1 + 1, 0, none⟩) (.inr (by simp; omega)) _
    have hK1 : KeepsOthers W W1 := by
      rw [← hW1]
      exact ((KeepsOthers.setCell _ _ _).trans (KeepsOthers.setCell _ _ _)).trans (KeepsOthers.setCell _ _ _)
    have hx1 : W1.cell? ⟨w.heap.size, 0, none⟩ = some (.pointer (some ⟨q, 0, none⟩)) := by rw [cell_of_row W1 _ 0 _ _ _ ((hfar _ (by omega) (by omega)).trans HI.out.xq)]; rfl
    have hgB : ∀ k, (Value.slice (some ⟨g, off, none⟩) bs.length cap).ownBlock = some k → W1.heap[k]? = W.heap[k]? := fun k hk => hfar k (by have := hFq k (HI.out.qq.fb k hk); omega) (by have := hFq k (HI.out.qq.fb k hk); omega)
    rw [hW1]
    clear hfar hW1 x0 x1 f0 f1 e0 ef q0 hc2
    have q0 := hQ1.cell0
    have hcc1 : W1.cell? ⟨g, off + c, none⟩ = some (.slice (some ⟨g2, off2, none⟩) (row bs c).length cap2) := (World.cell?_of_block (hgB g rfl)).trans hcc
    have hfc1 : W1.frozen? ⟨g, off + c, none⟩ = false := (World.frozen?_of_block (hgB g rfl)).trans hfc
    have hn0 : (0 : Int) ≤ (c : Int) := by omega
    have hn2 : (1 : Int) ≤ (r.length : Int) + 1 := by omega
    have hn1 : (c : Int) < (bs.length : Int) := by omega
    refine start_in (ds := [8]) (S := fun w' => w'.cell? ⟨w.heap.size, 0, none⟩ = some (.pointer (some ⟨q, 0, none⟩)) ∧ w'.cell? ⟨q, 0, none⟩ = some (.slice (some ⟨g, off, none⟩) bs.length cap) ∧ w'.cell? ⟨g, off + c, none⟩ = some (.slice (some ⟨g2, off2, none⟩) (row bs c).length cap2) ∧ w'.frozen? ⟨g, off + c, none⟩ = false) #[false, false, false, false, false, false, false, false, false] (by kernel_rfl) (by rfl) (by rfl) (by kernel_rfl) (fun ⟨_, _, h⟩ => h) ⟨hx1, q0, hcc1, hfc1⟩ (fun hHeld => ?_)
    refine take_ (i := 0) (N := (some 18)) (v := ?_) (a' := ?_) #[true, false, false, false, false, false, false, false, false] rfl rfl (by kernel_rfl) (fun _ _ _ h => h) (Or.inl ⟨by rfl, ?_⟩) hHeld ?_ ?_
    rotate_left
    · rintro w' ⟨s0, s1, s2, s3⟩
      go_simp
      with_reducible rfl
    rotate_left
    · simp only [Act.put, List.setIfInBounds_toArray, List.set_cons_zero, List.set_cons_succ]
      rfl
    refine pure_ (i := 1) (N := (some 19)) (v := ?_) (a' := ?_) #[true, true, false, false, false, false, false, false, false] rfl rfl (by kernel_rfl) (fun _ _ _ h => h) (Or.inl ⟨by rfl, ?_⟩) ?_ ?_
    rotate_left
    · intro w'
      go_simp
      with_reducible rfl
    rotate_left
    · simp only [Act.put, List.setIfInBounds_toArray, List.set_cons_zero, List.set_cons_succ]
      rfl
    refine pure_ (i := 2) (N := (some 20)) (v := ?_) (a' := ?_) #[true, true, true, false, false, false, false, false, false] rfl rfl (by kernel_rfl) (fun _ _ _ h => h) (Or.inl ⟨by rfl, ?_⟩) ?_ ?_
    rotate_left
    · intro w'
      go_simp
      with_reducible rfl
    rotate_left
    · simp only [Act.put, List.setIfInBounds_toArray, List.set_cons_zero, List.set_cons_succ]
      rfl
    refine take_ (i := 3) (N := (some 21)) (v := ?_) (a' := ?_) #[true, true, true, true, false, false, false, false, false] rfl rfl (by kernel_rfl) (fun _ _ _ h => h) (Or.inl ⟨by rfl, ?_⟩) hHeld ?_ ?_
    rotate_left
    · rintro w' ⟨s0, s1, s2, s3⟩
      go_simp
      with_reducible rfl
    rotate_left
    · simp only [Act.put, List.setIfInBounds_toArray, List.set_cons_zero, List.set_cons_succ]
      rfl
    refine pure_ (i := 4) (N := (some 22)) (v := ?_) (a' := ?_) #[true, true, true, true, true, false, false, false, false] rfl rfl (by kernel_rfl) (fun _ _ _ h => h) (Or.inl ⟨by rfl, ?_⟩) ?_ ?_
    rotate_left
    · intro w'
      go_simp
      with_reducible rfl
    rotate_left
    · simp only [Act.put, List.setIfInBounds_toArray, List.set_cons_zero, List.set_cons_succ]
      rfl
    refine pure_ (i := 5) (N := (some 23)) (v := ?_) (a' := ?_) #[true, true, true, true, true, true, false, false, false] rfl rfl (by kernel_rfl) (fun _ _ _ h => h) (Or.inl ⟨by rfl, ?_⟩) ?_ ?_
    rotate_left
    · intro w'
      go_simp
      with_reducible rfl
    rotate_left
    · simp only [Act.put, List.setIfInBounds_toArray, List.set_cons_zero, List.set_cons_succ]
      rfl
    refine pure_ (i := 6) (N := (some 24)) (v := ?_) (a' := ?_) #[true, true, true, true, true, true, true, false, false] rfl rfl (by kernel_rfl) (fun _ _ _ h => h) (Or.inl ⟨by rfl, ?_⟩) ?_ ?_
    rotate_left
    · intro w'
      go_simp
      with_reducible rfl
    rotate_left
    · simp only [Act.put, List.setIfInBounds_toArray, List.set_cons_zero, List.set_cons_succ]
      rfl
    refine pure_ (i := 7) (N := (some 25)) (v := ?_) (a' := ?_) #[true, true, true, true, true, true, true, true, false] rfl rfl (by kernel_rfl) (fun _ _ _ h => h) (Or.inl ⟨by rfl, ?_⟩) ?_ ?_
    rotate_left
    · intro w'
      go_simp
      with_reducible rfl
    rotate_left
    · simp only [Act.put, List.setIfInBounds_toArray, List.set_cons_zero, List.set_cons_succ]
      rfl
    refine last_ (i := 8) (N := none) #[true, true, true, true, true, true, true, true, true] rfl rfl (by kernel_rfl) (by decide) (fun K hK => ?_)
    refine step_store_cell (by rfl) 58 _ _ (by rfl) (by rfl) g (off + c) (by rfl) (.slice (if cap2 = 1 then some ⟨g2, off2, none⟩ else some ⟨g2, off2 + 1, none⟩) r.length (cap2 - 1)) _ (by rfl) hcc1 hfc1 info58s rfl ?_
    rintro W2 hW2
    refine hK.out _ _ ?_
    clear hK K
    refine done_ (by kernel_rfl) ?_
    have hSL : SL W1 3 1 (.slice (if cap2 = 1 then some ⟨g2, off2, none⟩ else some ⟨g2, off2 + 1, none⟩) r.length (cap2 - 1)) r.length (nums r) := by
      have h3 := hQ1.rows c
      rw [hrv, hvr] at h3
      have h4 := h3.drop_ (k := 1) (by simp)
      have h5 : (Option.map (fun x => x.add (1 * 1)) (some (⟨g2, off2, none⟩ : Addr))) = some ⟨g2, off2 + 1, none⟩ := by simp [Addr.add_lit]
      rw [h5] at h4
      exact h4
    have hown : ∀ k, (Value.slice (if cap2 = 1 then some (⟨g2, off2, none⟩ : Addr) else some ⟨g2, off2 + 1, none⟩) r.length (cap2 - 1)).ownBlock = some k → (rowv rvs c).ownBlock = some k := fun k hk => by
      rw [hro2]
      split at hk <;> exact hk
    have hp := hQ1.put0 (w1 := W1.drew) (i := c) (xs := r) hcl (hSL.keep fun _ _ => rfl) ⟨rfl, rfl, rfl, Nat.le_refl _, fun _ _ _ => rfl⟩ (fun k hk => .inl (hown k hk)) rfl
    have hqlt := hFq q hp.fq
    have hglt := hFq g (hp.fb g rfl)
    have hT2 : Touch Fq w W2 := by rw [hW2]; exact hT1.drew.setCell (.inl (hp.fb g rfl)) _
    have hK2 : KeepsOthers W W2 := by rw [hW2]; exact (hK1.trans (⟨Nat.le_refl _, fun _ _ h _ => h⟩ : KeepsOthers W1 W1.drew)).trans (KeepsOthers.setCell W1.drew _ _)
    have hfar2 : ∀ k : Nat, k ≠ g → W2.heap[k]? = W1.heap[k]? := fun k h1 => by
      rw [hW2]
      exact Below.heap_setCell _ _ _ k h1
    have hxx2 := (hfar2 (w.heap.size + 1) (by omega)).trans hxx1
    have hxe2 := (hfar2 (w.heap.size + 2) (by omega)).trans hxe1
    have hx2 : W2.cell? ⟨w.heap.size, 0, none⟩ = some (.pointer (some ⟨q, 0, none⟩)) := (World.cell?_of_block (hfar2 w.heap.size (by omega))).trans hx1
    rw [← hW2] at hp
    have p2 := hp.cell2
    have p3 := hp.cell3
    have pf2 := hp.frozen 2
    have pf3 := hp.frozen 3
    have HP := hid hp
    have HT := hid hT2
    have HKK := hid hK2
    have hqB : w.heap.size ≠ q := by omega
    clear hp hT2 hK2 hT1 hK1 hSL hown hQ1 hHeld hfar2 hW2 hcc1 hfc1 q0 hx1 hgB
    gi_wp2
    all_goals
      refine ⟨((HKK.out.trans (KeepsOthers.setCell _ _ _)).trans (KeepsOthers.setCell _ _ _)).from _, rfl, c, ⟨⟨hnc, hcl, hce⟩, rfl⟩, ⟨v, r, hvr, ?_, _, _, (HP.out.set3 _).set2 _⟩, ?_, (HT.out.setCell (p := ⟨q, 3, none⟩) (.inl HP.out.fq) _).setCell (p := ⟨q, 2, none⟩) (.inl HP.out.fq) _⟩
      · exact (Below.heap_setCell _ _ _ _ (by simp; omega)).trans ((Below.heap_setCell _ _ _ _ (by simp; omega)).trans hxx2)
      · exact (Below.heap_setCell _ _ _ _ (by simp; omega)).trans ((Below.heap_setCell _ _ _ _ (by simp; omega)).trans hxe2)
  case done =>
    rintro D ys W hD hS ⟨rfl, hI⟩ hK
    have x0 : W.cell? ⟨w.heap.size + 1, 0, none⟩ = some (.int .i64 0) := by rw [cell_of_row W _ 0 _ _ _ hI.xx]; rfl
    have x1 : W.cell? ⟨w.heap.size + 1, 1, none⟩ = some (.int .i64 0) := by rw [cell_of_row W _ 1 _ _ _ hI.xx]; rfl
    have f0 : W.frozen? ⟨w.heap.size + 1, 0, none⟩ = false := frozen_of_row W _ 0 _ _ hI.xx
    have f1 : W.frozen? ⟨w.heap.size + 1, 1, none⟩ = false := frozen_of_row W _ 1 _ _ hI.xx
    have e0 : W.cell? ⟨w.heap.size + 1 + 1, 0, none⟩ = some (.int .i64 10) := by rw [cell_of_row W _ 0 _ _ _ hI.xe]; rfl
    have ef : W.frozen? ⟨w.heap.size + 1 + 1, 0, none⟩ = false := frozen_of_row W _ 0 _ _ hI.xe
    have HI := hid hI
    clear hI
    gi_wp2
    gi_region
    all_goals gi_wp2
    all_goals
      have hsame := pop_same HI.out.xx HI.out.xe
      have hDs : ∀ k cs t fr, W.heap[k]? = some (Obj.cells cs t fr) → k ≠ D := fun k cs t fr hk e => by rw [e, hK] at hk; cases hk
      refine ⟨by simp, .inl ⟨_, _, rfl, run_takeDeferred ((hsame D).trans hK), ?_⟩⟩
      refine ⟨_, results_pair _ _ (w.heap.size + 1) (w.heap.size + 2) #[.int .i64 0, .int .i64 0] (.int .i64 10) rfl rfl ?_ rfl ?_, ?_⟩
      · rw [put_other (hDs _ _ _ _ HI.out.xx), hsame]; exact HI.out.xx
      · rw [put_other (hDs _ _ _ _ HI.out.xe), hsame]; exact HI.out.xe
      · have hT := HI.out.below
        refine ⟨⟨hT.os, hT.tape, hT.output, by simpa using hT.size, fun k hk hf => by rw [put_other (by omega), hsame]; exact hT.block k hk hf⟩, fun _ => ⟨rfl, ⟨bv, rvs, HI.out.qq.keepC fun k cs t fr hk => by rw [put_other (hDs _ _ _ _ hk), hsame]⟩⟩, fun c l hcl => ?_⟩
        rw [← hS] at hcl
        cases hcl
  case stop =>
    rintro D c pre W hD hSp ⟨rfl, x, rfl, hX⟩ hK
    obtain ⟨v, r, hrow, hxx, hqq⟩ := hX.ex
    have x0 : W.cell? ⟨w.heap.size + 1, 0, none⟩ = some (.int .i64 (x.1 : Int)) := by rw [cell_of_row W _ 0 _ _ _ hxx]; rfl
    have x1 : W.cell? ⟨w.heap.size + 1, 1, none⟩ = some (.int .i64 v) := by rw [cell_of_row W _ 1 _ _ _ hxx]; rfl
    have f0 : W.frozen? ⟨w.heap.size + 1, 0, none⟩ = false := frozen_of_row W _ 0 _ _ hxx
    have f1 : W.frozen? ⟨w.heap.size + 1, 1, none⟩ = false := frozen_of_row W _ 1 _ _ hxx
    have e0 : W.cell? ⟨w.heap.size + 1 + 1, 0, none⟩ = some (.int .i64 0) := by rw [cell_of_row W _ 0 _ _ _ hX.xe]; rfl
    have ef : W.frozen? ⟨w.heap.size + 1 + 1, 0, none⟩ = false := frozen_of_row W _ 0 _ _ hX.xe
    have HX := hid hX
    have HXX := hid hxx
    have HQQ := hid hqq
    clear hX hxx hqq
    gi_wp2
    gi_region
    all_goals gi_wp2
    all_goals
      have hsame := pop_same HXX.out HX.out.xe
      have hDs : ∀ k cs t fr, W.heap[k]? = some (Obj.cells cs t fr) → k ≠ D := fun k cs t fr hk e => by rw [e, hK] at hk; cases hk
      refine ⟨by simp, .inl ⟨_, _, rfl, run_takeDeferred ((hsame D).trans hK), ?_⟩⟩
      refine ⟨_, results_pair _ _ (w.heap.size + 1) (w.heap.size + 2) #[.int .i64 (x.1 : Int), .int .i64 v] (.int .i64 0) rfl rfl ?_ rfl ?_, ?_⟩
      · rw [put_other (hDs _ _ _ _ HXX.out), hsame]; exact HXX.out
      · rw [put_other (hDs _ _ _ _ HX.out.xe), hsame]; exact HX.out.xe
      · have hT := HX.out.below
        have hpre : [x.1] <+: fullTo bs nw bs.length := hSp
        obtain ⟨l', hl'⟩ := hpre
        refine ⟨⟨hT.os, hT.tape, hT.output, by simpa using hT.size, fun k hk hf => by rw [put_other (by omega), hsame]; exact hT.block k hk hf⟩, fun h => ?_, fun c l hcl => ?_⟩
        · rw [h] at hl'; cases hl'
        · rw [hcl] at hl'
          obtain rfl : x.1 = c := by simpa using (List.cons.inj hl').1
          obtain ⟨bv', rvs', hq'⟩ := HQQ.out
          exact ⟨v, r, hrow, rfl, bv', rvs', hq'.keepC fun k cs t fr hk => by rw [put_other (hDs _ _ _ _ hk), hsame]⟩
end Go.Proofs.Ytmbpdboengaclaa
