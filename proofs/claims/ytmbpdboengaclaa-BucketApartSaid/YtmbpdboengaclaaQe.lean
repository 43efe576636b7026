/- The walk of bucket's All. -/
import Derived.Test.YtmbpdboengaclaaQd
import Derived.Maps.AppendAt
namespace Go.Proofs.Ytmbpdboengaclaa
set_option linter.unusedVariables false
set_option linter.unusedSimpArgs false
open Go.RowKit Go.Shelf Go.Proofs.YtmbpdboengaclaaW.PrintLast
attribute [local go_sem] Oper.semAt_some
/-- a bucket's items -/
def itsOf (c : Nat) (xs : List Int) : List (Int × Int) := xs.map fun v => ((c : Int), v)
/-- the items of some buckets -/
def itsB (bs : List (List Int)) (cs : List Nat) : List (Int × Int) := cs.flatMap fun c => itsOf c (row bs c)
/-- all items, as they come -/
def items (bs : List (List Int)) (nw : Nat) : List (Int × Int) := itsB bs (fullTo bs nw bs.length)
def cellsI (l : List (Int × Int)) : List Value := l.flatMap fun p => [.int .i64 p.1, .int .i64 p.2]
theorem cellsI_append (a b : List (Int × Int)) : cellsI (a ++ b) = cellsI a ++ cellsI b := by simp [cellsI]
theorem itsB_length (bs : List (List Int)) (hr : ∀ i, (row bs i).length ≤ 100000) : ∀ cs : List Nat, (itsB bs cs).length ≤ cs.length * 100000
  | [] => by simp [itsB]
  | c :: r => by
    have := itsB_length bs hr r
    have h := hr c
    simp only [itsB, itsOf, List.flatMap_cons, List.length_append, List.length_map, List.length_cons] at this ⊢
    omega
theorem itsB_snoc (bs : List (List Int)) (cs : List Nat) (c : Nat) : itsB bs (cs ++ [c]) = itsB bs cs ++ itsOf c (row bs c) := by simp [itsB]
theorem itsOf_snoc (c : Nat) (xs : List Int) (v : Int) : itsOf c (xs ++ [v]) = itsOf c xs ++ [((c : Int), v)] := by simp [itsOf]
theorem alloc2 (w : World) (a b : Obj) : ((w.alloc a).alloc b).heap[w.heap.size]? = some a ∧ ((w.alloc a).alloc b).heap[w.heap.size + 1]? = some b ∧ ((w.alloc a).alloc b).heap.size = w.heap.size + 2 := by
  have hs : ∀ (W : World) (o : Obj), (W.alloc o).heap.size = W.heap.size + 1 := fun W o => World.size_alloc W o
  have hn : ∀ (W : World) (o : Obj) (k : Nat), W.heap.size = k → (W.alloc o).heap[k]? = some o := fun W o k e => by subst e; exact heap_alloc_new W o
  have hk : ∀ (W : World) (o : Obj) (k : Nat) (x : Obj), W.heap[k]? = some x → (W.alloc o).heap[k]? = some x := fun W o k x h => (Below.heap_alloc W o k (blk_lt h)).trans h
  exact ⟨hk _ _ _ _ (hn _ _ _ rfl), hn _ _ _ (hs _ _), by rw [hs, hs]⟩
def nosB {bs : List (List Int)} {nw : Nat} (pre : List (Bk bs nw)) : List Nat := pre.map (·.1)
theorem nosB_length {bs : List (List Int)} {nw : Nat} (pre : List (Bk bs nw)) : (nosB pre).length = pre.length := by simp [nosB]
theorem nosB_snoc {bs : List (List Int)} {nw : Nat} (pre : List (Bk bs nw)) (x : Bk bs nw) : nosB (pre ++ [x]) = nosB pre ++ [x.1] := by simp [nosB]
/-- The box B holds a slice of its own: these items. -/
def OutI (B base : Nat) (its : List (Int × Int)) (W : World) : Prop := ∃ v, Boxed W B 51 v ∧ W.ownsRow base 31 2 v its.length (cellsI its) ∧ (v = .slice none 0 0 ↔ its = [])
theorem OutI.own {β : Type} (B base C : Nat) (f : β → List (Int × Int)) : OwnFrom C (fun s W => OutI B base (f s) W) :=
  Own.from (holdsRow_own base B 51 31 2 (fun s => (f s).length) (fun s => cellsI (f s)) (fun s v => v = .slice none 0 0 ↔ f s = [])) _
theorem OutI.alloc {B base : Nat} {its : List (Int × Int)} {W : World} (h : OutI B base its W) (o : Obj) : OutI B base its (W.alloc o) := by
  obtain ⟨v, h1, h2, h3⟩ := h
  exact ⟨v, h1.alloc o, h2.alloc o, h3⟩
/-- behind an append to it -/
theorem out_appended {W w1 : World} {B base : Nat} {v v' : Value} {k m : Nat} {xs ys : List Value} {tmp : Obj} (hv : Boxed W B 51 v) (hrow : W.ownsRow base 31 2 v k xs)
    (hown' : w1.ownsRow base 31 2 v' m ys) (hgrow : (W.alloc tmp).grownBy w1 v.ownBlock) (G : Nat → Prop) (hGB : G B) (hGb : ∀ i, base ≤ i → G i) :
    Boxed w1 B 51 v ∧ Boxed (w1.setCell ⟨B, 0, none⟩ v') B 51 v' ∧ (w1.setCell ⟨B, 0, none⟩ v').ownsRow base 31 2 v' m ys ∧ KeepsOthers W (w1.setCell ⟨B, 0, none⟩ v') ∧ Touch G W (w1.setCell ⟨B, 0, none⟩ v') := by
  have hv1 : Boxed w1 B 51 v := (hv.alloc tmp).kept hgrow (hv.not_row (by decide) hrow)
  refine ⟨hv1, hv1.set v', hown'.kept (grownBy_setCell' w1 B v') (.inr (hv1.not_row (by decide) hown').symm), ?_, ?_⟩
  · refine ((KeepsOthers.alloc W tmp).trans (KeepsOthers.of_grownBy hgrow fun j o ej hj => ?_)).trans (KeepsOthers.setCell _ _ _)
    rcases (hrow.alloc tmp).2 with ⟨rfl, _⟩ | ⟨g, cap, cur, rfl, _, hgb, _⟩
    · simp [Value.ownBlock] at ej
    · obtain rfl : g = j := by simpa [Value.ownBlock] using ej
      rw [hgb] at hj
      cases hj
      rfl
  · exact (((Touch.refl G W).alloc tmp).grown hgrow (fun i hi => .inl (hGb i (ownsRow_ge hrow i hi)))).setCell (p := ⟨B, 0, none⟩) (.inl hGB) v'
def AllPost (w : World) (bs : List (List Int)) (nw : Nat) (e : Ending) (w' : World) : Prop :=
  ∃ v, e = .returned v ∧ w'.ownsRow w.heap.size 31 2 v (items bs nw).length (cellsI (items bs nw)) ∧ (v = .slice none 0 0 ↔ items bs nw = []) ∧ Below w.heap.size w w'
theorem results_out (tmps : Array Value) (W : World) (g : Nat) (v : Value) (hp : tmps.getD 2 undef = .pointer (some ⟨g, 0, none⟩)) (hg : W.heap[g]? = some (.cells #[v] 51 (0, 0))) :
    (results Try.f19 tmps).run Try.prog W = .ok v W := by
  have h1 : tmps[2]?.getD undef = .pointer (some ⟨g, 0, none⟩) := by simpa using hp
  have hl : (loadVar 51 ⟨g, 0, none⟩).run Try.prog W = .ok v W := by
    have hc : W.cell? ⟨g, 0, none⟩ = some v := by rw [cell_of_row W g 0 _ _ _ hg]; rfl
    have hu := Try.underlying51
    go_simp
  simp [results, show Try.f19.results = #[.cell 2 51] from rfl, h1, asAddr, hl]
theorem info31 : (Try.prog.info? 31).map (fun i => (i.zero, i.size, i.bytes)) = some (some (.agg #[.int .i64 0, .int .i64 0]), 2, 16) := by kernel_rfl
set_option maxRecDepth 100000 in
set_option maxHeartbeats 4000000 in
theorem all_in (F : Fence) (n : Nat) (h19 : F.fn 19) (h21 : F.fn 21) (h22 : F.fn 22) (h23 : F.fn 23) (h24 : F.fn 24) (hro : F.round = none) (hn : 8 ≤ n) {Fq : Nat → Prop} {w : World} {q : Nat} {bv : Value} {rvs : List Value} {bs : List (List Int)} {most cnt : Int} {nw : Nat}
    (h : Q3 Fq w q bv rvs bs most cnt nw) (hFq : ∀ k, Fq k → k < w.heap.size) (hlen : bs.length ≤ 100000) (hnw : nw ≤ 100000) (hrow : ∀ i, (row bs i).length ≤ 100000) :
    CallsIn F n Try.prog 19 #[.pointer (some ⟨q, 0, none⟩)] w (AllPost w bs nw) := by
  have h1 : 1 ≤ n := by omega
  obtain ⟨i0, hi, hz0, hz1, hz2⟩ := info_parts info31
  refine callsIn_of_wp_marks Try.func19 rfl h19 ?_ hro
  simp only [Try.ntmps19, List.size_toArray, List.length_cons, List.length_nil, Nat.reduceAdd, Nat.reduceSub, Array.replicate_succ, Array.replicate_zero, List.push_toArray, List.append_toArray, List.nil_append, List.cons_append]
  gi_wp2_with (gi_at_call 21; refine (full_in F (n - 1) h21 hro _ _).mono ?_; rintro e w' ⟨rfl, rfl⟩)
  obtain ⟨W0, hW0⟩ : ∃ W0, ((w.alloc (.cells #[.slice none 0 0] 51)).alloc (.cells #[.pointer (some ⟨q, 0, none⟩)] 24)) = W0 := ⟨_, rfl⟩
  have hB0 : Below w.heap.size w W0 := by rw [← hW0]; exact balloc (balloc (Below.refl _ w) _) _
  obtain ⟨b0, b1, hsz⟩ := alloc2 w (.cells #[.slice none 0 0] 51) (.cells #[.pointer (some ⟨q, 0, none⟩)] 24)
  rw [hW0] at b0 b1 hsz ⊢
  clear hW0
  have bO : Boxed W0 w.heap.size 51 (.slice none 0 0) := b0
  have hbox : W0.cell? ⟨w.heap.size + 1, 0, none⟩ = some (.pointer (some ⟨q, 0, none⟩)) := by rw [cell_of_row W0 _ 0 _ _ _ b1]; rfl
  have hQ0 := h.below hB0
  refine wpIn_rangeFunc_ownH hro h1 (gf := 23) (lb := #[.pointer (some ⟨w.heap.size + 1, 0, none⟩)]) rfl h23 (enters_of Try.func23 (by kernel_rfl) rfl)
    (full_stops F (n - 1) h23 hro (by omega) (w.heap.size + 1) q (fun k => k = w.heap.size ∨ w.heap.size + 2 ≤ k) Fq bv rvs bs most cnt nw (fun k hk => by have := hFq k hk; omega) (by omega) hlen hnw W0 (by omega) hbox hQ0)
    (fun h k => h.trans k (fun i hi => .inl hi)) (fun W l o o' hl _ _ _ => ⟨rfl, rfl, rfl, by simp, fun k _ hk => World.putObj_heap_other (fun e => hk (by omega))⟩) (Below.refl _ _) (fun _ => rfl)
    (fun pre W => OutI w.heap.size (w.heap.size + 2) (itsB bs (nosB pre)) W ∧ Touch (fun k => k = w.heap.size ∨ w.heap.size + 2 ≤ k) W0 W)
    (fun _ _ _ => False)
    (OwnFrom.and (OutI.own w.heap.size (w.heap.size + 2) _ (fun pre : List (Bk bs nw) => itsB bs (nosB pre))) (fun _ X Y row hs hg hr => touch_grown hs (Nat.le_refl _) hg hr))
    (fun _ _ _ _ _ hs _ _ => hs)
    ⟨⟨_, bO, World.ownsRow_nil _ _ _ _, by simp [itsB, nosB]⟩, Touch.refl _ _⟩
    (fun x a' W => ∃ Bx, w.heap.size + 1 < Bx ∧ Boxed W Bx 3 (.int .i64 (x.1 : Int)) ∧ a' = { tmps := #[.pointer (some ⟨q, 0, none⟩), undef, .pointer (some ⟨w.heap.size, 0, none⟩), .pointer (some ⟨Bx, 0, none⟩), rowv rvs x.1, undef, .pointer (some ⟨q, 0, none⟩), .bool false, .pointer (some ⟨q, 0, none⟩),
      .func (.func 23) #[] #[.pointer (some ⟨w.heap.size + 1, 0, none⟩)], .int .i64 (x.1 : Int), rowv rvs x.1, undef, undef, undef, undef, undef, undef, undef, undef, undef, undef], defers := [] })
    (fun x a' _ X Y row hs hg hr => by obtain ⟨Bx, h1, h2, h3⟩ := hs; exact ⟨Bx, h1, boxed_own Bx 3 (fun (_ : Unit) => Value.int .i64 (x.1 : Int)) () X Y row h2 hg (fun r e => (hr r e).2), h3⟩)
    ?assign ?body ?done ?stop
  case assign =>
    rintro l pre x W K ⟨hv, hT⟩ hK
    gi_wp2
    have hsz2 := hT.size
    exact hK _ _ ((KeepsOthers.alloc _ _).from _) ((Touch.refl _ W).alloc _) ⟨hv.alloc _, hT.alloc _⟩ ⟨W.heap.size, by omega, Boxed.new W 3 _, rfl⟩
  case body =>
    rintro l pre ⟨c, hnc, hcl, hce⟩ a' W hl ⟨r, hr⟩ ⟨hv, hT⟩ ⟨Bx, hBx, bX, rfl⟩ hlt
    have h1' : 1 ≤ n - 1 - 1 := by omega
    obtain ⟨Ar, cr, hrv, hcr⟩ := (hQ0.rows c).form
    have hQW := hQ0.keep (w' := W) fun k hk hl => hT.block k hl (by have := hFq k hk; omega)
    dsimp only
    rw [hrv]
    gi_wp2_with (gi_at_call 22; refine (CallsIn.inRound l (values_in F (n - 1 - 1 - 1) h22 hro _ _ _ _)).mono ?_; rintro e w' ⟨rfl, rfl⟩)
    have hsW := hT.size
    have hsl : SL W 3 1 (.slice Ar (row bs c).length cr) (row bs c).length (nums (row bs c)) := by
      have := hQW.rows c
      rw [hrv] at this
      exact this
    have hGr : ∀ k, (Value.slice Ar (row bs c).length cr).ownBlock = some k → ¬ (k = w.heap.size ∨ w.heap.size + 2 ≤ k) := fun k hk => by
      have := hFq k (hQ0.fr c k (by rw [hrv]; exact hk))
      omega
    have bN := Boxed.new W 58 (.slice Ar (row bs c).length cr)
    have hr' : (W.alloc (.cells #[.slice Ar (row bs c).length cr] 58)).heap[l]? = some (.loop r) := (Below.heap_alloc W _ l (Array.getElem?_eq_some_iff.1 hr).1).trans hr
    have hTW : Touch (fun k => k = w.heap.size ∨ w.heap.size + 2 ≤ k) W (W.alloc (.cells #[.slice Ar (row bs c).length cr] 58)) := (Touch.refl _ W).alloc _
    have hplen : (itsB bs (nosB pre)).length ≤ 10000000000 := by
      have h1 := itsB_length bs hrow (nosB pre)
      rw [nosB_length] at h1
      have h2 : pre.length * 100000 ≤ 100000 * 100000 := Nat.mul_le_mul_right _ (by omega)
      omega
    refine wpIn_rangeFunc_ownN (l₀ := l) (r₀ := r) rfl hr' h1' (gf := 24) (lb := #[.pointer (some ⟨W.heap.size, 0, none⟩)]) rfl h24 (enters_of Try.func24 (by kernel_rfl) rfl)
      ((values_stops F (n - 1 - 1 - 1) h24 hro (by omega) W.heap.size (fun k => k = w.heap.size ∨ w.heap.size + 2 ≤ k) (.slice Ar (row bs c).length cr) (row bs c) hGr (hrow c) _ (by simp) bN.cell (hsl.alloc _)).inRound l)
      (fun h k => h.trans k (fun i hi => .inl hi)) (fun W1 l1 o o' hl1 _ _ _ => ⟨rfl, rfl, rfl, by simp, fun k _ hk => World.putObj_heap_other (fun e => hk (by simp at hl1; omega))⟩) (Below.refl _ _) (fun _ => rfl)
      (fun pre' W' => (OutI w.heap.size (w.heap.size + 2) (itsB bs (nosB pre) ++ itsOf c pre') W' ∧ Boxed W' Bx 3 (.int .i64 (c : Int))) ∧
        (Touch (fun k => k = w.heap.size ∨ w.heap.size + 2 ≤ k) W W' ∧ KeepsFrom (w.heap.size + 2) W W'))
      (fun _ _ _ => False)
      (OwnFrom.and (OwnFrom.and (OutI.own w.heap.size (w.heap.size + 2) _ (fun pre' : List Int => itsB bs (nosB pre) ++ itsOf c pre')) (Own.from (boxed_own _ _ _) _))
        (OwnFrom.and (fun _ X Y row hs hg hr => touch_grown hs (by simp) hg hr) (ownFrom_keepsFrom (by simp))))
      (fun _ _ _ _ _ hs _ _ => hs)
      ⟨⟨by simpa [itsOf] using hv.alloc _, bX.alloc _⟩, hTW, (KeepsOthers.alloc _ _).from _⟩
      (fun y a'' _ => a'' = { tmps := #[.pointer (some ⟨q, 0, none⟩), undef, .pointer (some ⟨w.heap.size, 0, none⟩), .pointer (some ⟨Bx, 0, none⟩), .slice Ar (row bs c).length cr, .int .i64 y, .pointer (some ⟨q, 0, none⟩), .bool false, .pointer (some ⟨q, 0, none⟩),
        .func (.func 23) #[] #[.pointer (some ⟨w.heap.size + 1, 0, none⟩)], .int .i64 (c : Int), .slice Ar (row bs c).length cr, .slice Ar (row bs c).length cr, .func (.func 24) #[] #[.pointer (some ⟨W.heap.size, 0, none⟩)], .int .i64 y, undef, undef, undef, undef, undef, undef, undef], defers := [] })
      (fun _ _ _ _ _ _ hs _ _ => hs)
      ?assign2 ?body2 ?done2 ?stop2
    case assign2 =>
      rintro l2 pre' y W' K hi hK
      gi_wp2
      exact hK _ _ (KeepsFrom.refl _ _) (Touch.refl _ _) hi rfl
    case body2 =>
      rintro l2 pre' y a'' W' _ _ ⟨⟨⟨v2, hv2, hrw2, _⟩, bX2⟩, hTW2, hKF⟩ rfl hlt2
      have hc2 := hv2.cell
      have cX := bX2.cell
      have hl2 : (itsB bs (nosB pre) ++ itsOf c pre').length ≤ 10000100000 := by
        have := hrow c
        rw [List.length_append, itsOf, List.length_map]
        omega
      have h63 : (itsB bs (nosB pre) ++ itsOf c pre').length + 1 ≤ maxLen := by simp only [maxLen]; omega
      have hby : ((itsB bs (nosB pre) ++ itsOf c pre').length + 1) * 16 ≤ 140737488355328 := by omega
      have hone : ∀ u ∈ [Value.int .i64 (c : Int), .int .i64 y], u.oneCell' = true := by simp [Value.oneCell']
      have hnw2 := World.news_of_block (cs := #[.int .i64 (c : Int), .int .i64 y]) (t := 31) (fr := (0, 0)) (heap_alloc_new W' (.cells #[.int .i64 (c : Int), .int .i64 y] 31))
      have hsz2 := hTW2.size
      have hbase : w.heap.size + 2 ≤ (W'.alloc (.cells #[.int .i64 (c : Int), .int .i64 y] 31)).heap.size := by simp; omega
      gi_wp2_with (gi_at_builtin; refine wpListIn_append_own _ rfl _ _ 51 rfl (w.heap.size + 2) 31 i0 (.agg #[.int .i64 0, .int .i64 0]) 2 16 Try.underlying51 hi hz0 hz1 hz2 rfl (by decide) _ _ _ rfl (hrw2.alloc _) ⟨W'.heap.size, 0, none⟩ 1 1 [.int .i64 (c : Int), .int .i64 y] rfl rfl hnw2 hone h63 hby hbase ?_; intro v' w1 hown' hgrow _; obtain ⟨g', cap', rfl⟩ := ownsRow_succ hown'; obtain ⟨hv1, hv3, hr3, hk3, hb3⟩ := out_appended hv2 hrw2 hown' hgrow (fun k => k = w.heap.size ∨ w.heap.size + 2 ≤ k) (.inl rfl) (fun i hi => .inr hi); have hc1 := hv1.cell; have hf1 := hv1.frozen)
      have bX3 := ((bX2.alloc (.cells #[.int .i64 (c : Int), .int .i64 y] 31)).kept hgrow (bX2.not_row (by decide) hrw2)).other (B' := w.heap.size) (by omega) (.slice (some ⟨g', 0, none⟩) ((itsB bs (nosB pre) ++ itsOf c pre').length + 1) cap')
      simp only [List.length_append] at hv3 hr3 hk3 hb3 bX3
      have hout : OutI w.heap.size (w.heap.size + 2) (itsB bs (nosB pre) ++ itsOf c (pre' ++ [y])) (w1.setCell ⟨w.heap.size, 0, none⟩ (.slice (some ⟨g', 0, none⟩) ((itsB bs (nosB pre)).length + (itsOf c pre').length + 1) cap')) := by
        refine ⟨_, hv3, ?_, by simp [itsOf]⟩
        rw [itsOf_snoc, ← List.append_assoc, cellsI_append, List.length_append, List.length_append]
        exact hr3
      exact ⟨hk3.from _, hb3, ⟨hout, bX3⟩, hTW2.trans hb3 (fun i hi => .inl hi), hKF.trans (hk3.from _)⟩
    case done2 =>
      rintro ys' W' rfl ⟨⟨hv2, bX2⟩, hTW2, hKF⟩
      gi_wp2
      refine ⟨by rw [hsz]; exact hKF, hTW2, ?_, hT.trans hTW2 (fun i hi => .inl hi)⟩
      rw [nosB_snoc, itsB_snoc]
      exact hv2
    case stop2 =>
      rintro c pre' W' _ h
      exact h.elim
  case done =>
    rintro D ys W hD hS ⟨⟨v, hv, hr, hnil⟩, hT⟩ hK
    obtain ⟨A, cc, rfl⟩ : ∃ A cc, v = .slice A (itsB bs (nosB ys)).length cc := by
      rcases hr.2 with ⟨rfl, h0⟩ | ⟨g, cap, cur, rfl, _⟩
      · exact ⟨none, 0, by rw [h0]⟩
      · exact ⟨_, cap, rfl⟩
    have hc := hv.cell
    have hf := hv.frozen
    gi_wp2
    have hsame := same_set (j := 0) (v := .slice A (itsB bs (nosB ys)).length cc) hv rfl
    refine ⟨by simp, .inl ⟨_, _, rfl, run_takeDeferred ((hsame D).trans hK), ?_⟩⟩
    have hBD : w.heap.size ≠ D := fun e => by rw [← e] at hK; rw [show W.heap[w.heap.size]? = _ from hv] at hK; cases hK
    have hit : itsB bs (nosB ys) = items bs nw := by
      have : nosB ys = fullTo bs nw bs.length := hS
      rw [items, this]
    refine ⟨_, results_out _ _ w.heap.size _ rfl ((put_other hBD).trans ((hsame _).trans hv)), ?_⟩
    refine ⟨_, rfl, ?_, by rw [← hit]; exact hnil, ?_⟩
    · rw [← hit]
      have h2 := ownsRow_putObj (W := W.setCell ⟨w.heap.size, 0, none⟩ (.slice A (itsB bs (nosB ys)).length cc)) (hr.kept (grownBy_setCell' W w.heap.size _) (.inr (hv.not_row (by decide) hr).symm)) (.deferred none) ((hsame D).trans hK) rfl
      exact ⟨h2.1, h2.2.imp id fun ⟨g, cap, cur, e1, e2, e3⟩ => ⟨g, cap, cur, e1, by omega, e3⟩⟩
    · refine ⟨hT.os.trans hB0.os, hT.tape.trans hB0.tape, hT.output.trans hB0.output, ?_, fun k hk => ?_⟩
      · have := hT.size; simp; omega
      · rw [put_other (by omega), hsame]
        exact (hT.block k (by omega) (by omega)).trans (hB0.block k hk)
  case stop =>
    rintro D c pre W _ _ h _
    exact h.elim
end Go.Proofs.Ytmbpdboengaclaa
