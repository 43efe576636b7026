/- A range over a function: one contract and one law for all of this program's iterators: what comes is told by a number, the iterator may write blocks of its own (G), and relies on others (R); the body may leave. -/
import Derived.RangeFuncNested
import Derived.RangeFuncBound
import Derived.RangeFuncCalls
import Derived.RangeFuncLeaves
import Derived.RangeFuncWrites
import Derived.Shelf.Abstract
import Derived.Shelf.RegionOpen
import Derived.WalkKit
import Derived.OwnWalkIn
import Derived.TacticsInMore
import Derived.LoopNIn
import Derived.LoopIn
import Derived.Test.YteigplfldhdakaaGreatDoorE01
set_option linter.unusedVariables false
set_option linter.unusedSimpArgs false
namespace Go.Proofs.YteigplfldhdakaaGreatDoor
open Go.RowKit Go.Shelf
theorem alloc_get (w : World) (o : Obj) (k : Nat) : (w.alloc o).heap[k]? = if k = w.heap.size then some o else w.heap[k]? := by
  by_cases h : k = w.heap.size
  · rw [if_pos h, h]; exact heap_alloc_new w o
  · rw [if_neg h]
    rcases Nat.lt_or_ge k w.heap.size with h1 | h1
    · exact Below.heap_alloc w o k h1
    · rw [Array.getElem?_eq_none h1, Array.getElem?_eq_none (by rw [World.size_alloc]; omega)]
theorem alloc_keep {w : World} {k : Nat} {o : Obj} (h : w.heap[k]? = some o) (p : Obj) : (w.alloc p).heap[k]? = some o := (Below.heap_alloc w p k (blk_lt h)).trans h
theorem al2_0 (w : World) (a b : Obj) : ((w.alloc a).alloc b).heap[w.heap.size]? = some a := alloc_keep (heap_alloc_new w a) b
theorem al2_1 (w : World) (a b : Obj) : ((w.alloc a).alloc b).heap[w.heap.size + 1]? = some b := by
  have h := heap_alloc_new (w.alloc a) b
  rwa [World.size_alloc] at h
theorem al3_0 (w : World) (a b c : Obj) : (((w.alloc a).alloc b).alloc c).heap[w.heap.size]? = some a := alloc_keep (al2_0 w a b) c
theorem al3_1 (w : World) (a b c : Obj) : (((w.alloc a).alloc b).alloc c).heap[w.heap.size + 1]? = some b := alloc_keep (al2_1 w a b) c
theorem al3_2 (w : World) (a b c : Obj) : (((w.alloc a).alloc b).alloc c).heap[w.heap.size + 2]? = some c := by
  have h := heap_alloc_new ((w.alloc a).alloc b) c
  rwa [World.size_alloc, World.size_alloc] at h
/-- a box's own cell -/
theorem box_cell {w : World} {b : Nat} {v : Value} {t : TypeId} (h : w.heap[b]? = some (.cells #[v] t (0, 0))) : w.cell? ⟨b, 0, none⟩ = some v ∧ w.frozen? ⟨b, 0, none⟩ = false :=
  ⟨by rw [cell_of_row w b 0 _ _ _ h]; rfl, frozen_of_row w b 0 _ _ h⟩
theorem box_set {w : World} {b : Nat} {v : Value} {t : TypeId} (h : w.heap[b]? = some (.cells #[v] t (0, 0))) (u : Value) : (w.setCell ⟨b, 0, none⟩ u).heap[b]? = some (.cells #[u] t (0, 0)) := heap_setCell_same w b 0 _ t u h
theorem set_other {w : World} {b k : Nat} {o : Obj} (h : w.heap[k]? = some o) (hk : k ≠ b) (i : Nat) (u : Value) : (w.setCell ⟨b, i, none⟩ u).heap[k]? = some o := (Below.heap_setCell w ⟨b, i, none⟩ u k hk).trans h
/-- **'out = append(out, ..)', out a box**: what lies behind -/
theorem col_step {W w2 : World} {B : Nat} {t e : TypeId} {sz n m : Nat} {v v' : Value} {xs ys : List Value} (hB : W.heap[B]? = some (.cells #[v] t (0, 0))) (hte : t ≠ e) (hs : SL W e sz v n xs) (o : Obj)
    (hg : (W.alloc o).grownBy w2 v.ownBlock) (hs2 : SL w2 e sz v' m ys) (ho2 : ∀ k, v'.ownBlock = some k → v.ownBlock = some k ∨ (W.alloc o).heap.size ≤ k) :
    (w2.setCell ⟨B, 0, none⟩ v').heap[B]? = some (.cells #[v'] t (0, 0)) ∧ SL (w2.setCell ⟨B, 0, none⟩ v') e sz v' m ys ∧ Touch (fun b => b = B ∨ v.ownBlock = some b) W (w2.setCell ⟨B, 0, none⟩ v') ∧
      (∀ k, v'.ownBlock = some k → v.ownBlock = some k ∨ W.heap.size < k) := by
  have hne : ∀ k, v.ownBlock = some k → k ≠ B := fun k hk e => by
    obtain ⟨cur, hc⟩ := hs.typed k hk
    rw [e, hB] at hc
    simp only [Option.some.injEq, Obj.cells.injEq] at hc
    exact hte hc.2.1
  have hB2 : w2.heap[B]? = some (.cells #[v] t (0, 0)) := (hg.block B (by have := blk_lt hB; rw [World.size_alloc]; omega) (fun h => hne B h.symm rfl)).trans (alloc_keep hB o)
  have hlt := blk_lt hB
  have ho3 : ∀ k, v'.ownBlock = some k → v.ownBlock = some k ∨ W.heap.size < k := fun k hk => (ho2 k hk).imp id (fun h => by rw [World.size_alloc] at h; omega)
  refine ⟨box_set hB2 v', hs2.far (fun k hk e => ?_) v', ?_, ho3⟩
  · rcases ho3 k hk with h | h
    · exact hne k h e
    · have e2 : k = B := e
      omega
  · exact Touch.setCell (p := ⟨B, 0, none⟩) (((Touch.refl _ W).alloc o).grown hg (fun k hk => .inl (.inr hk))) (.inl (.inl rfl)) v'
/-- the blocks of R are as they were -/
structure Keep (R : Nat → Prop) (A B : World) : Prop where
  size : A.heap.size ≤ B.heap.size
  block : ∀ k, R k → B.heap[k]? = A.heap[k]?
theorem Keep.refl (R : Nat → Prop) (A : World) : Keep R A A := ⟨Nat.le_refl _, fun _ _ => rfl⟩
theorem Keep.trans {R : Nat → Prop} {A B C : World} (h : Keep R A B) (k : Keep R B C) : Keep R A C := ⟨Nat.le_trans h.size k.size, fun i hi => (k.block i hi).trans (h.block i hi)⟩
theorem Keep.of_touch {R F : Nat → Prop} {A B : World} (h : Touch F A B) (hR : ∀ k, R k → k < A.heap.size ∧ ¬ F k) : Keep R A B := ⟨h.size, fun k hk => h.block k (hR k hk).1 (hR k hk).2⟩
theorem Keep.of_below {R : Nat → Prop} {A B : World} {n : Nat} (h : Below n A B) (hR : ∀ k, R k → k < n) : Keep R A B := ⟨h.size, fun k hk => h.block k (hR k hk)⟩
/-- cells, and what lies below lo, are as they were, but for the blocks of X -/
structure CS (X : Nat → Prop) (lo : Nat) (A B : World) : Prop where
  os : B.os = A.os
  tape : B.tape = A.tape
  output : B.output = A.output
  size : A.heap.size ≤ B.heap.size
  block : ∀ k o, A.heap[k]? = some o → ¬ X k → o.isCells = true ∨ k < lo → B.heap[k]? = some o
theorem CS.of_touch {X F : Nat → Prop} {lo : Nat} {A B : World} (h : Touch F A B) (hX : ∀ k, F k → X k) : CS X lo A B :=
  ⟨h.os, h.tape, h.output, h.size, fun k o ho hx _ => (h.block k (blk_lt ho) (fun hf => hx (hX k hf))).trans ho⟩
theorem CS.alloc {X : Nat → Prop} {lo : Nat} (A : World) (o : Obj) : CS X lo A (A.alloc o) :=
  ⟨rfl, rfl, rfl, by simp, fun k o' ho _ _ => (Below.heap_alloc A o k (blk_lt ho)).trans ho⟩
theorem CS.putObj {X : Nat → Prop} {lo l : Nat} {A : World} {o o' : Obj} (hl : lo ≤ l) (ho : A.heap[l]? = some o) (hc : o.isCells = false) : CS X lo A (A.putObj l o') :=
  ⟨rfl, rfl, rfl, by simp, fun k q hq _ h => (World.putObj_heap_other (fun e => by
    subst e
    rw [ho] at hq
    cases hq
    rcases h with h | h
    · rw [hc] at h; cases h
    · omega)).trans hq⟩
theorem CS.trans {X : Nat → Prop} {lo : Nat} {A B C : World} (h : CS X lo A B) (k : CS X lo B C) : CS X lo A C :=
  ⟨k.os.trans h.os, k.tape.trans h.tape, k.output.trans h.output, Nat.le_trans h.size k.size, fun i o ho hx hl => k.block i o (h.block i o ho hx hl) hx hl⟩
theorem CS.touch {X F : Nat → Prop} {lo : Nat} {w A B : World} (h : CS X lo A B) (ht : Touch F w A) (hlo : w.heap.size ≤ lo) (hX : ∀ k, k < w.heap.size → X k → F k) : Touch F w B :=
  ⟨h.os.trans ht.os, h.tape.trans ht.tape, h.output.trans ht.output, Nat.le_trans ht.size h.size, fun k hk hf => by
    have h1 := ht.block k hk hf
    have hkA := Nat.lt_of_lt_of_le hk ht.size
    have h2 : A.heap[k]? = some (A.heap[k]'hkA) := Array.getElem?_eq_getElem hkA
    rw [← h1, h2]
    exact h.block k _ h2 (fun hx => hf (hX k hk hx)) (.inr (by omega))⟩
theorem CS.below {X : Nat → Prop} {lo : Nat} {w A B : World} (h : CS X lo A B) (ht : Below w.heap.size w A) (hlo : w.heap.size ≤ lo) (hX : ∀ k, k < w.heap.size → ¬ X k) : Below w.heap.size w B := by
  have h1 := h.touch (F := fun _ => False) (w := w) ⟨ht.os, ht.tape, ht.output, ht.size, fun k hk _ => ht.block k hk⟩ hlo (fun k hk hx => hX k hk hx)
  exact ⟨h1.os, h1.tape, h1.output, h1.size, fun k hk => h1.block k hk (fun h => h)⟩
theorem CS.cells {X : Nat → Prop} {lo : Nat} {A B : World} (h : CS X lo A B) {b : Nat} {C : Array Value} {t : TypeId} {m : Nat × Nat} (hb : A.heap[b]? = some (.cells C t m)) (hx : ¬ X b) : B.heap[b]? = some (.cells C t m) := h.block b _ hb hx (.inl rfl)
theorem SL.cs {X : Nat → Prop} {lo : Nat} {A B : World} {e : TypeId} {sz n : Nat} {v : Value} {xs : List Value} (hs : SL A e sz v n xs) (h : CS X lo A B) (hx : ∀ k, v.ownBlock = some k → ¬ X k) : SL B e sz v n xs := hs.keep fun k hk => by
  obtain ⟨cur, hc⟩ := hs.typed k hk
  rw [hc]
  exact h.cells hc (hx k hk)
/-- the two blocks of the loop's own are as they were -/
def RK (D : Nat) (A B : World) : Prop := B.heap[D]? = A.heap[D]? ∧ B.heap[D + 1]? = A.heap[D + 1]?
theorem RK.refl (D : Nat) (A : World) : RK D A A := ⟨rfl, rfl⟩
theorem RK.trans {D : Nat} {A B C : World} (h : RK D A B) (k : RK D B C) : RK D A C := ⟨k.1.trans h.1, k.2.trans h.2⟩
theorem RK.of_touch {D : Nat} {F : Nat → Prop} {A B : World} (h : Touch F A B) (hD : D + 1 < A.heap.size) (h0 : ¬ F D) (h1 : ¬ F (D + 1)) : RK D A B := ⟨h.block D (by omega) h0, h.block (D + 1) hD h1⟩
theorem RK.of_below {D n : Nat} {A B : World} (h : Below n A B) (hD : D + 1 < n) : RK D A B := ⟨h.block D (by omega), h.block (D + 1) hD⟩
/-- block k is there and is no cells -/
def NC (A : World) (k : Nat) : Prop := ∃ o : Obj, A.heap[k]? = some o ∧ o.isCells = false
theorem NC.ne {A : World} {k b : Nat} {C : Array Value} {t : TypeId} {m : Nat × Nat} (h : NC A k) (hb : A.heap[b]? = some (.cells C t m)) : b ≠ k := fun e => by
  obtain ⟨o, ho, hc⟩ := h
  subst e
  rw [hb] at ho
  cases ho
  cases hc
/-- **The iterator's contract**: m times it hands on (args k), in the order of k; it may write the blocks of G, and relies on those of R. -/
def SeqL (F : Fence) (n : Nat) (P : Program) (g : Nat) (lb : Array Value) (args : Nat → Array Value) (m : Nat) (R G : Nat → Nat → Prop) (w : World) : Prop :=
  ∀ (l : Nat) (J Jx : Nat → World → Prop) (W : World), Below w.heap.size w W →
    (∀ k A B, J k A → Touch (G W.heap.size) A B → J k B) → (∀ k A B, Jx k A → Touch (G W.heap.size) A B → Jx k B) →
    (∀ k W1, k < m → J k W1 → YieldAt F (n - 1) P l (args k) W1 fun e W' =>
      (e = .returned (.bool true) ∧ J (k + 1) W' ∧ Keep (R W.heap.size) W1 W') ∨ (e = .returned (.bool false) ∧ Jx (k + 1) W')) →
    J 0 W →
    CallsIn F n P g (#[.func (.yield l) #[] #[]] ++ lb) W fun e W' => (∃ v, e = .returned v) ∧ (J m W' ∨ ∃ k, k < m ∧ Jx (k + 1) W')
/-- how the body of a round may be left -/
def postL (D : Nat) (R : Nat → Prop) (I : Nat → World → Prop) (Ix : Code → Nat → World → Prop) (k : Nat) (W : World) : Exit → Act → World → Prop
  | .normal, _, W' => RK D W W' ∧ Keep R W W' ∧ I (k + 1) W'
  | .ret, _, W' => RK D W W' ∧ Ix .ret (k + 1) W'
  | .exit id, _, W' => RK D W W' ∧ Ix (.exit id) (k + 1) W'
  | .goto t, _, W' => RK D W W' ∧ Ix (.goto t) (k + 1) W'
  | .panic _, _, _ => False
  | .outgrown, _, _ => False
theorem results_cell2 {P : Program} {fn : Func} {p q : Tmp} {t u : TypeId} (h : fn.results = #[.cell p t, .cell q u]) (tmps : Array Value) (W : World) (g g' : Nat) (v v' : Value)
    (hp : tmps.getD p undef = .pointer (some ⟨g, 0, none⟩)) (hp' : tmps.getD q undef = .pointer (some ⟨g', 0, none⟩))
    (hl : (loadVar t ⟨g, 0, none⟩).run P W = .ok v W) (hl' : (loadVar u ⟨g', 0, none⟩).run P W = .ok v' W) : (results fn tmps).run P W = .ok (.tuple #[v, v']) W := by
  have h1 : tmps[p]?.getD undef = .pointer (some ⟨g, 0, none⟩) := by simpa using hp
  have h2 : tmps[q]?.getD undef = .pointer (some ⟨g', 0, none⟩) := by simpa using hp'
  simp [results, h, h1, h2, asAddr, hl, hl']
theorem results_cell1 {P : Program} {fn : Func} {p : Tmp} {t : TypeId} (h : fn.results = #[.cell p t]) (tmps : Array Value) (W : World) (g : Nat) (v : Value)
    (hp : tmps.getD p undef = .pointer (some ⟨g, 0, none⟩)) (hl : (loadVar t ⟨g, 0, none⟩).run P W = .ok v W) : (results fn tmps).run P W = .ok v W := by
  have h1 : tmps[p]?.getD undef = .pointer (some ⟨g, 0, none⟩) := by simpa using hp
  simp [results, h, h1, asAddr, hl]
theorem put_other {W : World} {b D : Nat} {o o' : Obj} (hb : W.heap[b]? = some o) (h : b ≠ D) : (W.putObj D o').heap[b]? = some o := (World.putObj_heap_other h).trans hb
/-- what the end of a function over such a loop does: the block D is struck -/
theorem fin_below {w W : World} {D : Nat} {o' : Obj} (hb : Below w.heap.size w W) (hD : w.heap.size ≤ D) : Below w.heap.size w (W.putObj D o') :=
  ⟨hb.os, hb.tape, hb.output, by simpa using hb.size, fun k hk => (World.putObj_heap_other (by omega)).trans (hb.block k hk)⟩
theorem fin_touch {F : Nat → Prop} {w W : World} {D : Nat} {o' : Obj} (hb : Touch F w W) (hD : w.heap.size ≤ D) : Touch F w (W.putObj D o') :=
  ⟨hb.os, hb.tape, hb.output, by simpa using hb.size, fun k hk hf => (World.putObj_heap_other (by omega)).trans (hb.block k hk hf)⟩
theorem fin_SL {W : World} {D : Nat} {o o' : Obj} {e : TypeId} {sz n : Nat} {v : Value} {xs : List Value} (h : SL W e sz v n xs) (hD : W.heap[D]? = some o) (hc : o.isCells = false) : SL (W.putObj D o') e sz v n xs := h.keep fun k hk => by
  obtain ⟨cur, h3⟩ := SL.typed h k hk
  exact World.putObj_heap_other (fun e => by rw [e, hD] at h3; cases h3; cases hc)
variable {F : Fence} {n : Nat} {P : Program}
theorem hro_wide : Fence.wide.round = none := rfl
/-- **The caller's law.** -/
theorem wpIn_rangeL {g : Operand} {ps : Array Tmp} {assign body : Code} {Q : Exit → Act → World → Prop} {a : Act} {w : World}
    (hro : F.round = none) (h1 : 1 ≤ n) {gf : Nat} {lb : Array Value} (hg : a.eval g = .func (.func gf) #[] lb) (hFg : F.fn gf) (eg : ∀ args w, (callFunc gf args).run P w = .ok (.enter gf args) w)
    {args : Nat → Array Value} {m : Nat} {R G : Nat → Nat → Prop} {w0 : World} (hseq : SeqL F (n - 1) P gf lb args m R G w0) (hb0 : Below w0.heap.size w0 w) (hps : ∀ k, (args k).size = ps.size)
    (hR : ∀ k, R (w.heap.size + 2) k → k ≠ w.heap.size ∧ k ≠ w.heap.size + 1) (hG : ∀ k, G (w.heap.size + 2) k → k ≠ w.heap.size ∧ k ≠ w.heap.size + 1)
    (I : Nat → World → Prop) (Ix : Code → Nat → World → Prop)
    (hI : ∀ k A B, I k A → CS (G (w.heap.size + 2)) w.heap.size A B → I k B) (hIx : ∀ c k A B, Ix c k A → CS (G (w.heap.size + 2)) w.heap.size A B → Ix c k B)
    (h0 : I 0 w)
    (hround : ∀ (l k : Nat) (W : World), k < m → ∃ a' : Act,
      (∀ K : Act → World → Prop, K a' W → assign.wpIn (F.inRound l) (n - 1 - 1) P (Exit.then K (fun _ _ _ => False)) { tmps := (ps.zip (args k)).foldl (fun t (p, v) => t.setIfInBounds p v) a.tmps, defers := [] } W) ∧
      (∀ W' : World, I k W' → w.heap.size + 2 ≤ W'.heap.size → NC W' w.heap.size → NC W' (w.heap.size + 1) →
        body.wpIn (F.inRound l) (n - 1 - 1) P (postL w.heap.size (R (w.heap.size + 2)) I Ix k W') a' W'))
    (hdone : ∀ (D : Nat) (W : World), D = w.heap.size → I m W → W.heap[D]? = some (.deferred (some [])) → Q .normal { a with defers := { target := .collected D, args := #[] } :: a.defers } W)
    (hstop : ∀ (D : Nat) (c : Code) (k : Nat) (W : World), D = w.heap.size → k < m → Ix c (k + 1) W → W.heap[D]? = some (.deferred (some [])) → c.wpIn F n P Q { a with defers := { target := .collected D, args := #[] } :: a.defers } W) :
    (Code.rangeFunc g ps assign body).wpIn F n P Q a w := by
  refine wpIn_rangeFunc ?_
  intro fn hfn
  rw [hro]
  obtain ⟨rec, hrec⟩ : ∃ rec : LoopState → Option Code → Loop, rec = fun st pe => { state := st, pending := pe, fn, tmps := a.tmps, params := ps, assign, body, defers := w.heap.size } := ⟨_, rfl⟩
  obtain ⟨W1, hW1⟩ : ∃ W1, (w.alloc (.deferred (some []))).alloc (.loop (rec .ready none)) = W1 := ⟨_, rfl⟩
  have hsz1 : W1.heap.size = w.heap.size + 2 := by rw [← hW1]; simp
  have hL1 : W1.heap[w.heap.size + 1]? = some (.loop (rec .ready none)) := by
    rw [← hW1]; have := World.alloc_heap_new (w.alloc (.deferred (some []))) (.loop (rec .ready none)); rwa [World.size_alloc] at this
  have hK1 : W1.heap[w.heap.size]? = some (.deferred (some [])) := by
    rw [← hW1]; exact (Below.heap_alloc _ _ _ (by simp)).trans (World.alloc_heap_new w _)
  have hI1 : I 0 W1 := by rw [← hW1]; exact hI _ _ _ (hI _ _ _ h0 (CS.alloc _ _)) (CS.alloc _ _)
  have hb1 : Below w0.heap.size w0 W1 := by
    rw [← hW1]; exact hb0.trans ((((Below.refl _ w).alloc (Nat.le_refl _) _).alloc (by simp) _).mono hb0.size)
  have tk : ∀ {A B : World} {o : Obj} {k : Nat}, Touch (G W1.heap.size) A B → k = w.heap.size ∨ k = w.heap.size + 1 → A.heap[k]? = some o → B.heap[k]? = some o := fun {A B o k} ht hk ho =>
    (ht.block k (blk_lt ho) (fun hg => by
      rw [hsz1] at hg
      have := hG k hg
      omega)).trans ho
  refine ⟨w.heap.size + 1, [{ target := .collected w.heap.size, args := #[] }], W1, { target := .fn (.func gf) lb, args := #[.func (.yield (w.heap.size + 1)) #[] #[]] }, W1, gf,
    #[.func (.yield (w.heap.size + 1)) #[] #[]] ++ lb, W1, ?_, ?_, ?_, ?_, fun _ => h1, ?_⟩
  · rw [← hW1, hrec]; exact run_enterLoop_outer _ _ _ _ _
  · simp only [resolve, hg]
    simp [go_sem]
  · intro f' hf'; simp [Target.leads] at hf'; subst hf'; exact hFg
  · simp [invoke, go_sem, eg]
  · refine (hseq (w.heap.size + 1)
      (fun k W => I k W ∧ W.heap[w.heap.size + 1]? = some (.loop (rec .ready none)) ∧ W.heap[w.heap.size]? = some (.deferred (some [])) ∧ w.heap.size + 2 ≤ W.heap.size)
      (fun k W => ∃ c, Ix c k W ∧ W.heap[w.heap.size + 1]? = some (.loop (rec .done (some c))) ∧ W.heap[w.heap.size]? = some (.deferred (some [])))
      W1 hb1
      (fun k A B hs ht => ⟨hI _ _ _ hs.1 (CS.of_touch ht (fun j hj => by rw [← hsz1]; exact hj)), tk ht (.inr rfl) hs.2.1, tk ht (.inl rfl) hs.2.2.1, Nat.le_trans hs.2.2.2 ht.size⟩)
      (fun k A B hs ht => by
        obtain ⟨c, hc, hl, hk⟩ := hs
        exact ⟨c, hIx _ _ _ _ hc (CS.of_touch ht (fun j hj => by rw [← hsz1]; exact hj)), tk ht (.inr rfl) hl, tk ht (.inl rfl) hk⟩)
      ?_ ⟨hI1, hL1, hK1, Nat.le_of_eq hsz1.symm⟩).mono ?_
    · rintro k W hkm ⟨hi, hl, hk, hsz⟩
      have hlt : w.heap.size + 1 < W.heap.size := (Array.getElem?_eq_some_iff.1 hl).1
      have hy := run_yield (P := P) (args := args k) hl (by rw [hrec]; exact hps k)
      rw [hrec] at hy
      obtain ⟨a', hassign, hbody⟩ := hround (w.heap.size + 1) k W hkm
      refine ⟨fn, _, assign, body, hy, roundIn_of_wpIn hfn (hassign _ ⟨_, run_beginRound hl (by rw [hrec]), ?_⟩)⟩
      obtain ⟨WB, hWB⟩ : ∃ WB, W.putObj (w.heap.size + 1) (.loop { rec .ready none with state := .busy }) = WB := ⟨_, rfl⟩
      have hl2 : WB.heap[w.heap.size + 1]? = some (.loop { rec .ready none with state := .busy }) := by rw [← hWB]; exact World.putObj_heap_same hlt
      have hk2 : WB.heap[w.heap.size]? = some (.deferred (some [])) := by rw [← hWB]; exact (World.putObj_heap_other (by omega)).trans hk
      have hw2 : Keep (R W1.heap.size) W WB := by
        rw [← hWB]
        exact ⟨by simp, fun j hj => World.putObj_heap_other (fun e => by rw [hsz1] at hj; have := hR j hj; omega)⟩
      have hi2 : I k WB := by rw [← hWB]; exact hI _ _ _ hi (CS.putObj (by omega) hl rfl)
      have hsz2 : w.heap.size + 2 ≤ WB.heap.size := by rw [← hWB]; simpa using hsz
      have hh := hbody WB hi2 hsz2 ⟨_, hk2, rfl⟩ ⟨_, hl2, rfl⟩
      show Code.wpIn _ _ _ _ _ _ (W.putObj (w.heap.size + 1) (.loop { rec .ready none with state := .busy }))
      rw [hWB]
      refine wpIn_mono hh ?_
      have fin : ∀ (jump : Option Code) (W3 : World), RK w.heap.size WB W3 →
          (Instr.endRound (w.heap.size + 1) jump).run P W3 = .ok (.bool jump.isNone) (W3.putObj (w.heap.size + 1) (.loop (rec (if jump.isNone then .ready else .done) jump))) ∧
          W3.heap[w.heap.size + 1]? = some (.loop { rec .ready none with state := .busy }) ∧
          (W3.putObj (w.heap.size + 1) (.loop (rec (if jump.isNone then .ready else .done) jump))).heap[w.heap.size + 1]? = some (.loop (rec (if jump.isNone then .ready else .done) jump)) ∧
          (W3.putObj (w.heap.size + 1) (.loop (rec (if jump.isNone then .ready else .done) jump))).heap[w.heap.size]? = some (.deferred (some [])) := fun jump W3 hk3 => by
        have hl3 := hk3.2.trans hl2
        have := run_endRound (P := P) jump hl3
        rw [hrec] at this ⊢
        exact ⟨this, by rw [hrec] at hl3; exact hl3, World.putObj_heap_same (Array.getElem?_eq_some_iff.1 hl3).1, (World.putObj_heap_other (by omega)).trans (hk3.1.trans hk2)⟩
      rintro e a3 W3 hp
      cases e with
      | normal =>
        obtain ⟨hk3, hkp3, hi3⟩ := hp
        obtain ⟨hr, hl3, hl4, hk4⟩ := fin none W3 hk3
        rw [← hsz1] at hkp3
        refine ⟨_, _, hr, .inl ⟨rfl, ⟨hI _ _ _ hi3 (CS.putObj (by omega) hl3 rfl), hl4, hk4, by simpa using Nat.le_trans hsz2 hkp3.size⟩, (hw2.trans hkp3).trans ⟨by simp, fun j hj => World.putObj_heap_other (fun e => by rw [hsz1] at hj; have := hR j hj; omega)⟩⟩⟩
      | ret =>
        obtain ⟨hk3, hi3⟩ := hp
        obtain ⟨hr, hl3, hl4, hk4⟩ := fin (some .ret) W3 hk3
        exact ⟨_, _, hr, .inr ⟨rfl, .ret, hIx _ _ _ _ hi3 (CS.putObj (by omega) hl3 rfl), hl4, hk4⟩⟩
      | exit id =>
        obtain ⟨hk3, hi3⟩ := hp
        obtain ⟨hr, hl3, hl4, hk4⟩ := fin (some (.exit id)) W3 hk3
        exact ⟨_, _, hr, .inr ⟨rfl, .exit id, hIx _ _ _ _ hi3 (CS.putObj (by omega) hl3 rfl), hl4, hk4⟩⟩
      | goto t =>
        obtain ⟨hk3, hi3⟩ := hp
        obtain ⟨hr, hl3, hl4, hk4⟩ := fin (some (.goto t)) W3 hk3
        exact ⟨_, _, hr, .inr ⟨rfl, .goto t, hIx _ _ _ _ hi3 (CS.putObj (by omega) hl3 rfl), hl4, hk4⟩⟩
      | panic _ => exact hp.elim
      | outgrown => exact hp.elim
    · rintro e W2 ⟨⟨v, rfl⟩, h⟩
      rcases h with ⟨hi, hl, hk, _⟩ | ⟨k, hkm, c, hi, hl, hk⟩
      · exact ⟨none, _, by have := run_endLoop (P := P) hl (by rw [hrec]; simp); rw [hrec] at this; exact this, hdone _ _ rfl (hI _ _ _ hi (CS.putObj (by omega) hl rfl)) ((World.putObj_heap_other (by omega)).trans hk)⟩
      · exact ⟨some c, _, by have := run_endLoop (P := P) hl (by rw [hrec]; simp); rw [hrec] at this; exact this, hstop _ _ _ _ rfl hkm (hIx _ _ _ _ hi (CS.putObj (by omega) hl rfl)) ((World.putObj_heap_other (by omega)).trans hk)⟩
/-- **The caller's law**, where the loop's variable is boxed: the assignment lays one block of cells. -/
theorem wpIn_rangeA {g : Operand} {ps : Array Tmp} {assign body : Code} {Q : Exit → Act → World → Prop} {a : Act} {w : World}
    (hro : F.round = none) (h1 : 1 ≤ n) {gf : Nat} {lb : Array Value} (hg : a.eval g = .func (.func gf) #[] lb) (hFg : F.fn gf) (eg : ∀ args w, (callFunc gf args).run P w = .ok (.enter gf args) w)
    {args : Nat → Array Value} {m : Nat} {R G : Nat → Nat → Prop} {w0 : World} (hseq : SeqL F (n - 1) P gf lb args m R G w0) (hb0 : Below w0.heap.size w0 w) (hps : ∀ k, (args k).size = ps.size)
    (hR : ∀ k, R (w.heap.size + 2) k → k ≠ w.heap.size ∧ k ≠ w.heap.size + 1) (hKR : ∀ k, R (w.heap.size + 2) k → ∀ (W : World) (o : Obj), w.heap.size + 2 ≤ W.heap.size → (W.alloc o).heap[k]? = W.heap[k]?) (hG : ∀ k, G (w.heap.size + 2) k → k ≠ w.heap.size ∧ k ≠ w.heap.size + 1)
    (I : Nat → World → Prop) (Ix : Code → Nat → World → Prop)
    (hI : ∀ k A B, I k A → CS (G (w.heap.size + 2)) w.heap.size A B → I k B) (hIx : ∀ c k A B, Ix c k A → CS (G (w.heap.size + 2)) w.heap.size A B → Ix c k B)
    (h0 : I 0 w)
    (hround : ∀ (l k : Nat) (W : World), k < m → I k W → w.heap.size + 2 ≤ W.heap.size → ∃ (a' : Act) (o : Obj), o.isCells = true ∧
      (∀ K : Act → World → Prop, K a' (W.alloc o) → assign.wpIn (F.inRound l) (n - 1 - 1) P (Exit.then K (fun _ _ _ => False)) { tmps := (ps.zip (args k)).foldl (fun t (p, v) => t.setIfInBounds p v) a.tmps, defers := [] } W) ∧
      (∀ W' : World, I k W' → W'.heap[W.heap.size]? = some o → w.heap.size + 2 ≤ W'.heap.size → NC W' w.heap.size → NC W' (w.heap.size + 1) →
        body.wpIn (F.inRound l) (n - 1 - 1) P (postL w.heap.size (R (w.heap.size + 2)) I Ix k W') a' W'))
    (hdone : ∀ (D : Nat) (W : World), D = w.heap.size → I m W → W.heap[D]? = some (.deferred (some [])) → Q .normal { a with defers := { target := .collected D, args := #[] } :: a.defers } W)
    (hstop : ∀ (D : Nat) (c : Code) (k : Nat) (W : World), D = w.heap.size → k < m → Ix c (k + 1) W → W.heap[D]? = some (.deferred (some [])) → c.wpIn F n P Q { a with defers := { target := .collected D, args := #[] } :: a.defers } W) :
    (Code.rangeFunc g ps assign body).wpIn F n P Q a w := by
  refine wpIn_rangeFunc ?_
  intro fn hfn
  rw [hro]
  obtain ⟨rec, hrec⟩ : ∃ rec : LoopState → Option Code → Loop, rec = fun st pe => { state := st, pending := pe, fn, tmps := a.tmps, params := ps, assign, body, defers := w.heap.size } := ⟨_, rfl⟩
  obtain ⟨W1, hW1⟩ : ∃ W1, (w.alloc (.deferred (some []))).alloc (.loop (rec .ready none)) = W1 := ⟨_, rfl⟩
  have hsz1 : W1.heap.size = w.heap.size + 2 := by rw [← hW1]; simp
  have hL1 : W1.heap[w.heap.size + 1]? = some (.loop (rec .ready none)) := by
    rw [← hW1]; have := World.alloc_heap_new (w.alloc (.deferred (some []))) (.loop (rec .ready none)); rwa [World.size_alloc] at this
  have hK1 : W1.heap[w.heap.size]? = some (.deferred (some [])) := by
    rw [← hW1]; exact (Below.heap_alloc _ _ _ (by simp)).trans (World.alloc_heap_new w _)
  have hI1 : I 0 W1 := by rw [← hW1]; exact hI _ _ _ (hI _ _ _ h0 (CS.alloc _ _)) (CS.alloc _ _)
  have hb1 : Below w0.heap.size w0 W1 := by
    rw [← hW1]; exact hb0.trans ((((Below.refl _ w).alloc (Nat.le_refl _) _).alloc (by simp) _).mono hb0.size)
  have tk : ∀ {A B : World} {o : Obj} {k : Nat}, Touch (G W1.heap.size) A B → k = w.heap.size ∨ k = w.heap.size + 1 → A.heap[k]? = some o → B.heap[k]? = some o := fun {A B o k} ht hk ho =>
    (ht.block k (blk_lt ho) (fun hg => by
      rw [hsz1] at hg
      have := hG k hg
      omega)).trans ho
  refine ⟨w.heap.size + 1, [{ target := .collected w.heap.size, args := #[] }], W1, { target := .fn (.func gf) lb, args := #[.func (.yield (w.heap.size + 1)) #[] #[]] }, W1, gf,
    #[.func (.yield (w.heap.size + 1)) #[] #[]] ++ lb, W1, ?_, ?_, ?_, ?_, fun _ => h1, ?_⟩
  · rw [← hW1, hrec]; exact run_enterLoop_outer _ _ _ _ _
  · simp only [resolve, hg]
    simp [go_sem]
  · intro f' hf'; simp [Target.leads] at hf'; subst hf'; exact hFg
  · simp [invoke, go_sem, eg]
  · refine (hseq (w.heap.size + 1)
      (fun k W => I k W ∧ W.heap[w.heap.size + 1]? = some (.loop (rec .ready none)) ∧ W.heap[w.heap.size]? = some (.deferred (some [])) ∧ w.heap.size + 2 ≤ W.heap.size)
      (fun k W => ∃ c, Ix c k W ∧ W.heap[w.heap.size + 1]? = some (.loop (rec .done (some c))) ∧ W.heap[w.heap.size]? = some (.deferred (some [])))
      W1 hb1
      (fun k A B hs ht => ⟨hI _ _ _ hs.1 (CS.of_touch ht (fun j hj => by rw [← hsz1]; exact hj)), tk ht (.inr rfl) hs.2.1, tk ht (.inl rfl) hs.2.2.1, Nat.le_trans hs.2.2.2 ht.size⟩)
      (fun k A B hs ht => by
        obtain ⟨c, hc, hl, hk⟩ := hs
        exact ⟨c, hIx _ _ _ _ hc (CS.of_touch ht (fun j hj => by rw [← hsz1]; exact hj)), tk ht (.inr rfl) hl, tk ht (.inl rfl) hk⟩)
      ?_ ⟨hI1, hL1, hK1, Nat.le_of_eq hsz1.symm⟩).mono ?_
    · rintro k W hkm ⟨hi, hl, hk, hsz⟩
      have hlt : w.heap.size + 1 < W.heap.size := (Array.getElem?_eq_some_iff.1 hl).1
      have hy := run_yield (P := P) (args := args k) hl (by rw [hrec]; exact hps k)
      rw [hrec] at hy
      obtain ⟨a', o, hoc, hassign, hbody⟩ := hround (w.heap.size + 1) k W hkm hi hsz
      have hlA := alloc_keep hl o
      refine ⟨fn, _, assign, body, hy, roundIn_of_wpIn hfn (hassign _ ⟨_, run_beginRound hlA (by rw [hrec]), ?_⟩)⟩
      have hszA : (W.alloc o).heap.size = W.heap.size + 1 := World.size_alloc W o
      obtain ⟨WB, hWB⟩ : ∃ WB, (W.alloc o).putObj (w.heap.size + 1) (.loop { rec .ready none with state := .busy }) = WB := ⟨_, rfl⟩
      have hl2 : WB.heap[w.heap.size + 1]? = some (.loop { rec .ready none with state := .busy }) := by rw [← hWB]; exact World.putObj_heap_same (by omega)
      have hk2 : WB.heap[w.heap.size]? = some (.deferred (some [])) := by rw [← hWB]; exact put_other (alloc_keep hk o) (by omega)
      have hw2 : Keep (R W1.heap.size) W WB := by
        rw [← hWB]
        refine ⟨by simp, fun j hj => ?_⟩
        rw [World.putObj_heap_other (fun e => by rw [hsz1] at hj; have := hR j hj; omega)]
        exact hKR j (by rw [← hsz1]; exact hj) W o hsz
      have hi2 : I k WB := by rw [← hWB]; exact hI _ _ _ (hI _ _ _ hi (CS.alloc _ _)) (CS.putObj (by omega) hlA rfl)
      have hsz2 : w.heap.size + 2 ≤ WB.heap.size := by rw [← hWB]; simp; omega
      have ho2 : WB.heap[W.heap.size]? = some o := by rw [← hWB]; exact put_other (heap_alloc_new W o) (by omega)
      have hh := hbody WB hi2 ho2 hsz2 ⟨_, hk2, rfl⟩ ⟨_, hl2, rfl⟩
      show Code.wpIn _ _ _ _ _ _ ((W.alloc o).putObj (w.heap.size + 1) (.loop { rec .ready none with state := .busy }))
      rw [hWB]
      refine wpIn_mono hh ?_
      have fin : ∀ (jump : Option Code) (W3 : World), RK w.heap.size WB W3 →
          (Instr.endRound (w.heap.size + 1) jump).run P W3 = .ok (.bool jump.isNone) (W3.putObj (w.heap.size + 1) (.loop (rec (if jump.isNone then .ready else .done) jump))) ∧
          W3.heap[w.heap.size + 1]? = some (.loop { rec .ready none with state := .busy }) ∧
          (W3.putObj (w.heap.size + 1) (.loop (rec (if jump.isNone then .ready else .done) jump))).heap[w.heap.size + 1]? = some (.loop (rec (if jump.isNone then .ready else .done) jump)) ∧
          (W3.putObj (w.heap.size + 1) (.loop (rec (if jump.isNone then .ready else .done) jump))).heap[w.heap.size]? = some (.deferred (some [])) := fun jump W3 hk3 => by
        have hl3 := hk3.2.trans hl2
        have := run_endRound (P := P) jump hl3
        rw [hrec] at this ⊢
        exact ⟨this, by rw [hrec] at hl3; exact hl3, World.putObj_heap_same (Array.getElem?_eq_some_iff.1 hl3).1, (World.putObj_heap_other (by omega)).trans (hk3.1.trans hk2)⟩
      rintro e a3 W3 hp
      cases e with
      | normal =>
        obtain ⟨hk3, hkp3, hi3⟩ := hp
        obtain ⟨hr, hl3, hl4, hk4⟩ := fin none W3 hk3
        rw [← hsz1] at hkp3
        refine ⟨_, _, hr, .inl ⟨rfl, ⟨hI _ _ _ hi3 (CS.putObj (by omega) hl3 rfl), hl4, hk4, by simpa using Nat.le_trans hsz2 hkp3.size⟩, (hw2.trans hkp3).trans ⟨by simp, fun j hj => World.putObj_heap_other (fun e => by rw [hsz1] at hj; have := hR j hj; omega)⟩⟩⟩
      | ret =>
        obtain ⟨hk3, hi3⟩ := hp
        obtain ⟨hr, hl3, hl4, hk4⟩ := fin (some .ret) W3 hk3
        exact ⟨_, _, hr, .inr ⟨rfl, .ret, hIx _ _ _ _ hi3 (CS.putObj (by omega) hl3 rfl), hl4, hk4⟩⟩
      | exit id =>
        obtain ⟨hk3, hi3⟩ := hp
        obtain ⟨hr, hl3, hl4, hk4⟩ := fin (some (.exit id)) W3 hk3
        exact ⟨_, _, hr, .inr ⟨rfl, .exit id, hIx _ _ _ _ hi3 (CS.putObj (by omega) hl3 rfl), hl4, hk4⟩⟩
      | goto t =>
        obtain ⟨hk3, hi3⟩ := hp
        obtain ⟨hr, hl3, hl4, hk4⟩ := fin (some (.goto t)) W3 hk3
        exact ⟨_, _, hr, .inr ⟨rfl, .goto t, hIx _ _ _ _ hi3 (CS.putObj (by omega) hl3 rfl), hl4, hk4⟩⟩
      | panic _ => exact hp.elim
      | outgrown => exact hp.elim
    · rintro e W2 ⟨⟨v, rfl⟩, h⟩
      rcases h with ⟨hi, hl, hk, _⟩ | ⟨k, hkm, c, hi, hl, hk⟩
      · exact ⟨none, _, by have := run_endLoop (P := P) hl (by rw [hrec]; simp); rw [hrec] at this; exact this, hdone _ _ rfl (hI _ _ _ hi (CS.putObj (by omega) hl rfl)) ((World.putObj_heap_other (by omega)).trans hk)⟩
      · exact ⟨some c, _, by have := run_endLoop (P := P) hl (by rw [hrec]; simp); rw [hrec] at this; exact this, hstop _ _ _ _ rfl hkm (hIx _ _ _ _ hi (CS.putObj (by omega) hl rfl)) ((World.putObj_heap_other (by omega)).trans hk)⟩
section
variable {Q : Exit → Act → World → Prop} {a : Act} {w : World}
theorem stepR_scope {b : Frame} {k : List Item} {cs : List Frame} {c : Code} : step P (lone (b.atR a (.code (.scope c) :: k)) cs w) = .next (lone (b.atR a (.code c :: .inScope c :: k)) cs w) :=
  step_lone_go (by simp [stepG, stepG.exec, Frame.atR])
theorem stepR_inScope {b : Frame} {k : List Item} {cs : List Frame} {c : Code} : step P (lone (b.atR a (.inScope c :: k)) cs w) = .next (lone (b.atR a k) cs w) :=
  step_lone_go (by simp [stepG, stepG.exec, Frame.atR])
/-- A scope out of which nothing jumps to a label. -/
theorem wpIn_scope_straight {c : Code} (h : c.wpIn F n P (Exit.noGoto Q) a w) : (Code.scope c).wpIn F n P Q a w := by
  intro b k cs hro hb hr
  have h0 : (lone (b.atR a (.code (.scope c) :: k)) cs w).fenced P F := fenced_calm hb hr rfl
  obtain ⟨e, a₁, w₁, hq, harr⟩ := h b (.inScope c :: k) cs hro hb hr
  cases e with
  | normal => exact ⟨.normal, a₁, w₁, hq, .head h0 stepR_scope (StepsIn.trans harr (.one (fenced_calm hb hr rfl) stepR_inScope))⟩
  | exit id =>
    have hx : exitTo id (.inScope c :: k) = exitTo id k := by simp [exitTo]
    exact ⟨.exit id, a₁, w₁, hq, fun k' hk => .head h0 stepR_scope (harr.1 k' (by rw [hx]; exact hk)),
      fun hr' hk => let ⟨k₁, h1, h2⟩ := harr.2 hr' (by rw [hx]; exact hk); ⟨k₁, h1, .head h0 stepR_scope h2⟩⟩
  | goto l => exact hq.elim
  | ret => exact ⟨_, a₁, w₁, hq, .of_steps (.one h0 stepR_scope) harr⟩
  | panic ch => exact ⟨_, a₁, w₁, hq, .of_steps (.one h0 stepR_scope) harr⟩
  | outgrown => exact ⟨_, a₁, w₁, hq, .of_steps (.one h0 stepR_scope) harr⟩
end
theorem wpListIn_append_SLs {w : World} {ops : Array Oper} {rest : List Oper} {o : Oper} {a : Act} {Q : Exit → Act → World → Prop} (hgd : o.guard = none) (s x : Operand) (t : TypeId)
    (ho : o.op = .call { callee := .builtin .append, args := #[s, x], argTypes := #[t, t] })
    (e : TypeId) (i : TypeInfo) (z : Value) (size bytes : Nat) (ht : P.underlying t = some (.slice e)) (hi : P.info? e = some i) (hz : i.zero = some z)
    (hsize : i.size = size) (hby : i.bytes = bytes) (hzs : z.cells.size = size) (hsz : 0 < size)
    (v : Value) (k : Nat) (xs : List Value) (hs : a.eval s = v) (hown : SL w e size v k xs)
    (u : Value) (m : Nat) (news : List Value) (hx : a.eval x = u) (hu : SL w e size u m news) (h1 : ∀ u ∈ news, u.oneCell' = true)
    (N : Nat) (ys : List Value) (hN : k + m = N) (hys : xs ++ news = ys) (h63 : N ≤ maxLen) (hbytes : N * bytes ≤ 140737488355328)
    (h : ∀ A cap w', SL w' e size (.slice A N cap) N ys → w.grownBy w' v.ownBlock → (∀ k, (Value.slice A N cap).ownBlock = some k → v.ownBlock = some k ∨ w.heap.size ≤ k) → wpListIn F n P ops Q rest (a.put o.dst (.slice A N cap)) w') : wpListIn F n P ops Q (o :: rest) a w := by
  refine wpListIn_plain hgd fun K hK' => ?_
  subst hN hys
  obtain ⟨A, cap, w', hrun, h2, h3, h4⟩ := run_append_SLs (P := P) w t o.type e i z size bytes ht hi hz hsize hby hzs hsz v k xs hown u m news hu h1 h63 hbytes
  unfold Oper.wpIn
  refine ⟨?_, ?_⟩
  · simp [Oper.about, ho, resolve, Target.leads, Sem.run_pure]
  · rw [Oper.semAt_plain F _ _ (by rw [ho]; intro c hc'; cases hc')]
    simp [execOp, ho, resolve, invoke, builtin, hs, hx, hrun, Result.andThen]
    exact hK' _ _ (h A cap w' h2 h3 h4)
end Go.Proofs.YteigplfldhdakaaGreatDoor
