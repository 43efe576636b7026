/- Small words for the walks of this seat: a row of whole numbers in memory, read and written as a whole; what is below a block stays. -/
import Derived.Test.YtechbpcbccjppaaRows
import Derived.WalkKit
import Derived.WalkSpells
import Derived.Laws.Rows
import Derived.Laws.Tables
import Derived.Deep.QuietTactic
import Derived.BigQuiet
import Derived.Deep.RegionWith
namespace Go.Proofs.Ytechbpcbccjppaa
open Go.RowKit
theorem hid {p : Prop} (h : p) : Hid p := h
theorem bdrew {B : Nat} {w W : World} (h : Below B w W) (n : Nat) : Below B w (W.drewN n) := ⟨h.os, h.tape, h.output, h.size, h.block⟩
theorem balloc {w W : World} (h : Below w.heap.size w W) (o : Obj) : Below w.heap.size w (W.alloc o) := h.alloc h.size o
theorem ret_val {v u : Value} (h : v = u) : Ending.returned v = Ending.returned u := by rw [h]
def nums (k : IntKind) (xs : List Int) : List Value := xs.map fun x => .int k x
/-- digit number i of a number -/
def dg (xs : List Int) (i : Nat) : Int := xs.getD i 0
theorem nums_length (k : IntKind) (xs : List Int) : (nums k xs).length = xs.length := by simp [nums]
theorem nums_get (k : IntKind) (xs : List Int) (i : Nat) (h : i < xs.length) : (nums k xs).toArray[i]? = some (.int k (dg xs i)) := by
  simp [nums, dg, h]
theorem nums_set (k : IntKind) (xs : List Int) (i : Nat) (x : Int) : (nums k xs).toArray.setIfInBounds i (.int k x) = (nums k (xs.set i x)).toArray := by
  simp [nums, List.map_set]
theorem dg_set (xs : List Int) (i j : Nat) (x : Int) : dg (xs.set i x) j = if i = j ∧ j < xs.length then x else dg xs j := by
  unfold dg
  simp only [List.getD_eq_getElem?_getD, List.getElem?_set]
  by_cases h : i = j
  · subst h
    by_cases h2 : i < xs.length
    · simp [h2]
    · simp [h2]
  · simp [h]
/-- Block b is a row of whole numbers of kind k, of type t. -/
def Blk (w : World) (b : Nat) (k : IntKind) (t : TypeId) (xs : List Int) : Prop := w.heap[b]? = some (.cells (nums k xs).toArray t (0, 0))
theorem Blk.lt {w : World} {b : Nat} {k : IntKind} {t : TypeId} {xs : List Int} (h : Blk w b k t xs) : b < w.heap.size := (Array.getElem?_eq_some_iff.1 h).1
theorem Blk.new (w : World) (k : IntKind) (t : TypeId) (xs : List Int) : Blk (w.alloc (.cells (nums k xs).toArray t)) w.heap.size k t xs := heap_alloc_new w _
theorem Blk.alloc {w : World} {b : Nat} {k : IntKind} {t : TypeId} {xs : List Int} (h : Blk w b k t xs) (o : Obj) : Blk (w.alloc o) b k t xs := (Below.heap_alloc w o b h.lt).trans h
theorem Blk.drewN {w : World} {b : Nat} {k : IntKind} {t : TypeId} {xs : List Int} (h : Blk w b k t xs) (n : Nat) : Blk (w.drewN n) b k t xs := h
theorem Blk.below {w w1 : World} {b : Nat} {k : IntKind} {t : TypeId} {xs : List Int} (h : Blk w b k t xs) (hb : Below w.heap.size w w1) : Blk w1 b k t xs := (hb.block b h.lt).trans h
theorem Blk.cell {w : World} {b : Nat} {k : IntKind} {t : TypeId} {xs : List Int} (h : Blk w b k t xs) (i : Nat) (hi : i < xs.length) : w.cell? ⟨b, i, none⟩ = some (.int k (dg xs i)) := by
  rw [cell_of_row w b i _ t (0, 0) h, nums_get k xs i hi]
theorem Blk.frozen {w : World} {b : Nat} {k : IntKind} {t : TypeId} {xs : List Int} (h : Blk w b k t xs) (i : Nat) : w.frozen? ⟨b, i, none⟩ = false := frozen_of_row w b i _ t h
theorem Blk.set_ {w : World} {b : Nat} {k : IntKind} {t : TypeId} {xs : List Int} (h : Blk w b k t xs) (i : Nat) (x : Int) : Blk (w.setCell ⟨b, i, none⟩ (.int k x)) b k t (xs.set i x) := by
  have := heap_setCell_same w b i _ t (.int k x) h
  rw [nums_set] at this
  exact this
theorem Blk.far {w : World} {b : Nat} {k : IntKind} {t : TypeId} {xs : List Int} (h : Blk w b k t xs) {p : Addr} (hp : b ≠ p.block) (u : Value) : Blk (w.setCell p u) b k t xs := (heap_setCell_other w p b u hp).trans h
theorem Blk.row {w : World} {b : Nat} {k : IntKind} {t : TypeId} {xs : List Int} (h : Blk w b k t xs) (ys : List Int) : Blk (w.setRow b (nums k ys).toArray) b k t ys := setRow_heap w b _ _ t (0, 0) h
theorem Blk.row_far {w : World} {b g : Nat} {k : IntKind} {t : TypeId} {xs : List Int} (h : Blk w b k t xs) (hg : b ≠ g) (cs : Array Value) : Blk (w.setRow g cs) b k t xs := (setRow_other w g b cs hg).trans h
theorem below_setRow {B g : Nat} {w0 w : World} (hb : Below B w0 w) (hBg : B ≤ g) (cs : Array Value) : Below B w0 (w.setRow g cs) :=
  hb.trans ⟨rfl, rfl, rfl, by simp, fun k hk => setRow_other _ _ _ _ (by omega)⟩
theorem nums_one (k : IntKind) (xs : List Int) : (nums k xs).toArray.all (·.oneCell') = true := by
  simp [nums, Value.oneCell']
section
variable {P : Program} {ops : Array Oper} {rest : List Oper} {o : Oper} {a : Act} {w : World} {Q : Exit → Act → World → Prop}
/-- a whole array of whole numbers, read -/
theorem load_row (hgd : o.guard = none) (ty : TypeId) (x : Operand) (ho : o.op = .load ty x) (g : Nat) (hx : a.eval x = .pointer (some ⟨g, 0, none⟩))
    {k : IntKind} {t : TypeId} {xs : List Int} (hg : Blk w g k t xs) {n : Nat} {el : TypeId} (hu : P.underlying ty = some (.array n el)) (hi : (P.info? ty).map (·.size) = some xs.length)
    (h : wpList P ops Q rest (a.put o.dst (.agg (nums k xs).toArray)) w) : wpList P ops Q (o :: rest) a w :=
  wpList_load_row hgd ty x ho g hx t _ (0, 0) _ hg hu rfl (by rw [hi]; simp [nums]) h
/-- .. and written -/
theorem store_row (hgd : o.guard = none) (ty : TypeId) (x y : Operand) (ho : o.op = .store ty x y) (g : Nat) (hx : a.eval x = .pointer (some ⟨g, 0, none⟩))
    {k : IntKind} {t : TypeId} {xs ys : List Int} (hy : a.eval y = .agg (nums k ys).toArray) (hg : Blk w g k t xs) (hl : xs.length = ys.length) (hi : (P.info? ty).map (·.size) = some ys.length)
    (h : ∀ W', W' = w.setRow g (nums k ys).toArray → wpList P ops Q rest (a.put o.dst undef) W') : wpList P ops Q (o :: rest) a w :=
  wpList_store_row hgd ty x y ho g _ hx hy t _ hg (by rw [hi]; simp [nums]) (by simp [nums, hl]) (nums_one _ _) (h _ rfl)
/-! One operation of a region that draws its order. -/
variable {md : Region.Mode} {fuel : Nat} {listed : Array Bool} {rs : List Nat} {i : Nat}
theorem rdy (hgd : o.guard = none) (hoi : ops[i]? = some o) (h : ∀ K' : Act → World → Prop, (∀ a w, wpAny P md ops Q fuel (listed.setIfInBounds i true) a w → K' a w) → Oper.wp P o a w K' Q)
    (hs : AllReady P md ops Q fuel listed a w rs) : AllReady P md ops Q fuel listed a w (i :: rs) :=
  AllReady.cons hoi (fun K' hK => by rw [if_pos (by simp [Region.wanted, hgd])]; exact h K' hK) hs
theorem rdy_load (hgd : o.guard = none) (hoi : ops[i]? = some o) (ty : TypeId) (x : Operand) (ho : o.op = .load ty x) (g : Nat) (hx : a.eval x = .pointer (some ⟨g, 0, none⟩))
    {k : IntKind} {t : TypeId} {xs : List Int} (hg : Blk w g k t xs) {n : Nat} {el : TypeId} (hu : P.underlying ty = some (.array n el)) (hi : (P.info? ty).map (·.size) = some xs.length)
    (h : wpAny P md ops Q fuel (listed.setIfInBounds i true) (a.put o.dst (.agg (nums k xs).toArray)) w)
    (hs : AllReady P md ops Q fuel listed a w rs) : AllReady P md ops Q fuel listed a w (i :: rs) :=
  rdy hgd hoi (fun _ hK => wp_load_row ty x ho g hx t _ (0, 0) _ hg hu rfl (by rw [hi]; simp [nums]) (hK _ _ h)) hs
theorem rdy_store (hgd : o.guard = none) (hoi : ops[i]? = some o) (ty : TypeId) (x y : Operand) (ho : o.op = .store ty x y) (g : Nat) (hx : a.eval x = .pointer (some ⟨g, 0, none⟩))
    {k : IntKind} {t : TypeId} {xs ys : List Int} (hy : a.eval y = .agg (nums k ys).toArray) (hg : Blk w g k t xs) (hl : xs.length = ys.length) (hi : (P.info? ty).map (·.size) = some ys.length)
    (h : ∀ W', W' = w.setRow g (nums k ys).toArray → wpAny P md ops Q fuel (listed.setIfInBounds i true) (a.put o.dst undef) W')
    (hs : AllReady P md ops Q fuel listed a w rs) : AllReady P md ops Q fuel listed a w (i :: rs) :=
  rdy hgd hoi (fun _ hK => wp_store_row ty x y ho g _ hx hy t _ hg (by rw [hi]; simp [nums]) (by simp [nums, hl]) (nums_one _ _) (hK _ _ (h _ rfl))) hs
end
end Go.Proofs.Ytechbpcbccjppaa
