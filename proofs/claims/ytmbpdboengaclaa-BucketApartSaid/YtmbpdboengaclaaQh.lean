/- Slices of whole numbers that were handed in. -/
import Derived.Test.YtmbpdboengaclaaQg
namespace Go.Proofs.Ytmbpdboengaclaa
set_option linter.unusedVariables false
set_option linter.unusedSimpArgs false
open Go.RowKit
def el (zs : List Int) (i : Nat) : Int := zs.getD i 0
/-- the slice (a, len, cap) holds the numbers zs (its spare room too) -/
def IsRow (k : IntKind) (w : World) (a : Option Addr) (len cap : Nat) (zs : List Int) : Prop :=
  (a = none ∧ len = 0 ∧ cap = 0 ∧ zs = []) ∨
  ∃ x, a = some x ∧ len ≤ cap ∧ cap ≤ maxLen ∧ zs.length = cap ∧ (∀ i, i < zs.length → w.cell? (x.add i) = some (.int k (zs.getD i 0))) ∧ (∀ n ∈ zs, (Lit.int k n).wf = true)
theorem u16_range {x : Int} (h : (Lit.int .u16 x).wf = true) : 0 ≤ x ∧ x ≤ 65535 := by
  have h2 : (decide (IntKind.u16.min ≤ x) && decide (x ≤ IntKind.u16.max)) = true := h
  rw [Bool.and_eq_true, decide_eq_true_eq, decide_eq_true_eq] at h2
  exact h2
theorem IsRow.get {w w' : World} {a : Option Addr} {len cap : Nat} {zs : List Int} (h : IsRow .u16 w a len cap zs) (hb : Below w.heap.size w w') {i : Nat} (hi : i < len) :
    ∃ x, a = some x ∧ w'.cell? (x.add i) = some (.int .u16 (el zs i)) ∧ 0 ≤ el zs i ∧ el zs i ≤ 65535 := by
  rcases h with ⟨_, h0, _⟩ | ⟨x, rfl, h1, h2, h3, h4, h5⟩
  · omega
  · have hc := h4 i (by omega)
    refine ⟨x, rfl, (hb.cell (p := x.add i) (World.block_lt_of_cell? w _ hc)).trans hc, u16_range (h5 _ ?_)⟩
    unfold el
    have hl : i < zs.length := by omega
    simp [hl]
theorem IsRow.le {k : IntKind} {w : World} {a : Option Addr} {len cap : Nat} {zs : List Int} (h : IsRow k w a len cap zs) : len ≤ 9223372036854775807 := by
  rcases h with ⟨_, rfl, _⟩ | ⟨x, _, h1, h2, _⟩
  · omega
  · simp only [maxLen] at h2; omega
end Go.Proofs.Ytmbpdboengaclaa
