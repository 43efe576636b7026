/- Bytes that were handed in. -/
import Derived.Test.YtlonmjmjmnondaaBo
namespace Go.Proofs.Ytlonmjmjmnondaa
set_option linter.unusedVariables false
set_option linter.unusedSimpArgs false
open Go.RowKit
/-- the slice (a, len, cap) holds the numbers zs (its spare room too) -/
def IsRow (k : IntKind) (w : World) (a : Option Addr) (len cap : Nat) (zs : List Int) : Prop :=
  (a = none ∧ len = 0 ∧ cap = 0 ∧ zs = []) ∨
  ∃ x, a = some x ∧ len ≤ cap ∧ cap ≤ maxLen ∧ zs.length = cap ∧ (∀ i, i < zs.length → w.cell? (x.add i) = some (.int k (zs.getD i 0))) ∧ (∀ n ∈ zs, (Lit.int k n).wf = true)
theorem u8_range {x : Int} (h : (Lit.int .u8 x).wf = true) : 0 ≤ x ∧ x ≤ 255 := by
  have h2 : (decide (IntKind.u8.min ≤ x) && decide (x ≤ IntKind.u8.max)) = true := h
  rw [Bool.and_eq_true, decide_eq_true_eq, decide_eq_true_eq] at h2
  exact h2
theorem IsRow.rb {w : World} {a : Option Addr} {len cap : Nat} {zs : List Int} (h : IsRow .u8 w a len cap zs) : ∃ xs : List Int, xs.length = len ∧ Bytes xs ∧ RB w (.slice a len cap) xs := by
  rcases h with ⟨rfl, rfl, rfl, rfl⟩ | ⟨x, rfl, h1, h2, h3, h4, h5⟩
  · exact ⟨[], rfl, fun x hx => by simp at hx, (BS.nil w).rb⟩
  · have hl : (zs.take len).length = len := by rw [List.length_take]; omega
    refine ⟨zs.take len, hl, fun y hy => u8_range (h5 y (List.mem_of_mem_take hy)), ⟨some x, cap, by rw [hl], by omega, h2, fun h => by simp at h, by simp [by8], fun a ha j u hj => ?_⟩⟩
    simp only [Option.some.injEq] at ha
    subst ha
    have hjl : j < (by8 (zs.take len)).length := by
      rcases Nat.lt_or_ge j (by8 (zs.take len)).length with h | h
      · exact h
      · rw [List.getElem?_eq_none h] at hj; cases hj
    rw [by8_length, hl] at hjl
    rw [h4 j (by omega)]
    simp only [by8, List.getElem?_map, List.getElem?_take, if_pos hjl] at hj
    rw [List.getD_eq_getElem?_getD]
    have hz : zs[j]? = some (zs[j]'(by omega)) := List.getElem?_eq_getElem (by omega)
    rw [hz] at hj ⊢
    simpa using hj
theorem RB.nil (w : World) : RB w (.slice none 0 0) [] := (BS.nil w).rb
theorem bytes_nil : Bytes [] := fun x hx => by simp at hx
theorem Bytes.sealed {xs : List Int} (h : Bytes xs) : Bytes (sealB xs) := fun x hx => by
  rw [sealB, List.mem_append] at hx
  rcases hx with h1 | h1
  · exact h x h1
  · exact le4_bytes _ x h1
theorem Bytes.head {xs : List Int} (h : Bytes xs) : Bytes (headB xs) := fun x hx => h x (List.mem_of_mem_take hx)
theorem eqB_self (xs : List Int) : eqB xs xs = true := decide_eq_true rfl
end Go.Proofs.Ytlonmjmjmnondaa
