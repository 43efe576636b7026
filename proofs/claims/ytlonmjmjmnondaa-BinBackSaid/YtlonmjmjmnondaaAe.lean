/- A Writer and a slice of one's own side by side. -/
import Derived.Test.YtlonmjmjmnondaaAd
namespace Go.Proofs.Ytlonmjmjmnondaa
set_option linter.unusedVariables false
set_option linter.unusedSimpArgs false
open Go.RowKit
/-- a Writer at p holds zs2; the slice v, elsewhere, holds zs; all of it from block B on -/
def Mid (B : Nat) (w : World) (p : Nat) (v : Value) (zs zs2 : List Int) : Prop :=
  ∃ F : Nat → Prop, WL 27 F w p zs2 ∧ BS w v zs ∧ (∀ k, F k → B ≤ k ∧ k < w.heap.size) ∧ (∀ k, v.ownBlock = some k → B ≤ k ∧ ¬ F k)
theorem Mid.below {B : Nat} {w w' : World} {p : Nat} {v : Value} {zs zs2 : List Int} (h : Mid B w p v zs zs2) (hb : Below w.heap.size w w') : Mid B w' p v zs zs2 := by
  obtain ⟨F, hw, hs, hf, hv⟩ := h
  exact ⟨F, hw.below hb, hs.below hb, fun k hk => ⟨(hf k hk).1, Nat.lt_of_lt_of_le (hf k hk).2 hb.size⟩, hv⟩
theorem Mid.call {B : Nat} {w : World} {p : Nat} {v : Value} {zs zs2 : List Int} (h : Mid B w p v zs zs2) (hB : B ≤ w.heap.size) :
    ∃ F' : Nat → Prop, WL 27 F' w p zs2 ∧ (∀ k, w.heap.size ≤ k → F' k) ∧ (∀ k, F' k → B ≤ k) ∧ ∀ w' zs3, WL 27 F' w' p zs3 → Touch F' w w' → Mid B w' p v zs zs3 := by
  obtain ⟨F, hw, hs, hf, hv⟩ := h
  refine ⟨fun k => F k ∨ w.heap.size ≤ k, hw.mono fun k hk => .inl hk, fun k hk => .inr hk, fun k hk => hk.elim (fun h => (hf k h).1) (Nat.le_trans hB), fun w' zs3 hw' ht => ?_⟩
  refine ⟨fun k => (F k ∨ w.heap.size ≤ k) ∧ k < w'.heap.size, hw'.bound, hs.touch ht fun k hk hF => ?_, fun k hk => ⟨hk.1.elim (fun h => (hf k h).1) (Nat.le_trans hB), hk.2⟩, fun k hk => ⟨(hv k hk).1, fun hF => ?_⟩⟩
  · rcases hF with h | h
    · exact (hv k hk).2 h
    · exact absurd (hs.lt k hk) (Nat.not_lt.2 h)
  · rcases hF.1 with h | h
    · exact (hv k hk).2 h
    · exact absurd (hs.lt k hk) (Nat.not_lt.2 h)
/-- the same, where something was made just ahead: that stays too -/
theorem Mid.call' {B : Nat} {w : World} {p : Nat} {v : Value} {zs zs2 : List Int} (h : Mid B w p v zs zs2) (hB : B ≤ w.heap.size) (o : Obj) :
    ∃ F' : Nat → Prop, WL 27 F' (w.alloc o) p zs2 ∧ (∀ k, (w.alloc o).heap.size ≤ k → F' k) ∧ (∀ k, F' k → B ≤ k) ∧ ∀ w' zs3, WL 27 F' w' p zs3 → Touch F' (w.alloc o) w' → Mid B w' p v zs zs3 ∧ w'.heap[w.heap.size]? = some o := by
  obtain ⟨F, hw, hs, hf, hv⟩ := h
  have hba := balloc (Below.refl _ w) o
  have hsz := World.size_alloc w o
  refine ⟨fun k => F k ∨ (w.alloc o).heap.size ≤ k, (hw.below hba).mono fun k hk => .inl hk, fun k hk => .inr hk, fun k hk => hk.elim (fun h => (hf k h).1) (fun h => by omega), fun w' zs3 hw' ht => ?_⟩
  refine ⟨⟨fun k => (F k ∨ (w.alloc o).heap.size ≤ k) ∧ k < w'.heap.size, hw'.bound, (hs.below hba).touch ht fun k hk hF => ?_, fun k hk => ⟨hk.1.elim (fun h => (hf k h).1) (fun h => by omega), hk.2⟩, fun k hk => ⟨(hv k hk).1, fun hF => ?_⟩⟩, ?_⟩
  · rcases hF with h | h
    · exact (hv k hk).2 h
    · have := hs.lt k hk; omega
  · rcases hF.1 with h | h
    · exact (hv k hk).2 h
    · have := hs.lt k hk; omega
  · exact (ht.block w.heap.size (by omega) (fun hF => by
      rcases hF with h | h
      · have := (hf _ h).2; omega
      · omega)).trans (heap_alloc_new w o)
theorem Mid.push {B : Nat} {w w4 : World} {p : Nat} {v : Value} {zs zs2 : List Int} {A : Option Addr} {c : Nat} (h : Mid B w p v zs zs2) (hB : B ≤ w.heap.size) (hs : BS w4 (.slice A zs2.length c) zs2) (hg : w.grownBy w4 v.ownBlock)
    (ho : ∀ k, (Value.slice A zs2.length c).ownBlock = some k → v.ownBlock = some k ∨ w.heap.size ≤ k) : Mid B w4 p (.slice A zs2.length c) zs2 zs2 := by
  obtain ⟨F, hw, _, hf, hv⟩ := h
  refine ⟨F, hw.keep fun k hF hk => hg.block k hk (fun e => (hv k e.symm).2 hF), hs, fun k hk => ⟨(hf k hk).1, Nat.lt_of_lt_of_le (hf k hk).2 hg.size⟩, fun k hk => ?_⟩
  rcases ho k hk with h | h
  · exact hv k h
  · exact ⟨Nat.le_trans hB h, fun hF => by have := (hf k hF).2; omega⟩
theorem Mid.bs {B : Nat} {w : World} {p : Nat} {v : Value} {zs zs2 : List Int} (h : Mid B w p v zs zs2) : BS w v zs := by
  obtain ⟨F, hw, hs, hf, hv⟩ := h
  exact hs
theorem Mid.own {B : Nat} {w : World} {p : Nat} {v : Value} {zs zs2 : List Int} (h : Mid B w p v zs zs2) : ∀ k, v.ownBlock = some k → B ≤ k := by
  obtain ⟨F, hw, hs, hf, hv⟩ := h
  exact fun k hk => (hv k hk).1
theorem bytesS_bytes (s : ByteArray) : Bytes (bytesS s) := fun x hx => by
  obtain ⟨b, _, rfl⟩ := List.mem_map.1 hx
  have := b.toNat_lt
  omega
theorem enc_bytes {n : Nat} (h : n ≤ 1073741824) : Bytes (encN n) := encN_bytes 5 n (by omega)
theorem Bytes.append {xs ys : List Int} (h1 : Bytes xs) (h2 : Bytes ys) : Bytes (xs ++ ys) := fun x hx => (List.mem_append.1 hx).elim (h1 x) (h2 x)
theorem sumA_mono (acts : Nat → Act1) {i j : Nat} (h : i ≤ j) : sumA acts i ≤ sumA acts j := by
  induction h with
  | refl => exact Nat.le_refl _
  | step _ ih => exact Nat.le_trans ih (Nat.le_add_right _ _)
end Go.Proofs.Ytlonmjmjmnondaa
