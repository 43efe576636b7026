/- A slice of acts that was handed in: every act's cells, its text, its bytes; how long each may be. -/
import Derived.Test.YtlonmjmjmnondaaBp
import Derived.Test.YtlonmjmjmnondaaSlf
import Derived.SizedLaws
import Derived.ChangeSlices
namespace Go.Proofs.Ytlonmjmjmnondaa
set_option linter.unusedVariables false
set_option linter.unusedSimpArgs false
open Go.RowKit Go.ChangeShapes Go.WideShapes Go.Deep
structure Act1 where
  kind : Int
  n : Int
  s : ByteArray
  v : Value
  xs : List Int
/-- the act's four cells from p on; what its bytes are -/
structure ActAt (W : World) (p : Addr) (t : Act1) : Prop where
  c0 : W.cell? p = some (.int .i64 t.kind)
  c1 : W.cell? ⟨p.block, p.off + 1, none⟩ = some (.int .i64 t.n)
  c2 : W.cell? ⟨p.block, p.off + 2, none⟩ = some (.string t.s)
  c3 : W.cell? ⟨p.block, p.off + 3, none⟩ = some t.v
  rb : RB W t.v t.xs
  bytes : Bytes t.xs
  text : t.s.size ≤ 9223372036854775807
  long : t.xs.length ≤ 140737488351232
/-- the slice (a, len, cap) holds these acts -/
def IsActs (W : World) (a : Option Addr) (len cap : Nat) (acts : Nat → Act1) : Prop :=
  (a = none ∧ len = 0 ∧ cap = 0) ∨ ∃ x, a = some x ∧ len ≤ cap ∧ cap ≤ maxLen ∧ ∀ i, i < len → ActAt W (x.add (i * 4)) (acts i)
theorem weights_all {H : Type} {P : Program} {e : TypeId} {d : DataW H} {n : Nat} (hn : n ∈ d.weights P e) : ∀ {l : List (DataW H)}, d ∈ l → n ∈ DataW.weightsAll P e l
  | [], h => by simp at h
  | x :: r, h => by
    simp only [DataW.weightsAll, List.mem_append]
    rcases List.mem_cons.1 h with rfl | h
    · exact .inl hn
    · exact .inr (weights_all hn h)
theorem acts_open {H : Type} {enc : TypeId × Value → H} {W : World} {base fuel : Nat} {held : Bool} {a : Option Addr} {len cap : Nat} {x : DataW H × List MemPlace}
    (hf : DataW.trod enc Try.prog W base (fun _ => true) held fuel 22 [.slice a len cap] = some x) (hw : ∀ n ∈ x.1.weights Try.prog 22, n ≤ reachBytes) : ∃ acts, IsActs W a len cap acts := by
  rcases open_slice_fields Try.underlying22 Try.underlying29 (by kernel_rfl) (by kernel_rfl) hf with ⟨hcs, _⟩ | ⟨y, l, c, m, D, Pl, hcs, _, hl, hm, hmm, hx, hi⟩
  · simp at hcs
    obtain ⟨rfl, rfl, rfl⟩ := hcs
    exact ⟨fun _ => ⟨0, 0, ⟨#[]⟩, .slice none 0 0, []⟩, .inl ⟨rfl, rfl, rfl⟩⟩
  · simp at hcs
    obtain ⟨rfl, rfl, rfl⟩ := hcs
    have hlm : len ≤ m := by rw [hmm]; split <;> omega
    have key : ∀ i, ∃ t : Act1, i < len → ActAt W (y.add (i * 4)) t := fun i => by
      by_cases hil : i < len
      · obtain ⟨ys, n, hD, _, hyl, hg⟩ := hi i (by omega)
        obtain ⟨u0, y0, hc0, _, ht0⟩ := hg 0 _ rfl
        obtain ⟨u1, y1, hc1, _, ht1⟩ := hg 1 _ rfl
        obtain ⟨u2, y2, hc2, _, ht2⟩ := hg 2 _ rfl
        obtain ⟨u3, y3, hc3, hy3, ht3⟩ := hg 3 _ rfl
        obtain ⟨b, hb, _⟩ := DataW.trod_int Try.underlying3 ht0
        obtain ⟨d, hd, _⟩ := DataW.trod_int Try.underlying3 ht1
        obtain ⟨s, hs, _, hsl⟩ := DataW.trod_string Try.underlying9 ht2
        obtain rfl := (List.cons.inj hb).1
        obtain rfl := (List.cons.inj hd).1
        obtain rfl := (List.cons.inj hs).1
        obtain ⟨xs, hrb, hby, hln⟩ : ∃ xs, RB W u3 xs ∧ Bytes xs ∧ xs.length ≤ 140737488351232 := by
          have hw3 : ∀ n ∈ y3.1.weights Try.prog 25, n ≤ reachBytes := fun n hn => by
            refine hw n ?_
            rw [hx]
            simp only [DataW.weights, Try.underlying22]
            refine List.mem_cons.2 (.inr (List.mem_append.2 (.inl (weights_all (d := D i) ?_ (List.mem_map.2 ⟨i, List.mem_range.2 hil, rfl⟩)))))
            rw [hD]
            simp only [DataW.weights, Try.underlying29]
            exact DataW.weights_mem_each (j := 3) (t := 25) (d := y3.1) rfl (by rw [List.getElem?_map, hy3]; rfl) n hn
          rcases open_ints Try.underlying25 Try.underlying5 (by kernel_rfl) ht3 with ⟨hcs, _⟩ | ⟨z, l', c', zs, hcs, _, hl', hm', hz, hx', hcell, hwz⟩
          · simp at hcs
            subst hcs
            exact ⟨[], RB.nil W, bytes_nil, by simp⟩
          · simp at hcs
            subst hcs
            have hzc : zs.length = c' := by simpa using hz
            obtain ⟨xs, rfl, hb, hr⟩ := IsRow.rb (zs := zs) (.inr ⟨z, rfl, hl', hm', hzc, hcell, hwz⟩ : IsRow .u8 W (some z) l' c' zs)
            refine ⟨xs, hr, hb, ?_⟩
            have hb1 : Try.prog.bytesOf 5 = 1 := by kernel_rfl
            have := hw3 ((zs.take xs.length).length + (zs.drop xs.length).length) (by
              rw [hx']
              simp only [DataW.weights, Try.underlying25, hb1, Nat.mul_one]
              refine List.mem_cons.2 (.inl ?_)
              simp [lits])
            rw [List.length_take, List.length_drop] at this
            have h2 : reachBytes = 140737488351232 := by decide
            omega
        exact ⟨⟨b, d, s, u3, xs⟩, fun _ => ⟨hc0, by rw [← add_fld _ _ 1 (by omega)]; exact hc1, by rw [← add_fld _ _ 2 (by omega)]; exact hc2, by rw [← add_fld _ _ 3 (by omega)]; exact hc3, hrb, hby, by simp only [maxLen] at hsl; omega, hln⟩⟩
      · exact ⟨⟨0, 0, ⟨#[]⟩, .slice none 0 0, []⟩, fun h => absurd h hil⟩
    obtain ⟨f, hf2⟩ := Classical.axiomOfChoice key
    exact ⟨f, .inr ⟨y, rfl, hl, hm, fun i hil => hf2 i hil⟩⟩
end Go.Proofs.Ytlonmjmjmnondaa
