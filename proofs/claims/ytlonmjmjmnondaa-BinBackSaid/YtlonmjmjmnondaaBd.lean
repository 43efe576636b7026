/- The library's AppendSeq over a number's bytes. -/
import Derived.Test.YtlonmjmjmnondaaBc
import Derived.Maps.AppendAt
namespace Go.Proofs.Ytlonmjmjmnondaa
set_option linter.unusedVariables false
set_option linter.unusedSimpArgs false
open Go.RowKit Go.Shelf
attribute [local go_sem] Oper.semAt_some
theorem touch_grown {b : Nat} {Fq : Nat → Prop} {w A B : World} {row : Option Nat} (h : Touch Fq w A) (hw : w.heap.size ≤ b) (hg : A.grownBy B row) (hr : ∀ r, row = some r → b ≤ r ∧ ∃ o : Obj, A.heap[r]? = some o ∧ o.isCells = false) : Touch Fq w B :=
  ⟨hg.os.trans h.os, hg.tape.trans h.tape, hg.output.trans h.output, Nat.le_trans h.size hg.size, fun k hk hf => (hg.block k (Nat.lt_of_lt_of_le hk h.size) (fun e => by have := (hr k e.symm).1; omega)).trans (h.block k hk hf)⟩
theorem bs_grown {A B : World} {row : Option Nat} {v : Value} {xs : List Int} (h : BS A v xs) (hg : A.grownBy B row) (hr : ∀ r, row = some r → ∃ o : Obj, A.heap[r]? = some o ∧ o.isCells = false) : BS B v xs := h.keep fun k hk => by
  refine hg.block k (h.lt k hk) (fun e => ?_)
  obtain ⟨o, h1, h2⟩ := hr k e.symm
  obtain ⟨cur, h3⟩ := SL.typed h k hk
  rw [h3] at h1
  cases h1
  cases h2
theorem put_other {W : World} {b D : Nat} {o' : Obj} (h : b ≠ D) : (W.putObj D o').heap[b]? = W.heap[b]? := World.putObj_heap_other h
/-- what holds between two rounds: the box B0 holds the slice as far as it has come -/
def AppI (w : World) (v : Value) (xs : List Int) (Bn : Nat) (pre : List Int) (W : World) : Prop :=
  (∃ A c zs, zs = xs ++ pre ∧ Boxed W w.heap.size 25 (.slice A zs.length c) ∧ BS W (.slice A zs.length c) zs ∧ (∀ k, (Value.slice A zs.length c).ownBlock = some k → v.ownBlock = some k ∨ w.heap.size < k)) ∧
  Touch (fun k => v.ownBlock = some k ∨ k = Bn) w W
theorem AppI.own (w : World) (v : Value) (xs : List Int) (Bn C : Nat) (hC : w.heap.size ≤ C) : OwnFrom C (AppI w v xs Bn) := fun pre X Y row hs hg hr => by
  obtain ⟨⟨A, c, zs, h0, h1, h2, h3⟩, h4⟩ := hs
  exact ⟨⟨A, c, zs, h0, boxed_own w.heap.size 25 (fun (_ : Unit) => Value.slice A zs.length c) () X Y row h1 hg (fun r e => (hr r e).2), bs_grown h2 hg (fun r e => (hr r e).2), h3⟩, touch_grown h4 hC hg hr⟩
theorem AppI.wr {w : World} {v : Value} {xs : List Int} {Bn : Nat} (hB : Bn < w.heap.size) (hne : ∀ k, v.ownBlock = some k → k ≠ Bn) (pre : List Int) (W : World) (u : Value) (hs : AppI w v xs Bn pre W) : AppI w v xs Bn pre (W.setCell ⟨Bn, 0, none⟩ u) := by
  obtain ⟨⟨A, c, zs, h0, h1, h2, h3⟩, h4⟩ := hs
  exact ⟨⟨A, c, zs, h0, h1.other (by omega) u, SL.far h2 (fun k hk e => by
    have e2 : k = Bn := e
    rcases h3 k hk with h | h
    · exact hne k h e2
    · omega) u, h3⟩, h4.setCell (p := ⟨Bn, 0, none⟩) (.inl (.inr rfl)) u⟩
theorem app_step {w W w2 : World} {v : Value} {xs pre zs : List Int} {x : Int} {Bn c1 c2 : Nat} {A1 A2 : Option Addr} (H0 : zs = xs ++ pre) (HV : Boxed W w.heap.size 25 (.slice A1 zs.length c1)) (HS : BS W (.slice A1 zs.length c1) zs)
    (HF : ∀ k, (Value.slice A1 zs.length c1).ownBlock = some k → v.ownBlock = some k ∨ w.heap.size < k) (HT : Touch (fun k => v.ownBlock = some k ∨ k = Bn) w W)
    (HV2 : Boxed w2 w.heap.size 25 (.slice A1 zs.length c1)) (HS2 : SL w2 5 1 (.slice A2 (zs.length + 1) c2) (zs.length + 1) (by8 zs ++ [.int .u8 x])) (HG2 : (W.alloc (.cells #[.int .u8 x] 5)).grownBy w2 (Value.slice A1 zs.length c1).ownBlock)
    (HO2 : ∀ k, (Value.slice A2 (zs.length + 1) c2).ownBlock = some k → (Value.slice A1 zs.length c1).ownBlock = some k ∨ (W.alloc (.cells #[.int .u8 x] 5)).heap.size ≤ k) :
    KeepsOthers W (w2.setCell ⟨w.heap.size, 0, none⟩ (.slice A2 (zs.length + 1) c2)) ∧ Touch (fun k => v.ownBlock = some k ∨ w.heap.size ≤ k) W (w2.setCell ⟨w.heap.size, 0, none⟩ (.slice A2 (zs.length + 1) c2)) ∧
      AppI w v xs Bn (pre ++ [x]) (w2.setCell ⟨w.heap.size, 0, none⟩ (.slice A2 (zs.length + 1) c2)) := by
  have hW := HT.size
  have hf2 : ∀ k, (Value.slice A2 (zs.length + 1) c2).ownBlock = some k → v.ownBlock = some k ∨ w.heap.size < k := fun k hk => by
    rcases HO2 k hk with h | h
    · exact HF k h
    · rw [World.size_alloc] at h
      exact .inr (by omega)
  have ht : Touch (fun k => v.ownBlock = some k ∨ w.heap.size ≤ k) W (w2.setCell ⟨w.heap.size, 0, none⟩ (.slice A2 (zs.length + 1) c2)) :=
    (((Touch.refl _ W).alloc _).grown HG2 (fun k hk => .inl (by
      rcases HF k hk with h | h
      · exact .inl h
      · exact .inr (by omega)))).setCell (p := ⟨w.heap.size, 0, none⟩) (.inl (.inr (Nat.le_refl _))) _
  refine ⟨((KeepsOthers.alloc W _).trans (KeepsOthers.of_grownBy HG2 fun j o ej hj => ?_)).trans (KeepsOthers.setCell _ _ _), ht, ⟨A2, c2, zs ++ [x], by rw [H0, List.append_assoc], ?_, ?_, ?_⟩, HT.trans ht (fun i hi => ?_)⟩
  · obtain ⟨cur, hc⟩ := SL.typed (SL.alloc HS (.cells #[.int .u8 x] 5)) j ej
    rw [hc] at hj
    cases hj
    rfl
  · rw [List.length_append]
    exact HV2.set _
  · unfold BS
    rw [List.length_append, by8_append]
    refine SL.far HS2 (fun k hk e => ?_) _
    obtain ⟨cur, hc⟩ := SL.typed HS2 k hk
    have e2 : k = w.heap.size := e
    rw [e2, show w2.heap[w.heap.size]? = _ from HV2] at hc
    cases hc
  · rw [List.length_append]
    exact hf2
  · rcases hi with h | h
    · exact .inl (.inl h)
    · exact .inr h
def AppP (w : World) (v : Value) (xs : List Int) (Bn : Nat) (ys : List Int) (e : Ending) (w' : World) : Prop :=
  ∃ A c, e = .returned (.slice A (xs ++ ys).length c) ∧ BS w' (.slice A (xs ++ ys).length c) (xs ++ ys) ∧ (∀ k, (Value.slice A (xs ++ ys).length c).ownBlock = some k → v.ownBlock = some k ∨ w.heap.size ≤ k) ∧
    Touch (fun k => v.ownBlock = some k ∨ k = Bn) w w'
set_option maxRecDepth 100000 in
set_option maxHeartbeats 4000000 in
theorem appseq_in (F : Fence) (n : Nat) (h32 : F.fn 32) (h39 : F.fn 39) (hro : F.round = none) (hn : 6 ≤ n) {w : World} {v : Value} {xs : List Int} (h : BS w v xs) (hl : xs.length ≤ 100000000) (Bn m0 : Nat) (hm0 : m0 ≤ 1073741824)
    (hB : w.heap[Bn]? = some (.cells #[.int .i64 (m0 : Int)] 3 (0, 0))) :
    CallsIn F n Try.prog 32 #[v, .func (.func 39) #[] #[.pointer (some ⟨Bn, 0, none⟩)]] w (AppP w v xs Bn (encN m0)) := by
  have h1 : 1 ≤ n := by omega
  obtain ⟨i0, hi, hz0, hz1, hz2⟩ := info_parts info5
  obtain ⟨A, c, rfl, hc⟩ := h.form
  have hBl := blk_lt hB
  have hne : ∀ k, (Value.slice A xs.length c).ownBlock = some k → k ≠ Bn := fun k hk e => by
    obtain ⟨cur, h3⟩ := SL.typed h k hk
    rw [e, hB] at h3
    cases h3
  refine callsIn_of_wp_marks Try.func32 rfl h32 ?_ hro
  simp only [Try.ntmps32, List.size_toArray, List.length_cons, List.length_nil, Nat.reduceAdd, Nat.reduceSub, Array.replicate_succ, Array.replicate_zero, List.push_toArray, List.append_toArray, List.nil_append, List.cons_append]
  gi_wp2
  have hB0 := (Below.heap_alloc w (.cells #[.slice A xs.length c] 25) Bn hBl).trans hB
  have hsz : (w.alloc (.cells #[.slice A xs.length c] 25)).heap.size = w.heap.size + 1 := World.size_alloc _ _
  refine wpIn_rangeW hro h1 (gf := 39) (lb := #[.pointer (some ⟨Bn, 0, none⟩)]) rfl h39 (enters_of Try.func39 (by kernel_rfl) rfl)
    (digits_seq F (n - 1) h39 hro (by omega) Bn (fun k => (Value.slice A xs.length c).ownBlock = some k ∨ w.heap.size ≤ k) (fun hk => by rcases hk with hk | hk; exact hne Bn hk rfl; omega) m0 hm0 (w.alloc (.cells #[.slice A xs.length c] 25)) hB0)
    (by rw [hsz]; omega) (fun h k => h.trans k (fun i hi => .inl hi)) (fun W l o o' hl _ _ _ => ⟨rfl, rfl, rfl, by simp, fun k _ hk => World.putObj_heap_other (fun e => hk (.inr (by rw [hsz] at hl; omega)))⟩) (Below.refl _ _) (fun _ => rfl)
    (AppI w (.slice A xs.length c) xs Bn) (AppI.own _ _ _ _ _ (by rw [hsz]; omega)) (AppI.wr hBl hne)
    ⟨⟨A, c, xs, (List.append_nil xs).symm, Boxed.new w 25 _, h.alloc _, fun k hk => .inl hk⟩, (Touch.refl _ w).alloc _⟩
    (fun x => { tmps := #[.slice A xs.length c, .func (.func 39) #[] #[.pointer (some ⟨Bn, 0, none⟩)], .pointer (some ⟨w.heap.size, 0, none⟩), undef, .slice none 0 0, .int .u8 x, .func (.func 39) #[] #[.pointer (some ⟨Bn, 0, none⟩)], .int .u8 x, undef, undef, undef, undef, undef], defers := [] })
    ?assign ?body ?done
  case assign =>
    intro l x W K hK
    gi_wp2
    exact hK
  case body =>
    rintro l pre x W ⟨⟨A1, c1, zs, h0, hv, hs, hf⟩, hT⟩ hlen
    have hpl : zs.length ≤ 100000005 := by rw [h0, List.length_append]; omega
    have H0 := hid h0
    clear h0
    have hcell := hv.cell
    have hfro := hv.frozen
    have h63 : zs.length + 1 ≤ maxLen := by simp only [maxLen]; omega
    have hby : (zs.length + 1) * 1 ≤ 140737488355328 := by omega
    have hone : ∀ u ∈ [Value.int .u8 x], u.oneCell' = true := by simp [Value.oneCell']
    have HL := hid (SL.lit W 5 1 1 #[.int .u8 x] rfl (by simp [maxLen]))
    have HSL : Hid (SL (W.alloc (.cells #[.int .u8 x] 5)) 5 1 (.slice A1 zs.length c1) zs.length (by8 zs)) := hid (hs.alloc _)
    have hne1 : ∀ k, (Value.slice A1 zs.length c1).ownBlock = some k → k ≠ w.heap.size := fun k hk e => by
      obtain ⟨cur, h3⟩ := SL.typed hs k hk
      rw [e, show W.heap[w.heap.size]? = _ from hv] at h3
      cases h3
    have HNE := hid hne1
    have HV := hid hv
    have HS := hid hs
    have HF := hid hf
    have HT := hid hT
    clear hv hs hf hT hne1
    gi_wp2_with (gi_at_builtin; refine wpListIn_append_SLs rfl _ _ _ rfl 5 i0 _ 1 1 Try.underlying25 hi hz0 hz1 hz2 rfl Nat.one_pos (.slice A1 zs.length c1) zs.length (by8 zs) rfl HSL.out _ 1 [.int .u8 x] rfl HL.out hone (zs.length + 1) _ rfl rfl h63 hby ?_; intro A2 c2 w2 hs2 hg2 ho2; have hv2 : Boxed w2 w.heap.size 25 (.slice A1 zs.length c1) := (HV.out.alloc (.cells #[.int .u8 x] 5)).kept hg2 (fun e => HNE.out _ e.symm rfl); have hcell2 := hv2.cell; have hfro2 := hv2.frozen; have HS2 := hid hs2; have HG2 := hid hg2; have HO2 := hid ho2; have HV2 := hid hv2; clear hs2 hg2 ho2 hv2)
    exact app_step H0.out HV.out HS.out HF.out HT.out HV2.out HS2.out HG2.out HO2.out
  case done =>
    rintro D ys W hD rfl ⟨⟨A1, c1, zs, h0, hv, hs, hf⟩, hT⟩ hK
    have hcell := hv.cell
    have hfro := hv.frozen
    have H0 := hid h0
    clear h0
    have HF := hid hf
    gi_wp2
    refine ⟨by simp, .inl ⟨_, _, rfl, run_takeDeferred hK, ?_⟩⟩
    refine ⟨_, results_tmp (fn := Try.f32) (t := 4) rfl _ _ _, ?_⟩
    have e0 := H0.out
    subst e0
    refine ⟨A1, c1, rfl, hs.keep fun k hk => put_other (fun e => ?_), fun k hk => (HF.out k hk).imp id (fun h => Nat.le_of_lt h), hT.os, hT.tape, hT.output, by have := hT.size; simpa using this, fun k hk hn => ?_⟩
    · obtain ⟨cur, hc⟩ := SL.typed hs k hk
      rw [e, hK] at hc
      cases hc
    · rw [put_other (by rw [hsz] at hD; omega)]
      exact hT.block k hk hn
end Go.Proofs.Ytlonmjmjmnondaa
