/- What is proved: the law TopPowers of the given program answers true whatever its arguments are, and leaves them as they were, where the arguments and the two tables read together hold at most 1048576 values and letters; and its card. Conditions: the row's own (the two listed tables of unicode/utf8 hold what the program's text lays; the bound). -/
import Derived.Test.YteigplfldhdakaaGreatDoorCards
import Derived.Test.YteigplfldhdakaaGreatDoorTie
import Derived.WalkKit
import Derived.ProofKit
import Derived.OpenShut
import Derived.Below
import Derived.Carry
import Derived.Lib.SmallJoins
import Derived.Lib.LaidIn
import Derived.Lib.LaidU8T
import Derived.Deep.DeepHandedRow
import Derived.Deep.DeepWitnessRowRef
import Derived.SizedLaws
import Derived.Test.YteigplfldhdakaaGreatDoorM25
import Derived.Test.YteigplfldhdakaaGreatDoorM26
namespace Go.Proofs.YteigplfldhdakaaGreatDoor
open Go.ChangeShapes Go.WideShapes Go.ChangeAt Go.RowKit Go.Joins
set_option linter.unusedVariables false
/-- THE BOUND, part by part. -/
theorem bulk_le {H : Type} {d : DataW H} {l : List (DataW H)} (h : d ∈ l) : Rows.uptoBulk d ≤ Rows.uptoBulkAll l := by
  induction l with
  | nil => cases h
  | cons x r ih =>
    simp only [Rows.uptoBulkAll]
    cases List.mem_cons.1 h with
    | inl e => subst e; omega
    | inr e => have := ih e; omega
theorem bulk_one {H : Type} (d : DataW H) : 1 ≤ Rows.uptoBulk d := by
  cases d with
  | lit l => cases l <;> simp [Rows.uptoBulk]
  | nil => simp [Rows.uptoBulk]
  | ptr d => simp [Rows.uptoBulk]
  | slice elems spare => simp [Rows.uptoBulk]
  | agg parts => simp [Rows.uptoBulk]
  | iface t d => simp [Rows.uptoBulk]
  | map entries => simp [Rows.uptoBulk]
  | held h => simp [Rows.uptoBulk]
theorem bulk_len {H : Type} (l : List (DataW H)) : l.length ≤ Rows.uptoBulkAll l := by
  induction l with
  | nil => simp [Rows.uptoBulkAll]
  | cons x r ih => have := bulk_one x; simp only [Rows.uptoBulkAll, List.length_cons]; omega
theorem bulk_str {H : Type} (bytes : List UInt8) : Rows.uptoBulk (DataW.lit (H := H) (.string bytes)) = bytes.length + 1 := by
  simp [Rows.uptoBulk]
theorem bulk_slice {H : Type} {elems spare : List (DataW H)} {n : Nat} (h : Rows.uptoBulk (DataW.slice elems spare) ≤ n) : Rows.uptoBulkAll elems ≤ n := by
  simp only [Rows.uptoBulk] at h
  omega
theorem bulk_agg {H : Type} {parts : List (DataW H)} {n : Nat} (h : Rows.uptoBulk (DataW.agg parts) ≤ n) : Rows.uptoBulkAll parts ≤ n := by
  simp only [Rows.uptoBulk] at h
  omega
theorem bulk_fst {H : Type} {d : DataW H} {l : List (DataW H)} {n : Nat} (h : Rows.uptoBulkAll (d :: l) ≤ n) : Rows.uptoBulk d ≤ n ∧ Rows.uptoBulkAll l ≤ n := by
  simp only [Rows.uptoBulkAll] at h
  omega
theorem ownT : ownKnob Tryz.prog.godebug = none := by kernel_rfl
theorem laidOutT : laidOutB Tryz.prog = true := by kernel_rfl
theorem cells69 : Tryz.prog.cellsOf 69 = 2 := by kernel_rfl
/-- **pairs, handed in** -/
theorem pairs_open {H : Type} {enc : TypeId × Value → H} {W : World} {sp : Nat → Bool} {held : Bool} {fuel : Nat} {a : Option Addr} {len cap : Nat} {d : DataW H} {ps : List MemPlace}
    (h : DataW.trod enc Tryz.prog W 0 sp held fuel 22 (Value.slice a len cap).cells.toList = some (d, ps)) (hb : Rows.uptoBulk d ≤ 1048576) : ∃ L, PrS W (.slice a len cap) L ∧ smallP L ∧ L.length ≤ 1048576 := by
  rcases open_slice_fields Tryz.underlying22 Tryz.underlying69 (by kernel_rfl) (by kernel_rfl) h with ⟨hcs, _⟩ | ⟨x, l, c, m, D, Pl, hcs, _, hl, hm, hmm, hx, hi⟩
  · simp [Value.cells] at hcs
    obtain ⟨rfl, rfl, rfl⟩ := hcs
    exact ⟨[], ⟨none, 0, rfl, fun k hk => absurd hk (Nat.not_lt_zero k)⟩, fun x hx => by (cases hx), Nat.zero_le _⟩
  · simp [Value.cells] at hcs
    obtain ⟨rfl, rfl, rfl⟩ := hcs
    simp only [Prod.mk.injEq] at hx
    obtain ⟨rfl, _⟩ := hx
    have hlm : len ≤ m := by rw [hmm]; split <;> omega
    have hel := bulk_slice hb
    have hlen : len ≤ 1048576 := by
      have := bulk_len ((List.range len).map D)
      rw [List.length_map, List.length_range] at this
      omega
    have key : ∀ i, ∃ t : ByteArray × ByteArray, i < len → PairAt W (x.add (i * 2)) t ∧ t.1.size ≤ 1048576 ∧ t.2.size ≤ 1048576 := fun i => by
      by_cases hil : i < len
      · obtain ⟨ys, n, hD, _, hyl, hg⟩ := hi i (by omega)
        obtain ⟨u0, y0, hc0, he0, ht0⟩ := hg 0 _ rfl
        obtain ⟨u1, y1, hc1, he1, ht1⟩ := hg 1 _ rfl
        obtain ⟨f, hf, hf2, _⟩ := DataW.trod_string Tryz.underlying9 ht0
        obtain ⟨t, htt, ht2, _⟩ := DataW.trod_string Tryz.underlying9 ht1
        obtain rfl := (List.cons.inj hf).1
        obtain rfl := (List.cons.inj htt).1
        have hmem : D i ∈ (List.range len).map D := List.mem_map.2 ⟨i, List.mem_range.2 hil, rfl⟩
        have hDi : Rows.uptoBulk (D i) ≤ 1048576 := Nat.le_trans (bulk_le hmem) hel
        rw [hD] at hDi
        have hps := bulk_agg hDi
        have hm0 : (DataW.lit (H := H) (.string f.data.toList)) ∈ ys.map (·.1) := List.mem_map.2 ⟨y0, List.mem_of_getElem? he0, by rw [hf2]⟩
        have hm1 : (DataW.lit (H := H) (.string t.data.toList)) ∈ ys.map (·.1) := List.mem_map.2 ⟨y1, List.mem_of_getElem? he1, by rw [ht2]⟩
        have b0 := Nat.le_trans (bulk_le hm0) hps
        have b1 := Nat.le_trans (bulk_le hm1) hps
        rw [bulk_str] at b0 b1
        have s0 : f.data.toList.length = f.size := Array.length_toList
        have s1 : t.data.toList.length = t.size := Array.length_toList
        exact ⟨(f, t), fun _ => ⟨⟨hc0, by rw [← add_fld _ _ 1 (by omega)]; exact hc1⟩, by show f.size ≤ _; omega, by show t.size ≤ _; omega⟩⟩
      · exact ⟨(⟨#[]⟩, ⟨#[]⟩), fun h => absurd h hil⟩
    obtain ⟨g, hg⟩ := Classical.axiomOfChoice key
    have hL : ((List.range len).map g).length = len := by simp
    refine ⟨(List.range len).map g, ⟨some x, cap, by rw [hL], fun k hk => ?_⟩, fun y hy => ?_, by rw [hL]; exact hlen⟩
    · have hk' : k < len := by rwa [hL] at hk
      have hp := (hg k hk').1
      refine ⟨x, rfl, ?_, ?_⟩
      · have := World.block_lt_of_cell? W _ hp.c0
        rw [add_block] at this
        exact this
      · rw [List.getElem_map, List.getElem_range]
        exact hp
    · obtain ⟨k, hk, rfl⟩ := List.mem_map.1 hy
      exact (hg k (List.mem_range.1 hk)).2
theorem firstSame : (Rows.laid_unicode_utf8_first : DataW Unit) = Lib.firstData := by kernel_rfl
theorem acceptSame : (Rows.laid_unicode_utf8_acceptRanges : DataW Unit) = Lib.acceptData := by kernel_rfl
/-- WHAT THE ROW's LIST GIVES: the two tables. -/
theorem tab_of {W : World} (h : laidMetH Tryz.prog Rows.topPowersUptoRow.laid W) : Tab W := by
  rw [MakeChecks.laidMetH_plain _ _ _ (by kernel_rfl)] at h
  have e : Rows.topPowersUptoRow.laid = [("unicode/utf8.acceptRanges", Lib.acceptData), ("unicode/utf8.first", Lib.firstData)] := by
    show [("unicode/utf8.acceptRanges", Rows.laid_unicode_utf8_acceptRanges), ("unicode/utf8.first", Rows.laid_unicode_utf8_first)] = _
    rw [firstSame, acceptSame]
  rw [e] at h
  exact utf8Tabs_of_readsT (U8Types.of196 Tryz.lays196) ⟨by kernel_rfl, by kernel_rfl, by kernel_rfl, by kernel_rfl, by kernel_rfl, by kernel_rfl, by kernel_rfl⟩ (Lib.laidMet.reads h (.tail _ (.head _))) (Lib.laidMet.reads h (.head _))
/-- A WORLD FOR THE WITNESS: the settled one, the two tables holding what their initialisers lay. -/
noncomputable def laidWorld (os : Os) : World :=
  let w0 := World.holding Tryz.prog os ⟨#[], #[], []⟩
  let put (h : Array Obj) (g : Nat) (cs : Array Value) : Array Obj := h.modify g fun
    | .cells _ t frozen => .cells cs t frozen
    | o => o
  let h1 := put w0.heap 0 (Lib.firstTab.map fun z => Value.int .u8 z).toArray
  let h2 := put h1 1 ((List.range 16).flatMap fun i => [Value.int .u8 (Lib.accLo i), Value.int .u8 (Lib.accHi i)]).toArray
  { w0 with heap := h2 }
theorem laid_met (os : Os) (args : Array Value) : laidMet Tryz.prog Rows.topPowersUptoRow.laid ((laidWorld os).forCall (fun _ _ => 0) ⟨#[], args, []⟩).memory := by
  have e : Rows.topPowersUptoRow.laid = [("unicode/utf8.acceptRanges", Lib.acceptData), ("unicode/utf8.first", Lib.firstData)] := by
    show [("unicode/utf8.acceptRanges", Rows.laid_unicode_utf8_acceptRanges), ("unicode/utf8.first", Rows.laid_unicode_utf8_first)] = _
    rw [firstSame, acceptSame]
  rw [e]
  exact (LaidIn.of_run (l := [("unicode/utf8.acceptRanges", Lib.acceptData), ("unicode/utf8.first", Lib.firstData)]) [0, 1] 8 (by kernel_rfl) (by kernel_rfl) (by kernel_rfl) (by kernel_rfl)).met
namespace topPowers
theorem witness_row (os : Os) {H : Type} (enc : TypeId × Value → H) :
    (Rows.OpenSpec.upto Rows.topPowersSpec).preRow enc Tryz.prog Tryz.f3 Rows.topPowersUptoRow.domain false Rows.topPowersUptoRow.laid ((laidWorld os).forCall (fun _ _ => 0) ⟨#[], #[.slice none 0 0], []⟩).memory #[.slice none 0 0] := by
  have hw : (DataW.whole enc Tryz.prog ((laidWorld os).forCall (fun _ _ => 0) ⟨#[], #[.slice none 0 0], []⟩).memory Tryz.f3.params.toList (Rows.OpenSpec.upto Rows.topPowersSpec).vars false #[Value.slice none 0 0].toList 8).map (fun x => (x.1, x.2.1)) =
      some ([.nil], []) := by kernel_rfl
  obtain ⟨⟨x1, x2, x3⟩, hx, hx1⟩ := Option.map_eq_some_iff.1 hw
  simp only [Prod.mk.injEq] at hx1
  obtain ⟨rfl, rfl⟩ := hx1
  exact OpenSpec.preRow_of_cond 8 hx (by kernel_rfl) (fun k hk => by cases hk; kernel_rfl) (by kernel_rfl) (laid_met os _)
set_option maxRecDepth 100000 in
set_option maxHeartbeats 2000000 in
theorem lifted (os : Os) (started : os.Started) (H : Type) (enc : TypeId × Value → H) (F : Stop.Interp) :
    ReturnsInHanded {} Tryz.checked os 3 .any ((Rows.OpenSpec.upto Rows.topPowersSpec).preRow enc Tryz.prog Tryz.f3 Rows.topPowersUptoRow.domain false Rows.topPowersUptoRow.laid) (((Rows.OpenSpec.upto Rows.topPowersSpec).at F).post enc Tryz.prog Tryz.f3 false true false false) := by
  refine returnsInHanded_of_row (C := Tryz.checked) (s := Rows.OpenSpec.upto Rows.topPowersSpec) ownT started (by kernel_rfl) Tryz.func3
    (witness_row_atRef (enc := enc) (C := Tryz.checked) false (laidWorld os) #[.slice none 0 0] rfl (by kernel_rfl) (by kernel_rfl) (by kernel_rfl) (witness_row os enc)) ?_
  intro W base args ds gs before hval0 hW _ hcond _ hL _ _
  have hval : ∀ (j : Nat) t v, Tryz.f3.params[j]? = some t → args[j]? = some v → Value.okWide Tryz.prog W .any base t v := hval0
  have hW' := hW
  obtain ⟨p, q, hA0, hV, rfl, _, _⟩ := hW
  have hA : DataW.TrodAll enc Tryz.prog W 0 (fun _ => true) true Tryz.f3.params.toList args.toList ds p := hA0
  rw [Tryz.params3] at hA hval
  obtain ⟨v0, d0, rfl, rfl, h0⟩ := trodAll_one hA
  obtain ⟨rfl, rfl⟩ := trodVars_none hV
  obtain ⟨a0, len0, cap0, rfl⟩ := okWide_slice Tryz.underlying22 (hval 0 22 v0 rfl rfl)
  clear hA0 hval0
  have k0 := h0
  have lt0 : ∀ x ∈ p, x.block < W.heap.size := by obtain ⟨m, hm⟩ := k0; exact DataW.trod_lt m _ _ _ hm
  have hk : Rows.uptoSmall H ([d0] ++ []) = true := hcond _ rfl
  have hb := (bulk_fst (of_decide_eq_true hk)).1
  obtain ⟨L, hL1, hL2, hL3⟩ : ∃ L, PrS W (.slice a0 len0 cap0) L ∧ smallP L ∧ L.length ≤ 1048576 := by
    obtain ⟨fuel, hf⟩ := h0
    exact pairs_open hf hb
  refine (powers_law Ev.awake_c hL1 hL2 (tab_of hL) (by omega)).mono fun e W' ⟨he, bel⟩ => ?_
  subst he
  exact ⟨_, rfl, _, _, _, [], _, [], hW', trodAll_mk1 (shut_bool Tryz.underlying4 _), trodAll_mk1 (Below.trod laidOutT (by kernel_rfl) (of_decide_eq_true (by kernel_rfl)) k0 bel lt0), rfl, bel.frame _, fun h => by cases h⟩
theorem said : Rows.TopPowersUptoSaid :=
  OpenClaim.holds_of_cond 3 Tryz.f3 rfl rfl rfl rfl rfl rfl rfl ⟨rfl, rfl, rfl, rfl, rfl⟩ rfl rfl rfl rfl rfl (by kernel_rfl) Tryz.func3 (by kernel_rfl)
    (of_decide_eq_true (by kernel_rfl)) (by unfold Func.isWrapper; first | (rw [if_pos (by decide +kernel)]; kernel_rfl) | (rw [if_neg (by decide +kernel)]; exact ⟨rfl, rfl⟩))
    (fun os started H enc _ F => by rw [OpenClaim.pre_eq_preRow]; exact lifted os started H enc F)
/-- No parameter wants a stand-in; the program's own looks are off: what the card asks. -/
theorem plain (f : FuncId) (fn : Func) (hf : Tryz.pinned.checked.prog.funcNamed "errata/erratatop.TopPowers" = some f) (hfn : Tryz.pinned.checked.prog.funcs[f]? = some fn) :
    false = Tryz.pinned.checked.prog.looks [] ∧ ∀ (j : Nat) t, fn.params[j]? = some t → Tryz.pinned.checked.prog.wantsStandIn t = false := by
  obtain rfl : f = 3 := Option.some.inj ((show Tryz.prog.funcNamed "errata/erratatop.TopPowers" = some 3 by kernel_rfl).symm.trans hf) |>.symm
  obtain rfl : fn = Tryz.f3 := (Option.some.inj (Tryz.func3.symm.trans hfn)).symm
  refine ⟨by kernel_rfl, fun j t ht => ?_⟩
  rw [Tryz.params3] at ht
  obtain rfl : t = 22 := by simpa using Array.mem_of_getElem? ht
  exact (show Tryz.prog.wantsStandIn 22 = false by kernel_rfl)
/-- The statement. -/
theorem proved : Rows.TopPowersUptoCardSaid :=
  Claim7.holds_tied_plain_at .later [] _ _ _ _ said (fun _ h => by cases h) (by kernel_rfl) (fun _ h => by cases h) topPowersUpto_row_tie rfl ⟨rfl, rfl⟩ (by kernel_rfl) rfl plain (by kernel_rfl)
#print axioms proved
end topPowers
end Go.Proofs.YteigplfldhdakaaGreatDoor
