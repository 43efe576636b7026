/- train: Words, of one document. -/
import Derived.Test.YteigplfldhdakaaGreatDoorD21
import Derived.Test.YteigplfldhdakaaGreatDoorD09
import Derived.Laws.OwnMore
import Derived.Test.YteigplfldhdakaaGreatDoorD15
import Derived.Test.YteigplfldhdakaaGreatDoorD14
import Derived.Test.YteigplfldhdakaaGreatDoorD08
set_option linter.unusedVariables false
set_option linter.unusedSimpArgs false
namespace Go.Proofs.YteigplfldhdakaaGreatDoor
open Go.RowKit Go.Shelf MapKept
attribute [local go_sem] Oper.semAt_some
set_option maxRecDepth 100000 in
set_option maxHeartbeats 2000000 in
theorem tokensW_c (A : Option Addr) (n c : Nat) (w : World) : Calls Tryz.prog 62 #[.slice A n c] w fun e w' => e = .returned (.func (.func 101) #[] #[.pointer (some ⟨w.heap.size, 0, none⟩)]) ∧ w' = w.alloc (.cells #[.slice A n c] 40) := by
  go_enter Tryz.func62, Tryz.ntmps62
  go_wp2
  go_ret
  exact ⟨rfl, rfl⟩
theorem words_seq (n : Nat) (hn : 1 ≤ n) (Bn : Nat) (s : ByteArray) (hs : s.size ≤ 1048576) (hv : Lib.validD (bys s) = true) (Al : Option Addr) (cl : Nat) (w : World) (hT : Tab w)
    (hBn : w.heap[Bn]? = some (.cells #[.slice Al 1 cl] 40 (0, 0))) (hS : TtS w (.slice Al 1 cl) [s]) :
    SeqC Fence.wide n Tryz.prog 101 #[.pointer (some ⟨Bn, 0, none⟩)] (wAtArgs (wdsF s)) (wdsF s).length (fun _ _ => False) w := fun l J Jx W hW hJ hJx hY h0 =>
  words1_in n hn l Bn s hs hv Al cl J Jx hJ w W hT hW hY hBn hS h0
theorem wordsE_seq (n : Nat) (hn : 1 ≤ n) (Bn : Nat) (s : ByteArray) (hs : s.size ≤ 1048576) (hv : Lib.validD (bys s) = false) (Al : Option Addr) (cl : Nat) (w : World) (hT : Tab w)
    (hBn : w.heap[Bn]? = some (.cells #[.slice Al 1 cl] 40 (0, 0))) (hS : TtS w (.slice Al 1 cl) [s]) :
    SeqC Fence.wide n Tryz.prog 101 #[.pointer (some ⟨Bn, 0, none⟩)] (fun _ => #[.string ⟨#[]⟩, .int .i64 3]) 1 (fun _ _ => False) w := fun l J Jx W hW hJ hJx hY h0 =>
  wordsE_in n hn l Bn s hs hv Al cl J Jx hJ w W hT hW hY hBn hS h0
/-- words that are lawful, and know all tokens of s -/
structure WoOk (s : ByteArray) (M : List Wd) : Prop where
  law : ∀ x ∈ M, lawW x
  ris : risW M
  few : M.length ≤ 65536
  all : ∀ t ∈ wdsF s, t ∈ M.map (·.1)
def WordsP (s : ByteArray) (w : World) (e : Ending) (w' : World) : Prop :=
  Below w.heap.size w w' ∧ ((∃ q, q ≠ 0 ∧ e = .returned (.tuple #[.slice none 0 0, .int .i64 q])) ∨
    (Lib.validD (bys s) = true ∧ ∃ A c M, e = .returned (.tuple #[.slice A M.length c, .int .i64 0]) ∧ WoOk s M ∧ WdS w' (.slice A M.length c) M))
/-- what the first loop of Words has made -/
structure MkW (w : World) (b : Nat) (R : List ByteArray) (k : Nat) (W : World) (T : List Wd) : Prop where
  map : MapW W b T
  dist : distW T
  law : ∀ y ∈ T, lawW y
  len : T.length ≤ k
  all : ∀ y, y ∈ R.take k → y ∈ T.map (·.1)
def WoI (w : World) (R : List ByteArray) (k : Nat) (W : World) : Prop :=
  W.heap[w.heap.size]? = some (.cells #[.slice none 0 0] 44 (0, 0)) ∧ W.heap[w.heap.size + 1]? = some (.cells #[.int .i64 0] 25 (0, 0)) ∧ W.heap[w.heap.size + 3]? = some (.cells #[.map (some (w.heap.size + 2))] 148 (0, 0)) ∧
    (∃ T, MkW w (w.heap.size + 2) R k W T) ∧ Below w.heap.size w W
theorem WoI.cs {w A B : World} {R : List ByteArray} {k : Nat} {lo : Nat} (h : WoI w R k A) (hcs : CS (fun _ => False) lo A B) (hlo : w.heap.size + 4 ≤ lo) : WoI w R k B := by
  obtain ⟨h0, h1, h2, ⟨T, hT⟩, h4⟩ := h
  exact ⟨hcs.cells h0 (fun h => h), hcs.cells h1 (fun h => h), hcs.cells h2 (fun h => h), ⟨T, hcs.block _ _ hT.map (fun h => h) (.inr (by omega)), hT.dist, hT.law, hT.len, hT.all⟩, hcs.below h4 (by omega) (fun b hb h => h)⟩
theorem MapW.v {w : World} {b : Nat} {T : List Wd} (h : MapW w b T) : MapV .string w b (T.map kw) := ⟨by rw [List.length_map]; exact h, fun x hx => by
  obtain ⟨y, _, rfl⟩ := List.mem_map.1 hx
  exact trivial⟩
/-- one word more -/
theorem MkW.put {w W : World} {b : Nat} {R : List ByteArray} {k : Nat} {T : List Wd} (h : MkW w b R k W T) (hk : k < R.length) {v : Int} (hx : lawW (R[k], v)) (W' : World) (hW : W'.heap[b]? = some (.map (entsV 0 (putV (.string R[k]) v (T.map kw))).toArray (putV (.string R[k]) v (T.map kw)).length)) :
    MkW w b R (k + 1) W' (putW R[k] v T) := by
  refine ⟨?_, putW_dist h.dist, putW_law h.law hx, Nat.le_trans (putW_len _ _ _) (by have := h.len; omega), fun y hy => ?_⟩
  · unfold MapW entsW
    rw [putW_kw, hW, ← putW_kw, List.length_map]
  · rw [List.take_add_one, List.getElem?_eq_getElem hk] at hy
    rw [putW_fst]
    rcases List.mem_append.1 hy with hy | hy
    · exact .inl (h.all y hy)
    · right; simpa using hy
theorem load44 {W : World} {g : Nat} {v : Value} (hg : W.heap[g]? = some (.cells #[v] 44 (0, 0))) : (loadVar 44 ⟨g, 0, none⟩).run Tryz.prog W = .ok v W := by
  have hc := (box_cell hg).1
  have hu := Tryz.underlying44
  go_simp
theorem words_laid {w X : World} {Al : Option Addr} {cl : Nat} (hX : ((((w.alloc (.cells #[.slice none 0 0] 44)).alloc (.cells #[.int .i64 0] 25)).alloc (.map #[] 0)).alloc (.cells #[.map (some (w.heap.size + 1 + 1))] 148)).alloc (.cells #[.slice Al 1 cl] 40) = X) :
    X.heap[w.heap.size]? = some (.cells #[.slice none 0 0] 44 (0, 0)) ∧ X.heap[w.heap.size + 1]? = some (.cells #[.int .i64 0] 25 (0, 0)) ∧ X.heap[w.heap.size + 2]? = some (.map #[] 0) ∧ X.heap[w.heap.size + 3]? = some (.cells #[.map (some (w.heap.size + 2))] 148 (0, 0)) ∧
      X.heap[w.heap.size + 4]? = some (.cells #[.slice Al 1 cl] 40 (0, 0)) ∧ X.heap.size = w.heap.size + 5 ∧ Below w.heap.size w X := by
  subst hX
  have h3 := heap_alloc_new (((w.alloc (.cells #[.slice none 0 0] 44)).alloc (.cells #[.int .i64 0] 25)).alloc (.map #[] 0)) (.cells #[.map (some (w.heap.size + 1 + 1))] 148)
  have h4 := heap_alloc_new ((((w.alloc (.cells #[.slice none 0 0] 44)).alloc (.cells #[.int .i64 0] 25)).alloc (.map #[] 0)).alloc (.cells #[.map (some (w.heap.size + 1 + 1))] 148)) (.cells #[.slice Al 1 cl] 40)
  simp only [World.size_alloc] at h3 h4
  exact ⟨alloc_keep (alloc_keep (al3_0 _ _ _ _) _) _, alloc_keep (alloc_keep (al3_1 _ _ _ _) _) _, alloc_keep (alloc_keep (al3_2 _ _ _ _) _) _, alloc_keep h3 _, h4, by simp, balloc (balloc (balloc (balloc (balloc (Below.refl _ w) _) _) _) _) _⟩
/-- the first loop left with an error -/
def WoE (w W : World) : Prop := W.heap[w.heap.size]? = some (.cells #[.slice none 0 0] 44 (0, 0)) ∧ W.heap[w.heap.size + 1]? = some (.cells #[.int .i64 3] 25 (0, 0)) ∧ Below w.heap.size w W
set_option maxRecDepth 100000 in
set_option maxHeartbeats 8000000 in
theorem words_e {w : World} {Al : Option Addr} {cl : Nat} {s : ByteArray} (hs : s.size ≤ 1000) (hv : Lib.validD (bys s) = false) (hS : TtS w (.slice Al 1 cl) [s]) (hT : Tab w) : Calls Tryz.prog 34 #[.slice Al 1 cl] w (WordsP s w) := by
  have hmm := @run_makeMap Tryz.prog
  have HS := hid hS
  have HT := hid hT
  clear hS hT
  refine (callsIn_wide (n := 6)).1 ?_
  refine callsIn_of_wp_marks Tryz.func34 rfl trivial ?_ rfl
  simp only [Tryz.ntmps34, List.size_toArray, List.length_cons, List.length_nil, Nat.reduceAdd, Nat.reduceSub, Array.replicate_succ, Array.replicate_zero, List.push_toArray, List.append_toArray, List.nil_append, List.cons_append]
  gi_wp2_with (refine ⟨trivial, ?_⟩; gi_at_call 62; refine (callsIn_wide.2 (tokensW_c _ _ _ _)).mono ?_; rintro e w2 ⟨rfl, rfl⟩)
  obtain ⟨X, hX⟩ : ∃ X, ((((w.alloc (.cells #[.slice none 0 0] 44)).alloc (.cells #[.int .i64 0] 25)).alloc (.map #[] 0)).alloc (.cells #[.map (some (w.heap.size + 1 + 1))] 148)).alloc (.cells #[.slice Al 1 cl] 40) = X := ⟨_, rfl⟩
  obtain ⟨x0, x1, x2, x3, x4, hXs, hXb⟩ := words_laid hX
  try rw [hX]
  refine wpIn_rangeC rfl (by omega) (gf := 101) (lb := #[.pointer (some ⟨w.heap.size + 1 + 1 + 1 + 1, 0, none⟩)]) rfl trivial (enters_of Tryz.func101 (by kernel_rfl) rfl)
    (wordsE_seq 5 (by omega) _ s (by omega) hv Al cl X (HT.out.bel hXb) x4 (HS.out.below hXb)) (Below.refl _ _) (fun _ => rfl) (fun k hk => hk.elim)
    (fun k W => k = 0 ∧ WoI w [] 0 W) (fun c k W => c = .ret ∧ WoE w W) ?hI ?hIx ?h0 ?round ?done ?stop
  case hI => exact fun k A B h hcs => ⟨h.1, h.2.cs hcs (by omega)⟩
  case hIx => exact fun c k A B h hcs => ⟨h.1, hcs.cells h.2.1 (fun h => h), hcs.cells h.2.2.1 (fun h => h), hcs.below h.2.2.2 (by omega) (fun b hb h => h)⟩
  case h0 => exact ⟨rfl, x0, x1, x3, ⟨[], x2, List.nodup_nil, fun y hy => by simp at hy, Nat.le_refl _, fun y hy => by simp at hy⟩, hXb⟩
  case done => rintro D W hD ⟨h, -⟩ hK; exact absurd h (by omega)
  case round =>
    intro l k W hk
    apply Exists.intro
    refine ⟨fun K hK => ?_, ?_⟩
    · gi_wp2
      exact hK
    · rintro W' ⟨hk0, h0, h1, h3, -, h4⟩ hszW' hn1 hn2
      obtain ⟨a0, b0⟩ := box_cell h0
      obtain ⟨a1, b1⟩ := box_cell h1
      have H0 := hid h0
      have H1 := hid h1
      have H4 := hid h4
      clear h0 h1 h3 h4
      gi_wp2
      have hto := Touch.setCell (F := fun b => b = w.heap.size ∨ b = w.heap.size + 1) (p := ⟨w.heap.size + 1, 0, none⟩) (Touch.setCell (p := ⟨w.heap.size, 0, none⟩) (Touch.refl _ W') (.inl (.inl rfl)) (.slice none 0 0)) (.inl (.inr rfl)) (.int .i64 3)
      refine ⟨RK.of_touch hto (by omega) (by omega) (by omega), rfl, set_other (box_set H0.out _) (by omega) _ _, box_set (set_other H1.out (by omega) _ _) _, hto.below H4.out (fun b hb => by omega)⟩
  case stop =>
    rintro D c k W hD hk ⟨rfl, h0, h1, h4⟩ hK
    gi_wp2
    refine ⟨by simp, .inl ⟨_, _, rfl, run_takeDeferred hK, ?_⟩⟩
    refine ⟨_, results_cell2 (fn := Tryz.f34) rfl _ _ w.heap.size (w.heap.size + 1) (.slice none 0 0) (.int .i64 3) rfl rfl (load44 (put_other h0 (by omega))) (load25 (put_other h1 (by omega))), ?_⟩
    exact ⟨fin_below h4 (by omega), .inl ⟨3, by decide, rfl⟩⟩
/-- how many a range has handed out -/
def handedW (w : World) (It : Nat) : Nat := match w.heap[It]? with | some (.mapIter _ _ s _) => s.size | _ => 0
theorem handedW_eq {w : World} {It Bm n : Nat} {seen : List Nat} (h : MIt w It Bm n seen) : handedW w It = seen.length := by
  unfold handedW MIt at *
  rw [h]
  simp
theorem StepKW.touch {It Bm : Nat} {T : List Wd} {a W w' : World} (h : StepKW It Bm T W w') (ht : Touch (fun b => b = Bm) a W) (hIt : a.heap.size ≤ It) : Touch (fun b => b = Bm) a w' :=
  ⟨h.same.1.trans ht.os, h.same.2.1.trans ht.tape, h.same.2.2.trans ht.output, Nat.le_trans ht.size h.size, fun k hk hF => (h.keep k (Nat.lt_of_lt_of_le hk ht.size) (by omega) hF).trans (ht.block k hk hF)⟩
def pickW (T : List Wd) (seen : List Nat) : List Wd := seen.map fun i => T.getD i wd0
theorem pickW_len (T : List Wd) (seen : List Nat) : (pickW T seen).length = seen.length := by simp [pickW]
theorem pickW_snoc (T : List Wd) (seen : List Nat) (i : Nat) : pickW T (seen ++ [i]) = pickW T seen ++ [T.getD i wd0] := by simp [pickW]
theorem pickW_all {T : List Wd} {seen : List Nat} (hn : seen.Nodup) (hl : ∀ i ∈ seen, i < T.length) (hall : ∀ i, i < T.length → i ∈ seen) : (pickW T seen).Perm T := by
  have hp : seen.Perm (List.range T.length) := (List.perm_ext_iff_of_nodup hn List.nodup_range).2 fun i => ⟨fun h => by simpa using hl i h, fun h => hall i (by simpa using h)⟩
  have h1 := hp.map fun i => T.getD i wd0
  have h2 : (List.range T.length).map (fun i => T.getD i wd0) = T := by
    apply List.ext_getElem
    · simp
    · intro i h1 h2
      simp [List.getD_eq_getElem?_getD, h2]
  rw [h2] at h1
  exact h1
theorem seen_lenW {T : List Wd} {seen : List Nat} (hn : seen.Nodup) (hl : ∀ i ∈ seen, i < T.length) : seen.length ≤ T.length := by
  have hp : seen.Perm ((List.range T.length).filter fun i => decide (i ∈ seen)) := (List.perm_ext_iff_of_nodup hn (List.nodup_range.filter _)).2 fun i => ⟨fun h => List.mem_filter.2 ⟨by simpa using hl i h, by simpa using h⟩, fun h => by simpa using (List.mem_filter.1 h).2⟩
  rw [hp.length_eq]
  exact Nat.le_trans (List.length_filter_le _ _) (by simp)
set_option maxRecDepth 100000 in
set_option maxHeartbeats 8000000 in
theorem words_v {w : World} {Al : Option Addr} {cl : Nat} {s : ByteArray} (hs : s.size ≤ 1000) (hv : Lib.validD (bys s) = true) (hS : TtS w (.slice Al 1 cl) [s]) (hT : Tab w) : Calls Tryz.prog 34 #[.slice Al 1 cl] w (WordsP s w) := by
  have hmm := @run_makeMap Tryz.prog
  have HS := hid hS
  have HT := hid hT
  clear hS hT
  refine (callsIn_wide (n := 6)).1 ?_
  refine callsIn_of_wp_marks Tryz.func34 rfl trivial ?_ rfl
  simp only [Tryz.ntmps34, List.size_toArray, List.length_cons, List.length_nil, Nat.reduceAdd, Nat.reduceSub, Array.replicate_succ, Array.replicate_zero, List.push_toArray, List.append_toArray, List.nil_append, List.cons_append]
  gi_wp2_with (refine ⟨trivial, ?_⟩; gi_at_call 62; refine (callsIn_wide.2 (tokensW_c _ _ _ _)).mono ?_; rintro e w2 ⟨rfl, rfl⟩)
  obtain ⟨X, hX⟩ : ∃ X, ((((w.alloc (.cells #[.slice none 0 0] 44)).alloc (.cells #[.int .i64 0] 25)).alloc (.map #[] 0)).alloc (.cells #[.map (some (w.heap.size + 1 + 1))] 148)).alloc (.cells #[.slice Al 1 cl] 40) = X := ⟨_, rfl⟩
  obtain ⟨x0, x1, x2, x3, x4, hXs, hXb⟩ := words_laid hX
  try rw [hX]
  have hseq := words_seq 5 (by omega) _ s (by omega) hv Al cl X (HT.out.bel hXb) x4 (HS.out.below hXb)
  have hlaw : ∀ t ∈ wdsF s, TokL t := fun t ht => wdsF_law hv (by omega) ht
  have hlen := wdsF_len s
  have hall : ∀ t ∈ wdsF s, t ∈ wdsF s := fun t h => h
  obtain ⟨R, hR⟩ : ∃ R, wdsF s = R := ⟨_, rfl⟩
  have HRE := hid hR
  rw [hR] at hseq hlaw hlen
  clear hR hall
  refine wpIn_rangeC rfl (by omega) (gf := 101) (lb := #[.pointer (some ⟨w.heap.size + 1 + 1 + 1 + 1, 0, none⟩)]) rfl trivial (enters_of Tryz.func101 (by kernel_rfl) rfl)
    hseq (Below.refl _ _) (fun _ => rfl) (fun k hk => hk.elim)
    (WoI w R) (fun _ _ _ => False) ?hI ?hIx ?h0 ?round ?done ?stop
  case hI => exact fun k A B h hcs => h.cs hcs (by omega)
  case hIx => exact fun _ _ _ _ h _ => h
  case h0 => exact ⟨x0, x1, x3, ⟨[], x2, List.nodup_nil, fun y hy => by simp at hy, Nat.le_refl _, fun y hy => by simp at hy⟩, hXb⟩
  case stop => exact fun _ _ _ _ _ _ h _ => h.elim
  case round =>
    intro l k W hk
    obtain ⟨x, hx⟩ : ∃ x, R.getD k ⟨#[]⟩ = x := ⟨_, rfl⟩
    have hxk : R[k] = x := by rw [← hx]; simp [List.getD_eq_getElem?_getD, hk]
    unfold wAtArgs
    rw [hx]
    apply Exists.intro
    refine ⟨fun K hK => ?_, ?_⟩
    · gi_wp2
      exact hK
    · rintro W' ⟨h0, h1, h3, ⟨T, hM⟩, h4⟩ hszW' hn1 hn2
      obtain ⟨a3, b3⟩ := box_cell h3
      have hlw := hlaw _ (List.getElem_mem hk)
      have hcb := cntW (x := x) hM.law
      have hkd : IsKey .string (Value.string x) := trivial
      have hlk := lookV (mt := 148) Tryz.underlying148 Tryz.underlying9 hM.map.v hkd
      obtain ⟨c, hc⟩ : ∃ c, cntV (.string x) (T.map kw) = c := ⟨_, rfl⟩
      rw [hc] at hlk hcb
      have hwc : wrap64 (c + 1) = c + 1 := by unfold wrap64; omega
      have hwd : IntKind.i64.wrap (c + 1) = c + 1 := by rw [IntKind.wrap_i64]; omega
      have hup := updV (mt := 148) Tryz.underlying148 Tryz.underlying9 hM.map.v hkd (min (c + 1) 1073741824)
      obtain ⟨Y, hY⟩ : ∃ Y, mapPutV W' (w.heap.size + 2) (putV (.string x) (min (c + 1) 1073741824) (T.map kw)) = Y := ⟨_, rfl⟩
      rw [hY] at hup
      have hto : Touch (fun b => b = w.heap.size + 2) W' Y := by rw [← hY]; exact touch_putV (F := fun b => b = w.heap.size + 2) (Touch.refl _ W') (.inl rfl) _
      have hYm : Y.heap[w.heap.size + 2]? = some (.map (entsV 0 (putV (.string x) (min (c + 1) 1073741824) (T.map kw))).toArray (putV (.string x) (min (c + 1) 1073741824) (T.map kw)).length) := by rw [← hY]; exact World.putObj_heap_same (blk_lt hM.map)
      have HTO := hid hto
      have HYM := hid hYm
      have hck : CK W' Y := by rw [← hY]; exact CK.putObj hM.map rfl
      have HCK := hid hck
      clear hto hYm hck hY
      have HM := hid hM
      have H0 := hid h0
      have H1 := hid h1
      have H3 := hid h3
      have H4 := hid h4
      have HX := hid hxk
      have HLW := hid hlw
      clear h0 h1 h3 h4 hM hxk hx hlw hc hseq
      gi_wp2
      have hlx : lawW (R[k], min (c + 1) 1073741824) := ⟨HLW.out, by dsimp only; omega, by dsimp only; omega⟩
      have hput := HM.out.put hk hlx Y (by rw [HX.out]; exact HYM.out)
      have k0 := (HTO.out.block _ (blk_lt H0.out) (by omega)).trans H0.out
      have k1 := (HTO.out.block _ (blk_lt H1.out) (by omega)).trans H1.out
      have k3 := (HTO.out.block _ (blk_lt H3.out) (by omega)).trans H3.out
      exact ⟨RK.of_touch HTO.out (by omega) (by omega) (by omega), HCK.out, k0, k1, k3, ⟨_, hput⟩, HTO.out.below H4.out (fun b hb => by omega)⟩
  case done =>
    rintro D W hD ⟨h0, h1, h3, ⟨T, hM⟩, h4⟩ hK
    obtain ⟨a0, b0⟩ := box_cell h0
    obtain ⟨a1, b1⟩ := box_cell h1
    obtain ⟨a3, b3⟩ := box_cell h3
    have H0 := hid h0
    have H1 := hid h1
    have H4 := hid h4
    have HM := hid hM
    have HK := hid hK
    have hTl : T.length ≤ 1000 := Nat.le_trans hM.len (by omega)
    have hln : (Builtin.len_ #[148] 3 #[.map (some (w.heap.size + 2))]).run Tryz.prog W = .ok (.int .i64 (T.length : Int)) W := by
      have := run_len_map (P := Tryz.prog) (w := W) 148 3 (w.heap.size + 2) _ _ Tryz.underlying148 hM.map
      rw [this]
      simp [goInt, entsW, entsV_len]
    obtain ⟨i0, hi_, hz0, hz1, hz2⟩ := info_parts info81
    obtain ⟨W1, hmk, hsl, hg1⟩ := run_make_own (P := Tryz.prog) W 0 44 81 i0 _ 2 Tryz.underlying44 hi_ hz0 hz1 .i64 .i64 T.length (by rw [hz2]; omega) (by simp [maxLen]; omega) (Nat.zero_le _)
    have hT1 : Touch (fun b => b = w.heap.size + 2) W W1 := (Touch.refl _ W).grown hg1 (fun k hk => by cases hk)
    have hM1 : MapW W1 (w.heap.size + 2) T := (hg1.block _ (blk_lt hM.map) (fun h => by cases h)).trans hM.map
    have hrg := range_mW hM1
    have hc3 : W1.cell? ⟨w.heap.size + 3, 0, none⟩ = some (.map (some (w.heap.size + 2))) := (box_cell ((hg1.block _ (blk_lt h3) (fun h => by cases h)).trans h3)).1
    have HT1 := hid hT1
    have HM1 := hid hM1
    have HSL1 := hid (SL.of_own hsl)
    have hwW : w.heap.size + 5 ≤ D := by omega
    have hDW := blk_lt hK
    have hWW := hT1.size
    clear h0 h1 h3 h4 hK hM x0 x1 x2 x3 x4 hseq hT1 hM1 hsl hg1 hX hXs hXb hD
    gi_wp2
    refine wpIn_wide.2 ?_
    have HTa := hid (HT1.out.alloc (.mapIter (some (w.heap.size + 2)) T.length #[] T.length))
    have HMa : Hid (MapW (W1.alloc (.mapIter (some (w.heap.size + 2)) T.length #[] T.length)) (w.heap.size + 2) T) := hid (alloc_keep HM1.out (.mapIter (some (w.heap.size + 2)) T.length #[] T.length))
    have HIa : Hid (MIt (W1.alloc (.mapIter (some (w.heap.size + 2)) T.length #[] T.length)) W1.heap.size (w.heap.size + 2) T.length []) := hid (heap_alloc_new W1 _)
    have HSa := hid (SL.alloc HSL1.out (.mapIter (some (w.heap.size + 2)) T.length #[] T.length))
    obtain ⟨It, hIt⟩ : ∃ It, W1.heap.size = It := ⟨_, rfl⟩
    obtain ⟨Bm, hBm⟩ : ∃ b, w.heap.size + 2 = b := ⟨_, rfl⟩
    obtain ⟨Wa, hWa⟩ : ∃ Wa, W1.alloc (.mapIter (some (w.heap.size + 2)) T.length #[] T.length) = Wa := ⟨_, rfl⟩
    rw [hWa] at HTa HMa HIa HSa
    try rw [hWa]
    rw [hIt] at HIa
    try rw [hIt]
    rw [hBm] at HTa HMa HIa
    try rw [hBm]
    have hne : It ≠ Bm := by omega
    have hIt0 : W.heap.size ≤ It := by omega
    clear hrg HT1 HM1 HSL1 hWa hmk hln hc3
    go_loopw [7] (fun ov wr => ∃ (seen : List Nat) (A : Option Addr) (c : Nat), ov = .slice A seen.length c ∧ Hid (SL wr 81 2 (.slice A seen.length c) seen.length (wdsC (pickW T seen))) ∧ Hid (∀ b, (Value.slice A seen.length c).ownBlock = some b → W.heap.size ≤ b) ∧ Hid (Touch (fun b => b = Bm) W wr) ∧ Hid (MapW wr Bm T) ∧ Hid (MIt wr It Bm T.length seen) ∧ Hid seen.Nodup ∧ Hid (∀ i ∈ seen, i < T.length)) (fun _ wr => T.length - handedW wr It)
    case atStart => exact ⟨[], _, _, rfl, HSa, hid (fun b hb => by cases hb; exact Nat.le_refl _), HTa, HMa, HIa, hid List.nodup_nil, hid (fun i hi => by cases hi)⟩
    case round =>
      obtain ⟨seen, A, c, rfl, HSq, HOq, HTq, HMq, HIq, HND, HSL⟩ := hrel
      clear HTa HMa HIa HSa
      have hsl := seen_lenW HND.out HSL.out
      have hhd := handedW_eq HIq.out
      obtain ⟨u, w2, hnx, hst, hcase⟩ := next_mW HMq.out HIq.out hne 0
      have HT2 := hid (hst.touch HTq.out hIt0)
      have HM2 := hid hst.map
      have HS2 : Hid (SL w2 81 2 (.slice A seen.length c) seen.length (wdsC (pickW T seen))) := hid (SL.keep HSq.out fun b hb => by
        obtain ⟨cur, hc⟩ := SL.typed HSq.out b hb
        exact hst.keep b (blk_lt hc) (fun e => by rw [e, show wr.heap[It]? = _ from HIq.out] at hc; cases hc) (fun e => by rw [e, show wr.heap[Bm]? = _ from HMq.out] at hc; cases hc))
      rcases hcase with ⟨hall, rfl, hI2⟩ | ⟨i, hi, hns, rfl, hI2⟩
      · have hpm := pickW_all HND.out HSL.out hall
        have hW2 : WdS w2 (.slice A (pickW T seen).length c) (pickW T seen) := by unfold WdS; rw [pickW_len]; exact HS2.out
        have hbw : Below w.heap.size w w2 := HT2.out.below H4.out (fun b hb => by omega)
        have hnm := normal_c hW2 (fun x hx => HM.out.law x (hpm.mem_iff.1 hx)) ((hpm.map _).nodup_iff.2 HM.out.dist) (HT.out.bel hbw) (by rw [pickW_len]; omega)
        rw [pickW_len] at hnm
        have hgo : ∀ b o, W.heap[b]? = some o → b ≠ Bm → w2.heap[b]? = some o := fun b o h hb => (HT2.out.block b (blk_lt h) hb).trans h
        have q0 := hgo _ _ H0.out (by omega)
        have q1 := hgo _ _ H1.out (by omega)
        have qK := hgo _ _ HK.out (by omega)
        have HNM := hid hnm
        have HBW := hid hbw
        have HPM := hid hpm
        have HQ0 := hid q0
        have HQ1 := hid q1
        have HQK := hid qK
        clear hW2 hbw hnm hpm hgo q0 q1 qK hall
        go_wp2
        gi_wp2_with (refine ⟨trivial, ?_⟩; gi_at_call 63; refine (callsIn_wide.2 HNM.out).mono ?_; rintro e w3 ⟨hb3, A3, c3, M, rfl, hp3, hr3, hM3, ho3⟩; have k0 := (hb3.block _ (blk_lt HQ0.out)).trans HQ0.out; have k1 := (hb3.block _ (blk_lt HQ1.out)).trans HQ1.out; have kK := (hb3.block _ (blk_lt HQK.out)).trans HQK.out; have HK0 := hid k0; have HK1 := hid k1; have HKK := hid kK; obtain ⟨e0, f0⟩ := box_cell k0; obtain ⟨e1, f1⟩ := box_cell k1; have HB3 := hid (bthen HBW.out hb3); have HP3 := hid hp3; have HR3 := hid hr3; have HM3 := hid hM3; have HO3 := hid ho3; clear hb3 hp3 hr3 hM3 ho3 k0 k1 kK)
        gi_wp2
        obtain ⟨X, hX⟩ : ∃ X, (w3.setCell ⟨w.heap.size, 0, none⟩ (.slice A3 M.length c3)).setCell ⟨w.heap.size + 1, 0, none⟩ (.int .i64 0) = X := ⟨_, rfl⟩
        have hw2s := HT2.out.size
        have hK' : X.heap[D]? = some (Obj.deferred (some [])) := by rw [← hX]; exact set_other (set_other HKK.out (by omega) _ _) (by omega) _ _
        have g0 : X.heap[w.heap.size]? = some (.cells #[.slice A3 M.length c3] 44 (0, 0)) := by rw [← hX]; exact set_other (box_set HK0.out _) (by omega) _ _
        have g1 : X.heap[w.heap.size + 1]? = some (.cells #[.int .i64 0] 25 (0, 0)) := by rw [← hX]; exact box_set (set_other HK1.out (by omega) _ _) _
        have hbX : Below w.heap.size w X := by rw [← hX]; exact (HB3.out.setCell (by simp) _).setCell (by simp) _
        have hMX : WdS X (.slice A3 M.length c3) M := by
          rw [← hX]
          exact SL.far (SL.far HM3.out (fun k hk => by have := HO3.out k hk; show k ≠ w.heap.size; omega) _) (fun k hk => by have := HO3.out k hk; show k ≠ w.heap.size + 1; omega) _
        rw [hX]
        refine ⟨by simp, .inl ⟨_, _, rfl, run_takeDeferred hK', ?_⟩⟩
        refine ⟨_, results_cell2 (fn := Tryz.f34) rfl _ _ w.heap.size (w.heap.size + 1) _ (.int .i64 0) rfl rfl (load44 (put_other g0 (by omega))) (load25 (put_other g1 (by omega))), ?_⟩
        have hMT := HP3.out.trans HPM.out
        refine ⟨fin_below hbX (by omega), .inr ⟨hv, A3, c3, M, rfl, ⟨fun x hx => HM.out.law x (hMT.mem_iff.1 hx), HR3.out, by rw [hMT.length_eq]; omega, fun t ht => ?_⟩, fin_SL hMX hK' rfl⟩⟩
        rw [HRE.out] at ht
        exact (hMT.map _).mem_iff.2 (HM.out.all t (by rw [List.take_length]; exact ht))
      · have hen := entry_mW HM2.out hI2 hne hi
        have HI2 := hid hI2
        have hnd2 : Hid (seen ++ [i]).Nodup := hid (List.nodup_append.2 ⟨HND.out, by simp, by
          intro a ha b hb
          rw [List.mem_singleton] at hb
          subst hb
          rintro rfl
          exact hns ha⟩)
        have hsl2 : Hid (∀ j ∈ seen ++ [i], j < T.length) := hid (fun j hj => by
          rcases List.mem_append.1 hj with h1 | h1
          · exact HSL.out j h1
          · rw [List.mem_singleton] at h1; subst h1; exact hi)
        have hlt := seen_lenW hnd2.out hsl2.out
        rw [List.length_append] at hlt
        have hgi : T.getD i wd0 = T[i] := by rw [List.getD_eq_getElem?_getD, List.getElem?_eq_getElem hi]; rfl
        have hpk := pickW_snoc T seen i
        rw [hgi] at hpk
        obtain ⟨b, hb⟩ : ∃ b, T[i] = b := ⟨_, rfl⟩
        rw [hb] at hnx hen hpk
        obtain ⟨bf, bn⟩ := b
        dsimp only at hnx hen
        have hone : ∀ u ∈ [Value.string bf, Value.int IntKind.i64 bn], u.oneCell' = true := by simp [Value.oneCell']
        have h63 : seen.length + 1 ≤ maxLen := by simp only [maxLen]; simp at hlt; omega
        have hby : (seen.length + 1) * 24 ≤ 140737488355328 := by simp at hlt; omega
        have fin : ∀ (A2 : Option Addr) (c2 : Nat) (wz : World), SL wz 81 2 (.slice A2 (seen.length + 1) c2) (seen.length + 1) (wdsC (pickW T seen) ++ [.string bf, .int .i64 bn]) → (w2.alloc (.cells #[.string bf, .int .i64 bn] 81)).grownBy wz (Value.slice A seen.length c).ownBlock → (∀ b, (Value.slice A2 (seen.length + 1) c2).ownBlock = some b → (Value.slice A seen.length c).ownBlock = some b ∨ (w2.alloc (.cells #[.string bf, .int .i64 bn] 81)).heap.size ≤ b) →
            SL wz 81 2 (.slice A2 (seen ++ [i]).length c2) (seen ++ [i]).length (wdsC (pickW T (seen ++ [i]))) ∧ (∀ b, (Value.slice A2 (seen ++ [i]).length c2).ownBlock = some b → W.heap.size ≤ b) ∧ Touch (fun b => b = Bm) W wz ∧ MapW wz Bm T ∧ MIt wz It Bm T.length (seen ++ [i]) := fun A2 c2 wz hs2 hg2 ho2 => by
          have el : (seen ++ [i]).length = seen.length + 1 := by simp
          have hnc : ∀ (b : Nat) (o : Obj), w2.heap[b]? = some o → o.isCells = false → wz.heap[b]? = some o := fun b o ho hc => (hg2.block b (by rw [World.size_alloc]; have := blk_lt ho; omega) (fun h => by
            obtain ⟨cur, hcc⟩ := SL.typed HS2.out b h.symm
            rw [ho] at hcc
            cases hcc
            cases hc)).trans (alloc_keep ho _)
          refine ⟨?_, fun b hb => ?_, (HT2.out.alloc _).grown hg2 (fun k hk => .inr (HOq.out k hk)), hnc _ _ HM2.out rfl, hnc _ _ HI2.out rfl⟩
          · rw [el, hpk, wdsC_append]; exact hs2
          · rw [el] at hb
            rcases ho2 b hb with h1 | h1
            · exact HOq.out b h1
            · have := HT2.out.size
              rw [World.size_alloc] at h1
              omega
        have HFIN := hid fin
        have HLX := hid (SL.lit w2 81 2 1 #[.string bf, .int .i64 bn] rfl (by simp [maxLen]))
        have HXX := hid (SL.alloc HS2.out (.cells #[.string bf, .int .i64 bn] 81))
        clear hb hpk fin hI2 hgi hns
        go_wp2_with (at_builtin; refine wpList_append_SLs rfl _ _ _ rfl 81 i0 _ 2 24 Tryz.underlying44 hi_ hz0 hz1 hz2 rfl (by decide) (.slice A seen.length c) seen.length (wdsC (pickW T seen)) rfl HXX.out _ 1 _ rfl HLX.out hone (seen.length + 1) _ rfl rfl h63 hby ?_; intro A2 c2 wz hs2 hg2 ho2; obtain ⟨f1, f2, f3, f4, f5⟩ := HFIN.out A2 c2 wz hs2 hg2 ho2; have F1 := hid f1; have F2 := hid f2; have F3 := hid f3; have F4 := hid f4; have F5 := hid f5; clear hs2 hg2 ho2 f1 f2 f3 f4 f5)
        have hh5 := handedW_eq F5.out
        refine ⟨⟨seen ++ [i], A2, c2, by simp, F1, F2, ?_⟩, ?_⟩
        · first
            | exact ⟨F3, F4, F5, hnd2, hsl2⟩
            | exact ⟨F5, hnd2, hsl2⟩
        · rw [hh5, List.length_append]; simp; simp at hlt; omega
theorem words_c {w : World} {Al : Option Addr} {cl : Nat} {s : ByteArray} (hs : s.size ≤ 1000) (hS : TtS w (.slice Al 1 cl) [s]) (hT : Tab w) : Calls Tryz.prog 34 #[.slice Al 1 cl] w (WordsP s w) := by
  cases hv : Lib.validD (bys s)
  · exact words_e hs hv hS hT
  · exact words_v hs hv hS hT
end Go.Proofs.YteigplfldhdakaaGreatDoor
/- train: Clip, Docs$1, made, Docs; of one document. -/
namespace Go.Proofs.YteigplfldhdakaaGreatDoor
open Go.RowKit Go.Shelf
attribute [local go_sem ↓] Go.wp_at_zero Go.wp_at_succ
theorem SL.clip {w : World} {e : TypeId} {sz n c : Nat} {A : Option Addr} {xs : List Value} (h : SL w e sz (.slice A n c) n xs) : SL w e sz (.slice A n n) n xs := by
  obtain ⟨h1, h2⟩ := h
  refine ⟨h1, ?_⟩
  rcases h2 with ⟨h2, h3⟩ | ⟨g, off, cap, cur, hv, hg, hn, hm, hs, hx⟩
  · cases h2
    exact .inl ⟨rfl, rfl⟩
  · cases hv
    have : n * sz ≤ c * sz := Nat.mul_le_mul_right _ hn
    exact .inr ⟨g, off, n, cur, rfl, hg, Nat.le_refl _, by omega, by omega, hx⟩
set_option maxRecDepth 100000 in
set_option maxHeartbeats 2000000 in
theorem clip_c {w : World} {A : Option Addr} {n c : Nat} {xs : List Value} (h : SL w 81 2 (.slice A n c) n xs) : Calls Tryz.prog 61 #[.slice A n c] w fun e w' => e = .returned (.slice A n n) ∧ w' = w := by
  have hn : n ≤ c := by obtain ⟨A', c', h1, h2⟩ := SL.form h; cases h1; exact h2
  have hl : n ≤ 9223372036854775807 := SL.le h
  have hni : (n : Int) ≤ (c : Int) := by omega
  clear h
  go_enter Tryz.func61, Tryz.ntmps61
  go_wp2
  go_ret
  exact ⟨rfl, rfl⟩
theorem info46 : (Tryz.prog.info? 46).map (·.size) = some 2 := by kernel_rfl
theorem load46 {W : World} {g : Nat} {a b : Option Addr} {n c m d : Nat} (hg : W.heap[g]? = some (.cells #[.slice a n c, .slice b m d] 46 (0, 0))) : (loadVar 46 ⟨g, 0, none⟩).run Tryz.prog W = .ok (.agg #[.slice a n c, .slice b m d]) W :=
  run_loadVar_row W g 46 46 _ (0, 0) _ hg Tryz.underlying46 rfl info46
theorem row2_set {W : World} {b : Nat} {x y : Value} {t : TypeId} (h : W.heap[b]? = some (.cells #[x, y] t (0, 0))) (x' y' : Value) :
    ((W.setCell ⟨b, 0, none⟩ x').setCell ⟨b, 1, none⟩ y').heap[b]? = some (.cells #[x', y'] t (0, 0)) := by
  have h1 := heap_setCell_same W b 0 _ t x' h
  have h2 := heap_setCell_same _ b 1 _ t y' h1
  exact h2
theorem SL.far2 {W : World} {e t : TypeId} {sz n b : Nat} {v : Value} {xs : List Value} {C : Array Value} (h : SL W e sz v n xs) (hb : W.heap[b]? = some (.cells C t (0, 0))) (ht : t ≠ e) (x y : Value) : SL ((W.setCell ⟨b, 0, none⟩ x).setCell ⟨b, 1, none⟩ y) e sz v n xs := by
  have hne : ∀ k, v.ownBlock = some k → k ≠ b := fun k hk e' => by
    obtain ⟨cur, hc⟩ := SL.typed h k hk
    rw [e', hb] at hc
    cases hc
    exact ht rfl
  exact SL.far (SL.far h hne x) hne y
/-- a model that New takes, which knows all tokens of s -/
structure ModOk (s : ByteArray) (R : List Blk) (M : List Wd) : Prop where
  rules : ∀ b ∈ R, rokB b
  srt : srtR R
  few : R.length ≤ 4096
  words : WoOk s M
def DocsP (s : ByteArray) (w : World) (e : Ending) (w' : World) : Prop :=
  Below w.heap.size w w' ∧ ((∃ q, q ≠ 0 ∧ e = .returned (.tuple #[.agg #[.slice none 0 0, .slice none 0 0], .int .i64 q])) ∨
    (Lib.validD (bys s) = true ∧ ∃ A c R A2 c2 M, e = .returned (.tuple #[.agg #[.slice A R.length c, .slice A2 M.length c2], .int .i64 0]) ∧ ModOk s R M ∧ RuS w' (.slice A R.length c) R ∧ WdS w' (.slice A2 M.length c2) M))
set_option maxRecDepth 100000 in
set_option maxHeartbeats 2000000 in
theorem docs1_c {w : World} {bx : Nat} {Al : Option Addr} {cl : Nat} {s : ByteArray} (hs : s.size ≤ 1000) (hb : w.heap[bx]? = some (.cells #[.slice Al 1 cl] 40 (0, 0))) (hS : TtS w (.slice Al 1 cl) [s]) (hT : Tab w) :
    Calls Tryz.prog 33 #[.pointer (some ⟨bx, 0, none⟩)] w (WordsP s w) := by
  have HW := hid (words_c hs hS hT)
  obtain ⟨b0, b1⟩ := box_cell hb
  clear hb hS hT
  go_enter Tryz.func33, Tryz.ntmps33
  go_wp2_with (go_at_call 34; refine HW.out.mono ?_; rintro e w1 ⟨hb1, ⟨q, hq, rfl⟩ | ⟨hv, A, c, M, rfl, hm, hM⟩⟩)
  · go_ret2
    exact ⟨hb1, .inl ⟨q, hq, rfl⟩⟩
  · go_ret2
    exact ⟨hb1, .inr ⟨hv, A, c, M, rfl, hm, hM⟩⟩
set_option maxRecDepth 100000 in
set_option maxHeartbeats 4000000 in
theorem made_c32 {w : World} {v : Value} {L : List (ByteArray × ByteArray)} (h : PrS w v L) (hsm : smallP L) {bx : Nat} {Al : Option Addr} {cl : Nat} {s : ByteArray} (hs : s.size ≤ 1000) (hb : w.heap[bx]? = some (.cells #[.slice Al 1 cl] 40 (0, 0))) (hS : TtS w (.slice Al 1 cl) [s]) (hT : Tab w) :
    Calls Tryz.prog 32 #[v, .int .i64 1, .func (.func 33) #[] #[.pointer (some ⟨bx, 0, none⟩)]] w (DocsP s w) := by
  have hb0 : Below w.heap.size w (w.alloc (.cells #[.slice none 0 0, .slice none 0 0] 46)) := balloc (Below.refl _ w) _
  have HL := hid (learn_c (h.below hb0) hsm (hT.bel hb0) 1 (by decide))
  have HD : Hid (∀ W, Below w.heap.size w W → Calls Tryz.prog 33 #[.pointer (some ⟨bx, 0, none⟩)] W (WordsP s W)) := hid fun W hW => docs1_c hs ((hW.block _ (blk_lt hb)).trans hb) (hS.below hW) (hT.bel hW)
  have hbx : (w.alloc (.cells #[.slice none 0 0, .slice none 0 0] 46)).heap[w.heap.size]? = some (.cells #[.slice none 0 0, .slice none 0 0] 46 (0, 0)) := heap_alloc_new w _
  have HBX := hid hbx
  have HB0 := hid hb0
  obtain ⟨a, c, rfl, -⟩ := h
  clear hb hS hT hb0 hbx hsm
  have keep : ∀ W, Below (w.alloc (.cells #[.slice none 0 0, .slice none 0 0] 46)).heap.size (w.alloc (.cells #[.slice none 0 0, .slice none 0 0] 46)) W → W.cell? ⟨w.heap.size, 0, none⟩ = some (.slice none 0 0) ∧ W.cell? ⟨w.heap.size, 1, none⟩ = some (.slice none 0 0) ∧ W.frozen? ⟨w.heap.size, 0, none⟩ = false ∧ W.frozen? ⟨w.heap.size, 1, none⟩ = false ∧ Hid (W.heap[w.heap.size]? = some (.cells #[.slice none 0 0, .slice none 0 0] 46 (0, 0))) := fun W hW => by
    have hg := (hW.block _ (blk_lt HBX.out)).trans HBX.out
    exact ⟨by rw [cell_of_row W _ 0 _ _ _ hg]; rfl, by rw [cell_of_row W _ 1 _ _ _ hg]; rfl, frozen_of_row W _ _ _ _ hg, frozen_of_row W _ _ _ _ hg, hg⟩
  have HK := hid keep
  clear keep
  go_enter Tryz.func32, Tryz.ntmps32
  go_wp2_with (first
    | (go_at_call 19; refine HL.out.mono ?_; rintro e w1 ⟨hb1, ⟨q, hq, rfl⟩ | ⟨h0, M1, hM1, hp1, A1, c1, rfl, hR1⟩⟩ <;> have HB1 := hid hb1 <;> obtain ⟨k0, k1, k2, k3, k4⟩ := HK.out _ hb1 <;> clear hb1)
    | (go_at_call 33; refine (HD.out _ (bthen HB0.out HB1.out)).mono ?_; rintro e w2 ⟨hb2, ⟨q, hq, rfl⟩ | ⟨hv, A2, c2, M, rfl, hm, hM⟩⟩ <;> have HB2 := hid (bthen HB1.out hb2) <;> have HB3 := hid hb2 <;> obtain ⟨k0, k1, k2, k3, k4⟩ := HK.out _ HB2.out <;> clear hb2)
    | (go_at_call 61; refine (clip_c hM).mono ?_; rintro e w3 ⟨rfl, rfl⟩))
  · refine bodyPost_ret (results_ct (fn := Tryz.f32) rfl _ _ w.heap.size _ rfl (load46 (row2_set k4.out _ _))) rfl ?_
    exact ⟨((bthen HB0.out HB1.out).setCell (Nat.le_refl _) _).setCell (Nat.le_refl _) _, .inl ⟨q, hq, rfl⟩⟩
  · refine bodyPost_ret (results_ct (fn := Tryz.f32) rfl _ _ w.heap.size _ rfl (load46 (row2_set k4.out _ _))) rfl ?_
    exact ⟨((bthen HB0.out HB2.out).setCell (Nat.le_refl _) _).setCell (Nat.le_refl _) _, .inl ⟨q, hq, rfl⟩⟩
  · refine bodyPost_ret (results_ct (fn := Tryz.f32) rfl _ _ w.heap.size _ rfl (load46 (row2_set k4.out _ _))) rfl ?_
    obtain ⟨r1, r2, r3⟩ := hM1.rules 1
    exact ⟨((bthen HB0.out HB2.out).setCell (Nat.le_refl _) _).setCell (Nat.le_refl _) _, .inr ⟨hv, A1, c1, makeR M1 1, A2, M.length, M, rfl, ⟨r1, r2, r3, hm⟩, SL.far2 (RuS.below hR1 HB3.out) k4.out (by decide) _ _, SL.far2 (SL.clip hM) k4.out (by decide) _ _⟩⟩
set_option maxRecDepth 100000 in
set_option maxHeartbeats 4000000 in
theorem docs_c {w : World} {v : Value} {L : List (ByteArray × ByteArray)} (h : PrS w v L) (hsm : smallP L) {Al : Option Addr} {cl : Nat} {s : ByteArray} (hs : s.size ≤ 1000) (hS : TtS w (.slice Al 1 cl) [s]) (hT : Tab w) :
    Calls Tryz.prog 13 #[v, .slice Al 1 cl, .int .i64 1] w (DocsP s w) := by
  have hb0 : Below w.heap.size w ((w.alloc (.cells #[.slice Al 1 cl] 40)).alloc (.cells #[.slice none 0 0, .slice none 0 0] 46)) := balloc (balloc (Below.refl _ w) _) _
  have hx0 := al2_0 w (.cells #[.slice Al 1 cl] 40) (.cells #[.slice none 0 0, .slice none 0 0] 46)
  have hx1 := al2_1 w (.cells #[.slice Al 1 cl] 40) (.cells #[.slice none 0 0, .slice none 0 0] 46)
  have HM := hid (made_c32 (h.below hb0) hsm hs hx0 (hS.below hb0) (hT.bel hb0))
  have HX1 := hid hx1
  have HB0 := hid hb0
  obtain ⟨a, c, rfl, -⟩ := h
  clear hS hT hb0 hx0 hx1 hsm
  have keep : ∀ W, Below ((w.alloc (.cells #[.slice Al 1 cl] 40)).alloc (.cells #[.slice none 0 0, .slice none 0 0] 46)).heap.size ((w.alloc (.cells #[.slice Al 1 cl] 40)).alloc (.cells #[.slice none 0 0, .slice none 0 0] 46)) W → W.cell? ⟨w.heap.size + 1, 0, none⟩ = some (.slice none 0 0) ∧ W.cell? ⟨w.heap.size + 1, 1, none⟩ = some (.slice none 0 0) ∧ W.frozen? ⟨w.heap.size + 1, 0, none⟩ = false ∧ W.frozen? ⟨w.heap.size + 1, 1, none⟩ = false ∧ Hid (W.heap[w.heap.size + 1]? = some (.cells #[.slice none 0 0, .slice none 0 0] 46 (0, 0))) := fun W hW => by
    have hg := (hW.block _ (blk_lt HX1.out)).trans HX1.out
    exact ⟨by rw [cell_of_row W _ 0 _ _ _ hg]; rfl, by rw [cell_of_row W _ 1 _ _ _ hg]; rfl, frozen_of_row W _ _ _ _ hg, frozen_of_row W _ _ _ _ hg, hg⟩
  have HK := hid keep
  clear keep
  go_enter Tryz.func13, Tryz.ntmps13
  go_wp2_with (go_at_call 32; refine HM.out.mono ?_; rintro e w1 ⟨hb1, ⟨q, hq, rfl⟩ | ⟨hv, A1, c1, R, A2, c2, M, rfl, hm, hR, hM⟩⟩ <;> have HB1 := hid hb1 <;> obtain ⟨k0, k1, k2, k3, k4⟩ := HK.out _ hb1 <;> clear hb1)
  · refine bodyPost_ret (results_ct (fn := Tryz.f13) rfl _ _ (w.heap.size + 1) _ rfl (load46 (row2_set k4.out _ _))) rfl ?_
    exact ⟨((bthen HB0.out HB1.out).setCell (Nat.le_succ _) _).setCell (Nat.le_succ _) _, .inl ⟨q, hq, rfl⟩⟩
  · refine bodyPost_ret (results_ct (fn := Tryz.f13) rfl _ _ (w.heap.size + 1) _ rfl (load46 (row2_set k4.out _ _))) rfl ?_
    exact ⟨((bthen HB0.out HB1.out).setCell (Nat.le_succ _) _).setCell (Nat.le_succ _) _, .inr ⟨hv, A1, c1, R, A2, c2, M, rfl, hm, SL.far2 hR k4.out (by decide) _ _, SL.far2 hM k4.out (by decide) _ _⟩⟩
end Go.Proofs.YteigplfldhdakaaGreatDoor
/- dawg: a state's key. -/
namespace Go.Proofs.YteigplfldhdakaaGreatDoor
open Go.RowKit Go.Shelf Dw
attribute [local go_sem ↓] Go.wp_at_zero Go.wp_at_succ
def edC (e : Ed) : List Value := [.int .i32 e.1, .int .i64 (e.2 : Int)]
theorem edC_len (e : Ed) : (edC e).length = 2 := rfl
/-- v is a slice of edges: these -/
def EdS (w : World) (v : Value) (L : List Ed) : Prop := SL w 220 2 v L.length (L.flatMap edC)
theorem EdS.below {w W : World} {v : Value} {L : List Ed} (h : EdS w v L) (hb : Below w.heap.size w W) : EdS W v L := SL.keep h fun k hk => hb.block k (SL.lt h k hk)
theorem EdS.at2 {w : World} {A : Option Addr} {c : Nat} {L : List Ed} (h : EdS w (.slice A L.length c) L) {k : Nat} (hk : k < L.length) :
    ∃ g off, A = some ⟨g, off, none⟩ ∧ g < w.heap.size ∧ w.cell? ⟨g, off + k * 2, none⟩ = some (.int .i32 L[k].1) ∧ w.cell? ⟨g, off + k * 2 + 1, none⟩ = some (.int .i64 (L[k].2 : Int)) := by
  obtain ⟨g, off, cap, hv, _, _, _, _⟩ := SL.open_ h (by omega)
  obtain ⟨rfl, -, rfl⟩ := Value.slice.inj hv
  have hc := SL.cellsK (enc := edC) edC_len h k hk
  rw [getElem!_pos L k hk] at hc
  exact ⟨g, off, rfl, SL.lt h g rfl, hc 0 _ rfl, hc 1 _ rfl⟩
theorem info5b : (Tryz.prog.info? 5).map (fun i => (i.zero, i.size, i.bytes)) = some (some (.int .u8 0), 1, 1) := by kernel_rfl
theorem or128 (m : Nat) : bits BinOp.or IntKind.u8 ((m : Int) % 128) 128 = ((m % 128 + 128 : Nat) : Int) := by
  have : ∀ y : Fin 128, bits BinOp.or IntKind.u8 (y.val : Int) 128 = ((y.val + 128 : Nat) : Int) := by decide +kernel
  have h := this ⟨m % 128, Nat.mod_lt _ (by decide)⟩
  rw [show ((m : Int) % 128) = ((m % 128 : Nat) : Int) by omega]
  exact h
/-- one byte more -/
theorem bs_one {w W X w2 : World} {v : Value} {xs : List Int} {x : Int} {A : Option Addr} {c : Nat} (h : BS W v xs) (hX : X = W.alloc (.cells #[.int .u8 x] 5)) (ho : ∀ k, v.ownBlock = some k → w.heap.size ≤ k) (hb : Below w.heap.size w W)
    (hs : SL w2 5 1 (.slice A (xs.length + 1) c) (xs.length + 1) (by8 xs ++ [.int .u8 x])) (hg : X.grownBy w2 v.ownBlock) (ho2 : ∀ k, (Value.slice A (xs.length + 1) c).ownBlock = some k → v.ownBlock = some k ∨ X.heap.size ≤ k) :
    BS w2 (.slice A (xs ++ [x]).length c) (xs ++ [x]) ∧ (∀ k, (Value.slice A (xs ++ [x]).length c).ownBlock = some k → w.heap.size ≤ k) ∧ Below w.heap.size w w2 ∧ Touch (fun k => v.ownBlock = some k) W w2 := by
  subst hX
  have hl : (xs ++ [x]).length = xs.length + 1 := by simp
  have h1 := hb.size
  refine ⟨?_, fun k hk => ?_, (balloc hb _).grown hg (by rw [World.size_alloc]; omega) fun k hk => ho k hk, ((Touch.refl _ W).alloc _).grown hg fun k hk => .inl hk⟩
  · unfold BS
    rw [hl, by8_append]
    exact hs
  · rw [hl] at hk
    rcases ho2 k hk with h2 | h2
    · exact ho k h2
    · rw [World.size_alloc] at h2; omega
set_option maxRecDepth 100000 in
set_option maxHeartbeats 8000000 in
theorem key_c {w : World} {v : Value} {L : List Ed} {b : Bool} {n : Int} (h : EdS w v L) (hok : ∀ e ∈ L, okU e.1) (hto : ∀ e ∈ L, e.2 < 1000000000) (hl : L.length ≤ 4500000) :
    Calls Tryz.prog 165 #[.agg #[v, .bool b, .int .i64 n]] w fun e w' => e = .returned (.string (strOfNums (keyZ (L, b)))) ∧ Below w.heap.size w w' := by
  obtain ⟨A, c, rfl, hc⟩ := SL.form h
  have HS := hid h
  have HOK := hid hok
  have HTO := hid hto
  clear h hok hto
  obtain ⟨i0, hi, hz0, hz1, hz2⟩ := info_parts info5b
  go_enter Tryz.func165, Tryz.ntmps165
  cases b
  · go_wp2
    obtain ⟨W0, hW0⟩ : ∃ W0, (w.alloc (.cells #[.slice A L.length c, .bool false, .int .i64 n] 160)).alloc (.cells #[.int .u8 45] 5) = W0 := ⟨_, rfl⟩
    rw [hW0]
    have hbs0 : Below w.heap.size w W0 := by rw [← hW0]; exact balloc (balloc (Below.refl _ w) _) _
    have HB0 := hid hbs0
    have HX0 : Hid (BS W0 (.slice (some ⟨w.heap.size + 1, 0, none⟩) 1 1) [45]) := hid (by rw [← hW0]; have := SL.lit (w.alloc (.cells #[.slice A L.length c, .bool false, .int .i64 n] 160)) 5 1 1 #[.int .u8 45] rfl (by simp [maxLen]); rw [World.size_alloc] at this; exact this)
    clear hbs0 hW0
    go_loopw [3, 6, 15] (fun bv nv iv wr => ∃ (k : Nat) (A1 : Option Addr) (c1 : Nat) (xs : List Int), k ≤ L.length ∧ iv = .int .i64 (k : Int) ∧ bv = .slice A1 xs.length c1 ∧ xs.length ≤ k * 20 + 1 ∧ Hid (xs = 45 :: (L.take k).flatMap edgeK) ∧ Hid (BS wr (.slice A1 xs.length c1) xs) ∧ Hid (∀ b, (Value.slice A1 xs.length c1).ownBlock = some b → w.heap.size ≤ b) ∧ Hid (Below w.heap.size w wr)) (fun _ _ iv _ => L.length - (intOf iv).toNat)
    case atStart => exact ⟨0, _, 1, [45], Nat.zero_le _, rfl, rfl, by simp, hid rfl, HX0, hid (fun b hb => by have : w.heap.size + 1 = b := Option.some.inj hb; omega), HB0⟩
    case round =>
      obtain ⟨k, A1, c1, xs, hk, rfl, rfl, hxl, HXE, HX, HO, HB⟩ := hrel
      by_cases hkl : k < L.length
      · have hkl2 : (k : Int) < (L.length : Int) := by omega
        obtain ⟨g, off, hA, hgl, k0, k1⟩ := EdS.at2 (HS.out.below HB.out) hkl
        subst hA
        have htk : L.take (k + 1) = L.take k ++ [L[k]] := by rw [List.take_add_one, List.getElem?_eq_getElem hkl]; rfl
        have hro := HOK.out _ (List.getElem_mem hkl)
        have hto := HTO.out _ (List.getElem_mem hkl)
        obtain ⟨x, hx⟩ : ∃ x, L[k] = x := ⟨_, rfl⟩
        rw [hx] at k0 k1 htk hro hto
        obtain ⟨r, tt⟩ := x
        dsimp only at k0 k1 hro hto
        unfold okU at hro
        have HTK : Hid (45 :: (L.take (k + 1)).flatMap edgeK = xs ++ (Lib.encodeRuneZ r ++ (digs tt ++ [0]))) := hid (by rw [htk, List.flatMap_append, HXE.out, List.cons_append]; simp [edgeK])
        have hbx0 := heap_alloc_new wr (.cells #[.int .i32 r, .int .i64 (tt : Int)] 220)
        have HBX := hid hbx0
        have HXa := hid (HX.out.alloc (.cells #[.int .i32 r, .int .i64 (tt : Int)] 220))
        have henc := Lib.encodeRuneZ_length r
        clear htk hx hbx0
        go_wp2_with (go_at_call 181; refine (ar_c r (by omega) (by omega) HXa.out (by omega)).mono ?_; rintro e W2 ⟨A2, c2, zs, hz, rfl, hs2, ho2, ht2⟩; have hg2 : W2.heap[wr.heap.size]? = some (.cells #[.int .i32 r, .int .i64 (tt : Int)] 220 (0, 0)) := (ht2.block _ (by rw [World.size_alloc]; omega) (fun h => by have := HX.out.lt _ h; omega)).trans HBX.out; have p1 : W2.cell? ⟨wr.heap.size, 1, none⟩ = some (.int .i64 (tt : Int)) := (by rw [cell_of_row W2 _ 1 _ _ _ hg2]; rfl); have HZL : Hid (zs.length = xs.length + (Lib.encodeRuneZ r).length) := hid (by rw [hz, List.length_append]); have HZ := hid hz; have HS2 := hid hs2; have HB2 := hid (ht2.below (balloc HB.out _) HO.out); have HO2 : Hid (∀ b, (Value.slice A2 zs.length c2).ownBlock = some b → w.heap.size ≤ b) := hid (fun b hb => by rcases ho2 b hb with h1 | h1; exact HO.out b h1; exact Nat.le_trans (balloc HB.out _).size h1); clear hz hs2 ho2 ht2 hg2)
        go_loopw [3, 6] (fun bv nv wr => ∃ (m : Nat) (A3 : Option Addr) (c3 : Nat) (ys : List Int), nv = .int .i64 (m : Int) ∧ bv = .slice A3 ys.length c3 ∧ m < 1000000000 ∧ Hid (ys ++ digs m = zs ++ digs tt) ∧ Hid (BS wr (.slice A3 ys.length c3) ys) ∧ Hid (∀ b, (Value.slice A3 ys.length c3).ownBlock = some b → w.heap.size ≤ b) ∧ Hid (Below w.heap.size w wr)) (fun _ nv _ => (intOf nv).toNat)
        case atStart => exact ⟨tt, A2, c2, zs, rfl, rfl, hto, hid rfl, HS2, HO2, HB2⟩
        case round =>
          obtain ⟨m, A3, c3, ys, rfl, rfl, hm, HYE, HY, HO3, HB3⟩ := hrel
          clear HX HXa HBX
          have hyl : ys.length ≤ k * 20 + 1 + 4 + 9 := by
            have h1 := congrArg List.length HYE.out
            rw [List.length_append, List.length_append] at h1
            have h2 := digs_len tt (by omega)
            have h3 := HZL.out
            omega
          have hor := or128 m
          obtain ⟨d, hd⟩ : ∃ d, m % 128 + 128 = d := ⟨_, rfl⟩
          rw [hd] at hor
          have HD := hid hd
          have hone : ∀ u ∈ [Value.int .u8 (d : Int)], u.oneCell' = true := by simp [Value.oneCell']
          have hone0 : ∀ u ∈ [Value.int .u8 0], u.oneCell' = true := by simp [Value.oneCell']
          have h63 : ys.length + 1 ≤ maxLen := by simp only [maxLen]; omega
          have hby : (ys.length + 1) * 1 ≤ 140737488355328 := by omega
          have h63b : ys.length + 1 + 1 ≤ maxLen := by simp only [maxLen]; omega
          have hbyb : (ys.length + 1 + 1) * 1 ≤ 140737488355328 := by omega
          have HLEN : Hid ((ys ++ [(d : Int)]).length = ys.length + 1) := hid (by simp)
          have HYa := hid (HY.out.alloc (.cells #[.int .u8 (d : Int)] 5))
          have HLa := hid (SL.lit wr 5 1 1 #[.int .u8 (d : Int)] rfl (by simp [maxLen]))
          clear hd
          by_cases hm2 : m < 128
          · have hm3 : (m : Int) < 128 := by omega
            have HYE2 : Hid (45 :: (L.take (k + 1)).flatMap edgeK = ys ++ [(d : Int)] ++ [0]) := hid (by
              have h1 := HYE.out
              rw [digs_lt hm2, show m + 128 = d by have := HD.out; omega] at h1
              rw [HTK.out, h1, HZ.out]
              simp)
            go_wp2_with (first
              | (have _h := HY4; at_builtin; refine wpList_append_SLs rfl _ _ _ rfl 5 i0 _ 1 1 Tryz.underlying119 hi hz0 hz1 hz2 rfl (by decide) (.slice A4 (ys.length + 1) c4) (ys.length + 1) (by8 (ys ++ [(d : Int)])) rfl HY4a.out _ 1 _ rfl HL4.out hone0 (ys.length + 1 + 1) _ rfl rfl h63b hbyb ?_; intro A5 c5 w5 hs5 hg5 ho5; rw [← HLEN.out] at hs5 ho5 hg5; obtain ⟨q1, q2, q3, -⟩ := bs_one HY4.out rfl HO4.out HB4.out hs5 hg5 ho5; have HY5 := hid q1; have HO5 := hid q2; have HB5 := hid q3; clear hs5 hg5 ho5 q1 q2 q3 HY4 HY4a HL4)
              | (at_builtin; refine wpList_append_SLs rfl _ _ _ rfl 5 i0 _ 1 1 Tryz.underlying119 hi hz0 hz1 hz2 rfl (by decide) (.slice A3 ys.length c3) ys.length (by8 ys) rfl HYa.out _ 1 _ rfl HLa.out hone (ys.length + 1) _ rfl rfl h63 hby ?_; intro A4 c4 w4 hs4 hg4 ho4; obtain ⟨q1, q2, q3, -⟩ := bs_one HY.out rfl HO3.out HB3.out hs4 hg4 ho4; have HY4 := hid q1; have HO4 := hid q2; have HB4 := hid q3; have HY4a : Hid (SL (w4.alloc (.cells #[.int .u8 0] 5)) 5 1 (.slice A4 (ys.length + 1) c4) (ys.length + 1) (by8 (ys ++ [(d : Int)]))) := hid (by have h9 := q1.alloc (.cells #[.int .u8 0] 5); unfold BS at h9; rw [List.length_append, List.length_singleton] at h9; exact h9); have HL4 := hid (SL.lit w4 5 1 1 #[.int .u8 0] rfl (by simp [maxLen])); clear hs4 hg4 ho4 q1 q2 q3))
            exact ⟨⟨k + 1, A5, c5, ys ++ [(d : Int)] ++ [0], by omega, by simp, by simp, by simp; omega, hid HYE2.out.symm, HY5, HO5, HB5⟩, by simp [intOf]; omega⟩
          · have hm3 : ¬ (m : Int) < 128 := by omega
            have hq : IntKind.i64.wrap ((m : Int).tdiv 128) = ((m / 128 : Nat) : Int) := by rw [Int.tdiv_eq_ediv_of_nonneg (by omega), IntKind.wrap_i64]; omega
            have HYE2 : Hid (ys ++ [(d : Int)] ++ digs (m / 128) = zs ++ digs tt) := hid (by
              have h1 := HYE.out
              rw [digs_ge hm2, HD.out] at h1
              rw [← h1]
              simp)
            go_wp2_with (at_builtin; refine wpList_append_SLs rfl _ _ _ rfl 5 i0 _ 1 1 Tryz.underlying119 hi hz0 hz1 hz2 rfl (by decide) (.slice A3 ys.length c3) ys.length (by8 ys) rfl HYa.out _ 1 _ rfl HLa.out hone (ys.length + 1) _ rfl rfl h63 hby ?_; intro A4 c4 w4 hs4 hg4 ho4; obtain ⟨q1, q2, q3, -⟩ := bs_one HY.out rfl HO3.out HB3.out hs4 hg4 ho4; have HY4 := hid q1; have HO4 := hid q2; have HB4 := hid q3; clear hs4 hg4 ho4 q1 q2 q3)
            exact ⟨⟨m / 128, A4, c4, ys ++ [(d : Int)], by simp, by simp, by omega, HYE2, HY4, HO4, HB4⟩, by simp [intOf]; omega⟩
      · obtain rfl : k = L.length := by omega
        have hkl2 : ¬ (L.length : Int) < (L.length : Int) := by omega
        rw [List.take_length] at HXE
        have hca : ∀ n, (convert 119 9 (.slice A1 xs.length c1)).run Tryz.prog (wr.drewN n) = .ok (.string (strOfNums xs)) (wr.drewN n) := fun n => run_convert_SR 119 5 9 Tryz.underlying119 Tryz.underlying5 Tryz.underlying9 (HX.out.drewN n).rb
        have hca0 := hca 0
        rw [show wr.drewN 0 = wr from rfl] at hca0
        go_wp2
        go_ret
        exact ⟨by rw [show keyZ (L, false) = xs by rw [HXE.out]; rfl]; rfl, HB.out⟩
  · go_wp2
    obtain ⟨W0, hW0⟩ : ∃ W0, (w.alloc (.cells #[.slice A L.length c, .bool true, .int .i64 n] 160)).alloc (.cells #[.int .u8 43] 5) = W0 := ⟨_, rfl⟩
    rw [hW0]
    have hbs0 : Below w.heap.size w W0 := by rw [← hW0]; exact balloc (balloc (Below.refl _ w) _) _
    have HB0 := hid hbs0
    have HX0 : Hid (BS W0 (.slice (some ⟨w.heap.size + 1, 0, none⟩) 1 1) [43]) := hid (by rw [← hW0]; have := SL.lit (w.alloc (.cells #[.slice A L.length c, .bool true, .int .i64 n] 160)) 5 1 1 #[.int .u8 43] rfl (by simp [maxLen]); rw [World.size_alloc] at this; exact this)
    clear hbs0 hW0
    go_loopw [3, 6, 15] (fun bv nv iv wr => ∃ (k : Nat) (A1 : Option Addr) (c1 : Nat) (xs : List Int), k ≤ L.length ∧ iv = .int .i64 (k : Int) ∧ bv = .slice A1 xs.length c1 ∧ xs.length ≤ k * 20 + 1 ∧ Hid (xs = 43 :: (L.take k).flatMap edgeK) ∧ Hid (BS wr (.slice A1 xs.length c1) xs) ∧ Hid (∀ b, (Value.slice A1 xs.length c1).ownBlock = some b → w.heap.size ≤ b) ∧ Hid (Below w.heap.size w wr)) (fun _ _ iv _ => L.length - (intOf iv).toNat)
    case atStart => exact ⟨0, _, 1, [43], Nat.zero_le _, rfl, rfl, by simp, hid rfl, HX0, hid (fun b hb => by have : w.heap.size + 1 = b := Option.some.inj hb; omega), HB0⟩
    case round =>
      obtain ⟨k, A1, c1, xs, hk, rfl, rfl, hxl, HXE, HX, HO, HB⟩ := hrel
      by_cases hkl : k < L.length
      · have hkl2 : (k : Int) < (L.length : Int) := by omega
        obtain ⟨g, off, hA, hgl, k0, k1⟩ := EdS.at2 (HS.out.below HB.out) hkl
        subst hA
        have htk : L.take (k + 1) = L.take k ++ [L[k]] := by rw [List.take_add_one, List.getElem?_eq_getElem hkl]; rfl
        have hro := HOK.out _ (List.getElem_mem hkl)
        have hto := HTO.out _ (List.getElem_mem hkl)
        obtain ⟨x, hx⟩ : ∃ x, L[k] = x := ⟨_, rfl⟩
        rw [hx] at k0 k1 htk hro hto
        obtain ⟨r, tt⟩ := x
        dsimp only at k0 k1 hro hto
        unfold okU at hro
        have HTK : Hid (43 :: (L.take (k + 1)).flatMap edgeK = xs ++ (Lib.encodeRuneZ r ++ (digs tt ++ [0]))) := hid (by rw [htk, List.flatMap_append, HXE.out, List.cons_append]; simp [edgeK])
        have hbx0 := heap_alloc_new wr (.cells #[.int .i32 r, .int .i64 (tt : Int)] 220)
        have HBX := hid hbx0
        have HXa := hid (HX.out.alloc (.cells #[.int .i32 r, .int .i64 (tt : Int)] 220))
        have henc := Lib.encodeRuneZ_length r
        clear htk hx hbx0
        go_wp2_with (go_at_call 181; refine (ar_c r (by omega) (by omega) HXa.out (by omega)).mono ?_; rintro e W2 ⟨A2, c2, zs, hz, rfl, hs2, ho2, ht2⟩; have hg2 : W2.heap[wr.heap.size]? = some (.cells #[.int .i32 r, .int .i64 (tt : Int)] 220 (0, 0)) := (ht2.block _ (by rw [World.size_alloc]; omega) (fun h => by have := HX.out.lt _ h; omega)).trans HBX.out; have p1 : W2.cell? ⟨wr.heap.size, 1, none⟩ = some (.int .i64 (tt : Int)) := (by rw [cell_of_row W2 _ 1 _ _ _ hg2]; rfl); have HZL : Hid (zs.length = xs.length + (Lib.encodeRuneZ r).length) := hid (by rw [hz, List.length_append]); have HZ := hid hz; have HS2 := hid hs2; have HB2 := hid (ht2.below (balloc HB.out _) HO.out); have HO2 : Hid (∀ b, (Value.slice A2 zs.length c2).ownBlock = some b → w.heap.size ≤ b) := hid (fun b hb => by rcases ho2 b hb with h1 | h1; exact HO.out b h1; exact Nat.le_trans (balloc HB.out _).size h1); clear hz hs2 ho2 ht2 hg2)
        go_loopw [3, 6] (fun bv nv wr => ∃ (m : Nat) (A3 : Option Addr) (c3 : Nat) (ys : List Int), nv = .int .i64 (m : Int) ∧ bv = .slice A3 ys.length c3 ∧ m < 1000000000 ∧ Hid (ys ++ digs m = zs ++ digs tt) ∧ Hid (BS wr (.slice A3 ys.length c3) ys) ∧ Hid (∀ b, (Value.slice A3 ys.length c3).ownBlock = some b → w.heap.size ≤ b) ∧ Hid (Below w.heap.size w wr)) (fun _ nv _ => (intOf nv).toNat)
        case atStart => exact ⟨tt, A2, c2, zs, rfl, rfl, hto, hid rfl, HS2, HO2, HB2⟩
        case round =>
          obtain ⟨m, A3, c3, ys, rfl, rfl, hm, HYE, HY, HO3, HB3⟩ := hrel
          clear HX HXa HBX
          have hyl : ys.length ≤ k * 20 + 1 + 4 + 9 := by
            have h1 := congrArg List.length HYE.out
            rw [List.length_append, List.length_append] at h1
            have h2 := digs_len tt (by omega)
            have h3 := HZL.out
            omega
          have hor := or128 m
          obtain ⟨d, hd⟩ : ∃ d, m % 128 + 128 = d := ⟨_, rfl⟩
          rw [hd] at hor
          have HD := hid hd
          have hone : ∀ u ∈ [Value.int .u8 (d : Int)], u.oneCell' = true := by simp [Value.oneCell']
          have hone0 : ∀ u ∈ [Value.int .u8 0], u.oneCell' = true := by simp [Value.oneCell']
          have h63 : ys.length + 1 ≤ maxLen := by simp only [maxLen]; omega
          have hby : (ys.length + 1) * 1 ≤ 140737488355328 := by omega
          have h63b : ys.length + 1 + 1 ≤ maxLen := by simp only [maxLen]; omega
          have hbyb : (ys.length + 1 + 1) * 1 ≤ 140737488355328 := by omega
          have HLEN : Hid ((ys ++ [(d : Int)]).length = ys.length + 1) := hid (by simp)
          have HYa := hid (HY.out.alloc (.cells #[.int .u8 (d : Int)] 5))
          have HLa := hid (SL.lit wr 5 1 1 #[.int .u8 (d : Int)] rfl (by simp [maxLen]))
          clear hd
          by_cases hm2 : m < 128
          · have hm3 : (m : Int) < 128 := by omega
            have HYE2 : Hid (43 :: (L.take (k + 1)).flatMap edgeK = ys ++ [(d : Int)] ++ [0]) := hid (by
              have h1 := HYE.out
              rw [digs_lt hm2, show m + 128 = d by have := HD.out; omega] at h1
              rw [HTK.out, h1, HZ.out]
              simp)
            go_wp2_with (first
              | (have _h := HY4; at_builtin; refine wpList_append_SLs rfl _ _ _ rfl 5 i0 _ 1 1 Tryz.underlying119 hi hz0 hz1 hz2 rfl (by decide) (.slice A4 (ys.length + 1) c4) (ys.length + 1) (by8 (ys ++ [(d : Int)])) rfl HY4a.out _ 1 _ rfl HL4.out hone0 (ys.length + 1 + 1) _ rfl rfl h63b hbyb ?_; intro A5 c5 w5 hs5 hg5 ho5; rw [← HLEN.out] at hs5 ho5 hg5; obtain ⟨q1, q2, q3, -⟩ := bs_one HY4.out rfl HO4.out HB4.out hs5 hg5 ho5; have HY5 := hid q1; have HO5 := hid q2; have HB5 := hid q3; clear hs5 hg5 ho5 q1 q2 q3 HY4 HY4a HL4)
              | (at_builtin; refine wpList_append_SLs rfl _ _ _ rfl 5 i0 _ 1 1 Tryz.underlying119 hi hz0 hz1 hz2 rfl (by decide) (.slice A3 ys.length c3) ys.length (by8 ys) rfl HYa.out _ 1 _ rfl HLa.out hone (ys.length + 1) _ rfl rfl h63 hby ?_; intro A4 c4 w4 hs4 hg4 ho4; obtain ⟨q1, q2, q3, -⟩ := bs_one HY.out rfl HO3.out HB3.out hs4 hg4 ho4; have HY4 := hid q1; have HO4 := hid q2; have HB4 := hid q3; have HY4a : Hid (SL (w4.alloc (.cells #[.int .u8 0] 5)) 5 1 (.slice A4 (ys.length + 1) c4) (ys.length + 1) (by8 (ys ++ [(d : Int)]))) := hid (by have h9 := q1.alloc (.cells #[.int .u8 0] 5); unfold BS at h9; rw [List.length_append, List.length_singleton] at h9; exact h9); have HL4 := hid (SL.lit w4 5 1 1 #[.int .u8 0] rfl (by simp [maxLen])); clear hs4 hg4 ho4 q1 q2 q3))
            exact ⟨⟨k + 1, A5, c5, ys ++ [(d : Int)] ++ [0], by omega, by simp, by simp, by simp; omega, hid HYE2.out.symm, HY5, HO5, HB5⟩, by simp [intOf]; omega⟩
          · have hm3 : ¬ (m : Int) < 128 := by omega
            have hq : IntKind.i64.wrap ((m : Int).tdiv 128) = ((m / 128 : Nat) : Int) := by rw [Int.tdiv_eq_ediv_of_nonneg (by omega), IntKind.wrap_i64]; omega
            have HYE2 : Hid (ys ++ [(d : Int)] ++ digs (m / 128) = zs ++ digs tt) := hid (by
              have h1 := HYE.out
              rw [digs_ge hm2, HD.out] at h1
              rw [← h1]
              simp)
            go_wp2_with (at_builtin; refine wpList_append_SLs rfl _ _ _ rfl 5 i0 _ 1 1 Tryz.underlying119 hi hz0 hz1 hz2 rfl (by decide) (.slice A3 ys.length c3) ys.length (by8 ys) rfl HYa.out _ 1 _ rfl HLa.out hone (ys.length + 1) _ rfl rfl h63 hby ?_; intro A4 c4 w4 hs4 hg4 ho4; obtain ⟨q1, q2, q3, -⟩ := bs_one HY.out rfl HO3.out HB3.out hs4 hg4 ho4; have HY4 := hid q1; have HO4 := hid q2; have HB4 := hid q3; clear hs4 hg4 ho4 q1 q2 q3)
            exact ⟨⟨m / 128, A4, c4, ys ++ [(d : Int)], by simp, by simp, by omega, HYE2, HY4, HO4, HB4⟩, by simp [intOf]; omega⟩
      · obtain rfl : k = L.length := by omega
        have hkl2 : ¬ (L.length : Int) < (L.length : Int) := by omega
        rw [List.take_length] at HXE
        have hca : ∀ n, (convert 119 9 (.slice A1 xs.length c1)).run Tryz.prog (wr.drewN n) = .ok (.string (strOfNums xs)) (wr.drewN n) := fun n => run_convert_SR 119 5 9 Tryz.underlying119 Tryz.underlying5 Tryz.underlying9 (HX.out.drewN n).rb
        have hca0 := hca 0
        rw [show wr.drewN 0 = wr from rfl] at hca0
        go_wp2
        go_ret
        exact ⟨by rw [show keyZ (L, true) = xs by rw [HXE.out]; rfl]; rfl, HB.out⟩
end Go.Proofs.YteigplfldhdakaaGreatDoor
