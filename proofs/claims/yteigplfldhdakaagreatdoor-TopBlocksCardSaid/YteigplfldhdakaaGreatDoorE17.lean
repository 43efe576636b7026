/- Such a map's entries in turn, whatever the order. -/
import Derived.Test.YteigplfldhdakaaGreatDoorE14
import Derived.Test.YteigplfldhdakaaGreatDoorE16
import Derived.Test.YteigplfldhdakaaGreatDoorE13
set_option linter.unusedVariables false
set_option linter.unusedSimpArgs false
namespace Go.Proofs.YteigplfldhdakaaGreatDoor
open Go Go.RowKit Go.Proofs.YteigplfldhdakaaGreatDoor.Ev
def MIt (W : World) (It Bm n : Nat) (seen : List Nat) : Prop := W.heap[It]? = some (.mapIter (some Bm) n seen.toArray n)
def entB (b : Blk) : Ent := ((true, [.str b.1.data.toList, .str b.2.1.data.toList]), (false, [.f (.int .i64 b.2.2)]))
theorem ents_rel (γ : Pl) : ∀ (T : List Blk) (n : Nat), entsR γ n (T.map entB) (entsF n T)
  | [], n => trivial
  | b :: r, n => ⟨⟨rfl, ⟨_, rfl, rfl⟩, rfl⟩, ents_rel γ r (n + 1)⟩
theorem ents_eq {γ : Pl} : ∀ {T : List Blk} {n : Nat} {cs : List MapEntry}, entsR γ n (T.map entB) cs → cs = entsF n T
  | [], n, [], _ => rfl
  | b :: r, n, c :: cs, h => by
    have h2 := ents_eq h.2
    obtain ⟨⟨h3, ⟨x, hx, h4⟩, h5⟩, _⟩ := h
    obtain ⟨ck, cv, cb⟩ := c
    cases hx
    have h4 : cv = .int .i64 b.2.2 := h4
    have h3 : ck = twoS b.1 b.2.1 := h3
    have h5 : cb = n := h5
    rw [entsF, h2, h3, h4, h5]
    rfl
  | [], n, _ :: _, h => h.elim
  | _ :: _, n, [], h => h.elim
def pl2 (It Bm : Nat) : Pl := fun k => if k = 0 then some (It, 0, 0) else if k = 1 then some (Bm, 0, 0) else none
def as2 (T : List Blk) (seen : List Nat) : AS := ⟨[(0, .mit 1 T.length seen T.length), (1, .map (T.map entB))], 2⟩
theorem hr2 {W : World} {It Bm : Nat} {T : List Blk} {seen : List Nat} (hM : MapAt W Bm T) (hI : MIt W It Bm T.length seen) (hne : It ≠ Bm) : HR (pl2 It Bm) (as2 T seen) W := by
  refine ⟨fun b o hb => ?_, by simp [as2], fun b b' x y h1 h2 h3 h4 h5 => ?_, fun k hk => ?_⟩
  · rcases List.mem_cons.1 hb with h | h
    · cases h
      exact ⟨It, 0, 0, Bm, 0, 0, rfl, rfl, rfl, hI⟩
    · rcases List.mem_cons.1 h with h | h
      · cases h
        refine ⟨Bm, 0, 0, (entsF 0 T).toArray, rfl, ?_, ents_rel _ T 0⟩
        rw [List.length_map]
        exact hM
      · cases h
  · have hk : ∀ b, b ∈ (as2 T seen).H.map (·.1) → b = 0 ∨ b = 1 := fun b hb => by simpa [as2] using hb
    rcases hk b h1 with rfl | rfl <;> rcases hk b' h2 with rfl | rfl
    · exact absurd rfl h3
    · cases h4; cases h5; exact hne
    · cases h4; cases h5; exact fun e => hne e.symm
    · exact absurd rfl h3
  · have hk : 2 ≤ k := hk
    unfold pl2
    rw [if_neg (by omega), if_neg (by omega)]
/-- what a step leaves alone -/
structure StepK (It Bm : Nat) (T : List Blk) (W w' : World) : Prop where
  same : w'.os = W.os ∧ w'.tape = W.tape ∧ w'.output = W.output
  size : W.heap.size ≤ w'.heap.size
  keep : ∀ k, k < W.heap.size → k ≠ It → k ≠ Bm → w'.heap[k]? = W.heap[k]?
  map : MapAt w' Bm T
theorem next_m {W : World} {It Bm : Nat} {T : List Blk} {seen : List Nat} (hM : MapAt W Bm T) (hI : MIt W It Bm T.length seen) (hne : It ≠ Bm) (ty : Nat) :
    ∃ u w', (Instr.next (.pointer (some ⟨It, 0, none⟩)) false ty).run Tryz.prog W = .ok u w' ∧ StepK It Bm T W w' ∧
      (((∀ i, i < T.length → i ∈ seen) ∧ u = .tuple #[.bool false] ∧ MIt w' It Bm T.length seen) ∨
       (∃ (i : Nat) (hi : i < T.length), i ∉ seen ∧ u = .tuple #[.bool true, twoS T[i].1 T[i].2.1, .int .i64 T[i].2.2] ∧ MIt w' It Bm T.length (seen ++ [i]))) := by
  have hH := hr2 hM hI hne
  have hkf : keysFit (as2 T seen) (.sc (.pt 0 0)) = true := by
    show (T.map entB).all (fun e => keyFit e.1) = true
    rw [List.all_map]
    exact List.all_eq_true.2 fun b _ => rfl
  have hpos : ∃ outs, nextA (as2 T seen) (.sc (.pt 0 0)) = some outs ∧ ∀ v s', (v, s') ∈ outs → (leftA T.length seen = [] ∧ v = .tu [(false, [.f (.bool false)])] ∧ s' = as2 T seen) ∨
      (∃ (i : Nat) (hi : i < T.length), i ∈ leftA T.length seen ∧ v = .tu [(false, [.f (.bool true)]), keyE (entB T[i]).1, (entB T[i]).2] ∧ s' = as2 T (seen ++ [i])) := by
    unfold nextA
    simp only [as2, fnd, beq_self_eq_true, if_true, show ((0 : Nat) == 1) = false from rfl, Bool.false_eq_true, if_false, List.length_map, and_self]
    cases hq : leftA T.length seen with
    | nil => exact ⟨_, rfl, fun v s' h => by
        rcases List.mem_cons.1 h with h | h
        · cases h; exact .inl ⟨rfl, rfl, rfl⟩
        · cases h⟩
    | cons a r =>
      refine ⟨_, rfl, fun v s' h => ?_⟩
      obtain ⟨i, hi, he⟩ := List.mem_filterMap.1 h
      rw [List.getElem?_map] at he
      by_cases hil : i < T.length
      · rw [List.getElem?_eq_getElem hil] at he
        simp only [Option.map_some] at he
        rw [if_pos (show keyFit (entB T[i]).1 = true from rfl)] at he
        cases he
        exact .inr ⟨i, hil, hi, rfl, rfl⟩
      · rw [List.getElem?_eq_none (by omega)] at he
        cases he
  obtain ⟨outs, ho, hall⟩ := hpos
  obtain ⟨v, s', u, w', h1, h2, h3⟩ := next_ok (P := Tryz.prog) (ty := ty) (u := .pointer (some ⟨It, 0, none⟩)) hH (x := .sc (.pt 0 0)) ⟨It, 0, 0, rfl, rfl⟩ hkf ho
  obtain ⟨γ', k1, k2, k3⟩ := h3
  have g0 : γ' 0 = some (It, 0, 0) := k2.sub 0 _ rfl
  have g1 : γ' 1 = some (Bm, 0, 0) := k2.sub 1 _ rfl
  have hkeep : ∀ k, k < W.heap.size → k ≠ It → k ≠ Bm → w'.heap[k]? = W.heap[k]? := fun k hk h4 h5 => k2.keep k hk fun ⟨q, d, z, q1, q2⟩ => by
    have : q = 0 ∨ q = 1 := by simpa [as2] using q1
    rcases this with rfl | rfl
    · cases q2; exact h4 rfl
    · cases q2; exact h5 rfl
  have hst : ∀ seen', s' = as2 T seen' → StepK It Bm T W w' ∧ MIt w' It Bm T.length seen' := fun seen' e => by
    subst e
    obtain ⟨B, d, S, M, d', S', q1, q2, q3, q4⟩ := k1.obj 0 (.mit 1 T.length seen' T.length) (List.mem_cons_self ..)
    rw [g0] at q1
    rw [g1] at q2
    cases q1
    cases q2
    obtain ⟨B, d, S, es, p1, p2, p3⟩ := k1.obj 1 (.map (T.map entB)) (List.mem_cons_of_mem _ (List.mem_cons_self ..))
    rw [g1] at p1
    cases p1
    have e2 := ents_eq p3
    refine ⟨⟨k2.same, k2.size, hkeep, ?_⟩, q4⟩
    unfold MapAt
    rw [p2, List.length_map]
    congr 2
    rw [← e2]
  refine ⟨u, w', h2, ?_⟩
  rcases hall v s' h1 with ⟨hl, rfl, rfl⟩ | ⟨i, hi, him, rfl, rfl⟩
  · obtain ⟨c1, c2⟩ := hst seen rfl
    refine ⟨c1, .inl ⟨fun i hi => ?_, ?_, c2⟩⟩
    · by_cases hs : i ∈ seen
      · exact hs
      · exfalso
        have : i ∈ leftA T.length seen := by
          unfold leftA
          rw [List.mem_filter]
          exact ⟨by simpa using hi, by simpa using hs⟩
        rw [hl] at this
        cases this
    · obtain ⟨us, rfl, hr⟩ := k3
      match us, hr with
      | [u0], hr =>
        obtain ⟨x, hx, h4⟩ := hr.1
        cases hx
        have h4 : u0 = .bool false := h4
        rw [h4]
      | [], hr => exact hr.elim
      | _ :: _ :: _, hr => exact hr.2.elim
  · obtain ⟨c1, c2⟩ := hst (seen ++ [i]) rfl
    refine ⟨c1, .inr ⟨i, hi, ?_, ?_, c2⟩⟩
    · unfold leftA at him
      rw [List.mem_filter] at him
      simpa using him.2
    · obtain ⟨us, rfl, hr⟩ := k3
      match us, hr with
      | [u0, u1, u2], hr =>
        obtain ⟨x, hx, h4⟩ := hr.1
        cases hx
        obtain ⟨ks, rfl, hks⟩ := hr.2.1
        obtain ⟨y, hy, h6⟩ := hr.2.2.1
        cases hy
        have h4 : u0 = .bool true := h4
        have h6 : u2 = .int .i64 T[i].2.2 := h6
        match ks, hks with
        | [a, b], hks =>
          have e1 : a = .string T[i].1 := hks.1
          have e2 : b = .string T[i].2.1 := hks.2.1
          rw [h4, h6, e1, e2]
          rfl
        | [], hks => exact hks.elim
        | [_], hks => exact hks.2.elim
        | _ :: _ :: _ :: _, hks => exact hks.2.2.elim
      | [], hr => exact hr.elim
      | [_], hr => exact hr.2.elim
      | [_, _], hr => exact hr.2.2.elim
      | _ :: _ :: _ :: _ :: _, hr => exact hr.2.2.2.elim
theorem entry_m {W : World} {It Bm : Nat} {T : List Blk} {seen : List Nat} {i : Nat} (hM : MapAt W Bm T) (hI : MIt W It Bm T.length (seen ++ [i])) (hne : It ≠ Bm) (hi : i < T.length) :
    (Instr.entry (.pointer (some ⟨It, 0, none⟩))).run Tryz.prog W = .ok (.tuple #[twoS T[i].1 T[i].2.1, .int .i64 T[i].2.2]) W := by
  have hH := hr2 hM hI hne
  have he : entryA (as2 T (seen ++ [i])) (.sc (.pt 0 0)) = some (.tu [keyE (entB T[i]).1, (entB T[i]).2]) := by
    unfold entryA
    simp only [as2, fnd, beq_self_eq_true, if_true, show ((0 : Nat) == 1) = false from rfl, Bool.false_eq_true, if_false, List.length_map, List.getLast?_append, List.getLast?_singleton, Option.some_or, List.getElem?_map, List.getElem?_eq_getElem hi, Option.map_some]
    rw [if_pos (show keyFit (entB T[i]).1 = true from rfl)]
  obtain ⟨u, h1, h2⟩ := entry_ok (P := Tryz.prog) (u := .pointer (some ⟨It, 0, none⟩)) hH (x := .sc (.pt 0 0)) ⟨It, 0, 0, rfl, rfl⟩ he
  rw [h1]
  obtain ⟨us, rfl, hr⟩ := h2
  match us, hr with
  | [u1, u2], hr =>
    obtain ⟨ks, rfl, hks⟩ := hr.1
    obtain ⟨y, hy, h6⟩ := hr.2.1
    cases hy
    have h6 : u2 = .int .i64 T[i].2.2 := h6
    match ks, hks with
    | [a, b], hks =>
      have e1 : a = .string T[i].1 := hks.1
      have e2 : b = .string T[i].2.1 := hks.2.1
      rw [h6, e1, e2]
      rfl
    | [], hks => exact hks.elim
    | [_], hks => exact hks.2.elim
    | _ :: _ :: _ :: _, hks => exact hks.2.2.elim
  | [], hr => exact hr.elim
  | [_], hr => exact hr.2.elim
  | _ :: _ :: _ :: _, hr => exact hr.2.2.elim
theorem range_m {W : World} {Bm : Nat} {T : List Blk} (hM : MapAt W Bm T) : (Instr.range 67 (.map (some Bm))).run Tryz.prog W = .ok (.pointer (some ⟨W.heap.size, 0, none⟩)) (W.alloc (.mapIter (some Bm) T.length #[] T.length)) := by
  simp [Instr.range, run_underlying Tryz.underlying67, MapKept.run_getObj_map hM, Result.andThen]
end Go.Proofs.YteigplfldhdakaaGreatDoor
/- TopBlocks, plain: the rules of a table are its entries seen often enough. -/
namespace Go.Proofs.YteigplfldhdakaaGreatDoor
theorem one_ofF {L : List Stp} {b : Blk} (h : b ∈ ofF L) : b.2.2 = 1 := by
  unfold ofF at h
  obtain ⟨x, _, hr⟩ := List.mem_filterMap.1 h
  unfold rowB at hr
  split at hr
  · cases hr; rfl
  · cases hr
theorem one_pairM {a t : ByteArray} {b : Blk} (h : b ∈ pairM a t) : b.2.2 = 1 := one_ofF h
theorem same_of_apart {T : List Blk} (h : T.Pairwise apart) {x y : Blk} (hx : x ∈ T) (hy : y ∈ T) (h1 : x.1 = y.1) (h2 : x.2.1 = y.2.1) : x = y := by
  obtain ⟨i, hi, rfl⟩ := List.mem_iff_getElem.1 hx
  obtain ⟨j, hj, rfl⟩ := List.mem_iff_getElem.1 hy
  rw [List.pairwise_iff_getElem] at h
  rcases Nat.lt_trichotomy i j with h3 | h3 | h3
  · exact absurd ⟨h1, h2⟩ (h i j hi hj h3)
  · subst h3; rfl
  · exact absurd ⟨h1.symm, h2.symm⟩ (h j i hj hi h3)
theorem tabL_apart (K : List Blk) : (tabL K).Pairwise apart := apart_fold K [] List.Pairwise.nil
/-- **a rule is there just if its block was seen often enough** -/
theorem hasR_iff {M K : List Blk} {n : Int} (hp : M.Perm (tabL K)) {x : Blk} (hx : x ∈ tabL K) : hasR (makeR M n) x.1 x.2.1 ↔ n ≤ x.2.2 := by
  constructor
  · rintro ⟨b, hb, h1, h2⟩
    obtain ⟨y, hy, hn, rfl⟩ := makeR_mem.1 hb
    have := same_of_apart (tabL_apart K) (hp.mem_iff.1 hy) hx h1 h2
    rw [← this]
    exact hn
  · intro hn
    exact ⟨_, makeR_mem.2 ⟨x, hp.mem_iff.2 hx, hn, rfl⟩, rfl, rfl⟩
theorem makeR_len {M T : List Blk} {n : Int} (hp : M.Perm T) : (makeR M n).length = (T.filter fun b => decide (n ≤ b.2.2)).length := by
  unfold makeR makeG
  rw [List.length_map]
  exact (hp.filter _).length_eq
/-- entry i counts -/
def oft (T : List Blk) (n : Int) (i : Nat) : Bool := decide (n ≤ (T.getD i blk0).2.2)
def seenN (T : List Blk) (n : Int) (seen : List Nat) : Nat := (seen.filter (oft T n)).length
theorem seenN_snoc (T : List Blk) (n : Int) (seen : List Nat) (i : Nat) : seenN T n (seen ++ [i]) = seenN T n seen + if oft T n i = true then 1 else 0 := by
  unfold seenN
  rw [List.filter_append, List.length_append]
  congr 1
  by_cases h : oft T n i = true
  · rw [if_pos h]; simp [h]
  · rw [if_neg h]; simp [h]
theorem range_map (T : List Blk) : (List.range T.length).map (fun i => T.getD i blk0) = T := by
  apply List.ext_getElem
  · simp
  · intro i h1 h2
    simp [List.getD_eq_getElem?_getD, h2]
theorem seenN_all {T : List Blk} {n : Int} {seen : List Nat} (hn : seen.Nodup) (hl : ∀ i ∈ seen, i < T.length) (hall : ∀ i, i < T.length → i ∈ seen) : seenN T n seen = (T.filter fun b => decide (n ≤ b.2.2)).length := by
  have hp : seen.Perm (List.range T.length) := (List.perm_ext_iff_of_nodup hn List.nodup_range).2 fun i => ⟨fun h => by simpa using hl i h, fun h => hall i (by simpa using h)⟩
  unfold seenN
  rw [(hp.filter _).length_eq]
  conv => rhs; rw [← range_map T]
  rw [List.filter_map, List.length_map]
  rfl
theorem seen_len {T : List Blk} {seen : List Nat} (hn : seen.Nodup) (hl : ∀ i ∈ seen, i < T.length) : seen.length ≤ T.length := by
  have hp : seen.Perm ((List.range T.length).filter fun i => decide (i ∈ seen)) := (List.perm_ext_iff_of_nodup hn (List.nodup_range.filter _)).2 fun i => ⟨fun h => List.mem_filter.2 ⟨by simpa using hl i h, by simpa using h⟩, fun h => by simpa using (List.mem_filter.1 h).2⟩
  rw [hp.length_eq]
  exact Nat.le_trans (List.length_filter_le _ _) (by simp)
theorem seenN_le (T : List Blk) (n : Int) (seen : List Nat) : seenN T n seen ≤ seen.length := List.length_filter_le _ _
end Go.Proofs.YteigplfldhdakaaGreatDoor
/- TopBlocks, where awake is true. -/
namespace Go.Proofs.YteigplfldhdakaaGreatDoor
open Go.RowKit Go.Shelf
attribute [local go_sem ↓] Go.wp_at_zero Go.wp_at_succ
theorem prE_all : ∀ {L : List (ByteArray × ByteArray)}, prE L = 0 → ∀ x ∈ L, pairE x.1 x.2 = 0
  | [], _, x, hx => by simp at hx
  | a :: r, h, x, hx => by
    unfold prE at h
    by_cases h0 : pairE a.1 a.2 = 0
    · rw [if_neg (by simp [h0])] at h
      rcases List.mem_cons.1 hx with rfl | hx
      · exact h0
      · exact prE_all h x hx
    · rw [if_pos h0] at h
      exact absurd h h0
theorem cntT_le {T : List Blk} (h : posC T) (f t : ByteArray) : 0 ≤ cntT f t T ∧ cntT f t T ≤ totB T := by
  unfold cntT
  split
  · next k hk =>
    have h0 := posB_some hk
    have h1 := h _ (getD_mem h0.1)
    have h2 := le_totB h _ (getD_mem h0.1)
    omega
  · exact ⟨Int.le_refl _, totB_nonneg h⟩
theorem touch_put {F : Nat → Prop} {a W : World} (h : Touch F a W) {b : Nat} (hb : F b) (l : List Blk) : Touch F a (mapPut W b l) :=
  ⟨h.os, h.tape, h.output, by unfold mapPut World.putObj; simpa using h.size, fun k hk hF => (mapPut_other l (by rintro rfl; exact hF hb)).trans (h.block k hk hF)⟩
theorem StepK.touch {It Bm : Nat} {T : List Blk} {a W w' : World} (h : StepK It Bm T W w') (ht : Touch (fun b => b = Bm) a W) (hIt : a.heap.size ≤ It) : Touch (fun b => b = Bm) a w' :=
  ⟨h.same.1.trans ht.os, h.same.2.1.trans ht.tape, h.same.2.2.trans ht.output, Nat.le_trans ht.size h.size, fun k hk hF => (h.keep k (Nat.lt_of_lt_of_le hk ht.size) (by omega) hF).trans (ht.block k hk hF)⟩
/-- how many a range has handed out -/
def handed (w : World) (It : Nat) : Nat := match w.heap[It]? with | some (.mapIter _ _ s _) => s.size | _ => 0
theorem handed_eq {w : World} {It Bm n : Nat} {seen : List Nat} (h : MIt w It Bm n seen) : handed w It = seen.length := by
  unfold handed MIt at *
  rw [h]
  simp
theorem fold_take {B T0 : List Blk} {j : Nat} (hj : j < B.length) : (B.take (j + 1)).foldl addB T0 = addB ((B.take j).foldl addB T0) B[j] := by
  rw [List.take_add_one, List.getElem?_eq_getElem hj, List.foldl_append]
  rfl
/-- one block more: seen[x]++ -/
theorem bump_r {X : World} {Bm : Nat} {T : List Blk} (h : MapAt X Bm T) (f t : ByteArray) : ∃ (kk : Nat) (v0 : Int) (Y : World),
    (Instr.mapEntry 67 (.map (some Bm)) (twoS f t)).run Tryz.prog X = .ok (.tuple #[.int .i64 v0, .int .i64 (kk : Int)]) Y ∧
    (Instr.lookup 67 (.map (some Bm)) (twoS f t) false).run Tryz.prog Y = .ok (.int .i64 (cntT f t T)) Y ∧
    (Instr.entryStore 67 (.map (some Bm)) (.int .i64 (kk : Int)) (.int .i64 (cntT f t T + 1))).run Tryz.prog Y = .ok () (mapPut Y Bm (addB T (f, t, 1))) ∧ MapAt (mapPut Y Bm (addB T (f, t, 1))) Bm (addB T (f, t, 1)) ∧
    ∀ F a, Touch F a X → F Bm → Touch F a (mapPut Y Bm (addB T (f, t, 1))) := by
  obtain ⟨l1, kk, v0, h1, h2, h3, h5⟩ := entry67 h f t
  have h4 := store67 (mapPut_at h l1) h1 (cntT f t T + 1)
  have h6 := look67 (mapPut_at h l1) f t
  rw [h3 1] at h4
  rw [h5] at h6
  exact ⟨kk, v0, _, h2, h6, h4, mapPut_at (mapPut_at h l1) _, fun F a hF hb => touch_put (touch_put hF hb _) hb _⟩
set_option maxRecDepth 100000 in
set_option maxHeartbeats 8000000 in
theorem blocks_law (hA : AwakeC) {w : World} {v : Value} {L : List (ByteArray × ByteArray)} (h : PrS w v L) (hs : smallP L) (hT : Tab w) (hl : L.length ≤ 1000000000) (x : Int) (hx : (Lit.int .u8 x).wf = true) :
    Calls Tryz.prog 5 #[v, .int .u8 x] w fun e w' => e = .returned (.bool true) ∧ Below w.heap.size w w' := by
  have hx1 : (decide (IntKind.u8.min ≤ x) && decide (x ≤ IntKind.u8.max)) = true := hx
  simp [IntKind.min, IntKind.max, IntKind.signed, IntKind.bits] at hx1
  have haw := hA w hT
  have hgr := fun W (hb : Below w.heap.size w W) => great_c (h.below hb) hs (TxS.nil W) (fun s h => by simp at h) hl (by simp)
  have hwx : IntKind.i64.wrap x = x := by rw [IntKind.wrap_i64]; omega
  have hw1 : IntKind.i64.wrap (x + 1) = x + 1 := by rw [IntKind.wrap_i64]; omega
  have hle := fun W (hb : Below w.heap.size w W) => learn_c (h.below hb) hs (hT.bel hb) (x + 1) (by omega)
  have HAW := hid haw
  have HT := hid hT
  have HS := hid h
  have HSM := hid hs
  obtain ⟨a, c, rfl, -⟩ := h
  by_cases hg : greatB L [] = true
  · rw [hg] at hgr
    have HGR := hid hgr
    clear haw hgr hle hT hs hx
    go_enter Tryz.func5, Tryz.ntmps5
    go_wp2_with (first
      | (go_at_call 7; refine HAW.out.mono ?_; rintro e w1 ⟨rfl, hb1⟩; have HB1 := hid hb1; clear hb1)
      | (go_at_call 9; refine (HGR.out _ HB1.out).mono ?_; rintro e w3 ⟨rfl, hb3⟩; have HB3 := hid (bthen HB1.out hb3); clear hb3))
    go_ret
    exact ⟨rfl, HB3.out⟩
  · have hg2 : greatB L [] = false := by simpa using hg
    have hl30 : L.length ≤ 30 := by unfold greatB at hg2; simp at hg2; omega
    rw [hg2] at hgr
    have HGR := hid hgr
    obtain ⟨n, hn⟩ : ∃ n, x + 1 = n := ⟨_, rfl⟩
    rw [hn] at hw1 hle
    have HLE := hid hle
    have hnb : 1 ≤ n ∧ n ≤ 256 := by omega
    have hmm := @run_makeMap Tryz.prog
    clear haw hgr hle hT hs hx hg hg2
    go_enter Tryz.func5, Tryz.ntmps5
    go_wp2_with (first
      | (go_at_call 7; refine HAW.out.mono ?_; rintro e w1 ⟨rfl, hb1⟩; have HB1 := hid hb1; clear hb1)
      | (go_at_call 9; refine (HGR.out _ HB1.out).mono ?_; rintro e w3 ⟨rfl, hb3⟩; have HB3 := hid (bthen HB1.out hb3); clear hb3)
      | (go_at_call 19; refine (HLE.out _ HB3.out).mono ?_; rintro e w4 ⟨hb4, ⟨q, hq, rfl⟩ | ⟨h0, M, hM, hp, A, c4, rfl, hR⟩⟩))
    · go_ret
      exact ⟨rfl, bthen HB3.out hb4⟩
    · have HB4 := hid (bthen HB3.out hb4)
      obtain ⟨r1, r2, r3⟩ := hM.rules n
      have hM1 := hM.len
      obtain ⟨R, hRR⟩ : ∃ R, makeR M n = R := ⟨_, rfl⟩
      have hlen := makeR_len (n := n) hp
      rw [hRR] at hR r1 r2 r3 hlen ⊢
      obtain ⟨W0, hW0⟩ : ∃ W0, w4.alloc (.map #[] 0) = W0 := ⟨_, rfl⟩
      obtain ⟨Bm, hBm⟩ : ∃ b, w4.heap.size = b := ⟨_, rfl⟩
      have hM0 : MapAt W0 Bm [] := by rw [← hW0, ← hBm]; exact heap_alloc_new w4 _
      have hB0 : Below w.heap.size w W0 := by rw [← hW0]; exact balloc HB4.out _
      have hR0 : RuS W0 (.slice A R.length c4) R := by rw [← hW0]; exact SL.alloc hR _
      have hRb : ∀ k, (Value.slice A R.length c4).ownBlock = some k → ¬ k = Bm := fun k hk => by have := SL.lt hR k hk; omega
      have hBw : w.heap.size ≤ Bm := by rw [← hBm]; exact HB4.out.size
      have hBW : Bm < W0.heap.size := blk_lt hM0
      have HM0 := hid hM0
      have HB0 := hid hB0
      have HR0 := hid hR0
      have HRB := hid hRb
      have HP := hid hp
      have HE := hid (prE_all h0)
      have HLN := hid hlen
      have HR1 := hid r1
      have HR2 := hid r2
      have hRe : ∀ x ∈ tabL (prM L), hasR R x.1 x.2.1 ↔ n ≤ x.2.2 := fun x hx => by rw [← hRR]; exact hasR_iff hp hx
      have hTl : (tabL (prM L)).length ≤ 4096 := by rw [← hp.length_eq]; exact hM1
      have HRE := hid hRe
      have hcl : ∀ W, Touch (fun b => b = Bm) W0 W → Below w.heap.size w W := fun W hW => hW.below hB0 (fun k hk => by rw [hk]; exact hBw)
      have hrl : ∀ W, Touch (fun b => b = Bm) W0 W → RuS W (.slice A R.length c4) R := fun W hW => SL.touch hR0 hW hRb
      have HCL := hid hcl
      have HRL := hid hrl
      try rw [hBm]
      try rw [hW0]
      clear hb4 hR hM0 hB0 hR0 hRb r1 r2 hlen hp h0 hM hRR hW0 hBm hRe hcl hrl
      go_loopw [38] (fun iv wr => ∃ k : Nat, k ≤ L.length ∧ iv = .int .i64 (k : Int) ∧ Hid (Touch (fun b => b = Bm) W0 wr) ∧ Hid (MapAt wr Bm (tabL (prM (L.take k)))) ∧ Hid (posC (tabL (prM (L.take k)))) ∧ totB (tabL (prM (L.take k))) ≤ (k : Int) * 129) (fun iv _ => L.length - (intOf iv).toNat)
      case atStart => exact ⟨0, Nat.zero_le _, rfl, hid (Touch.refl _ _), HM0, hid (fun x hx => by simp [prM, tabL] at hx), by simp [prM, tabL, totB]⟩
      case round =>
        obtain ⟨k, hk, rfl, HTo, HMp, HPO, hto⟩ := hrel
        have HB := hid (HCL.out _ HTo.out)
        by_cases hkl : k < L.length
        · have hkl2 : (k : Int) < (L.length : Int) := by omega
          obtain ⟨a2, c2, hv, hp2⟩ := HS.out.below HB.out
          cases hv
          obtain ⟨ad0, rfl, hxl, q0, q1⟩ := hp2 k hkl
          obtain ⟨y, hy⟩ : ∃ y, L[k] = y := ⟨_, rfl⟩
          have hsm := HSM.out _ (List.getElem_mem hkl)
          have htk := prM_take hkl
          have hE := HE.out _ (List.getElem_mem hkl)
          rw [hy] at q0 q1 hsm htk hE
          obtain ⟨f, t⟩ := y
          dsimp only at q0 q1 hsm htk hE
          have hone := fun b (hb : b ∈ pairM f t) => one_pairM hb
          have hsz := (pairE_ok hE).2
          have hpc : Calls Tryz.prog 20 #[.string f, .string t] (wr.alloc (.cells #[.string f, .string t] 69)) fun e w' => Below (wr.alloc (.cells #[.string f, .string t] 69)).heap.size (wr.alloc (.cells #[.string f, .string t] 69)) w' ∧
              ∃ A c, e = .returned (.tuple #[.slice A (pairM f t).length c, .int .i64 0]) ∧ BlS w' (.slice A (pairM f t).length c) (pairM f t) ∧ ∀ k, (Value.slice A (pairM f t).length c).ownBlock = some k → wr.heap.size + 1 ≤ k := (pair_c f t hsm.1 hsm.2 _ (HT.out.bel (balloc HB.out _))).mono fun e w' ⟨h1, h2⟩ => by
            rcases h2 with ⟨h2, _⟩ | ⟨_, A, c, h3, h4, h5⟩
            · exact absurd hE h2
            · exact ⟨h1, A, c, h3, h4, fun k hk => by have := h5 k hk; rw [World.size_alloc] at this; exact this⟩
          obtain ⟨B, hB⟩ : ∃ B, pairM f t = B := ⟨_, rfl⟩
          rw [hB] at hpc htk hone hsz
          have HPC := hid hpc
          obtain ⟨T0, hT0⟩ : ∃ T0, tabL (prM (L.take k)) = T0 := ⟨_, rfl⟩
          have hT1 : tabL (prM (L.take (k + 1))) = B.foldl addB T0 := by rw [htk, ← hT0]; unfold tabL; rw [List.foldl_append]
          rw [hT0] at HMp HPO hto
          have HT1 := hid hT1
          have HONE := hid hone
          obtain ⟨ad, had⟩ : ∃ ad, ad0.add (k * 2) = ad := ⟨_, rfl⟩
          rw [had] at q0 q1
          clear hpc htk hy hp2 hT1 hone hE hB hT0 hsm
          go_wp2_with (go_at_call 20; refine HPC.out.mono ?_; rintro e w1 ⟨hb1, A1, c1, rfl, hs1, ho1⟩; have HBe := hid (bthen (balloc (Below.refl _ wr) _) hb1); have HS1 := hid hs1; have HO1 := hid ho1; clear hb1 hs1 ho1)
          have hbm : Bm < wr.heap.size := blk_lt HMp.out
          have HM1 := hid ((HBe.out.block Bm hbm).trans HMp.out)
          have HTo1 := hid (HTo.out.trans (Touch.of_below HBe.out (Nat.le_refl _)) (fun i h => h.elim))
          have hnb1 : ∀ k, (Value.slice A1 B.length c1).ownBlock = some k → ¬ k = Bm := fun k hk => by have := HO1.out k hk; omega
          have HNB1 := hid hnb1
          clear HMp HTo q0 q1 hnb1
          go_loopw [54] (fun iv wr => ∃ (j : Nat) (T : List Blk), j ≤ B.length ∧ iv = .int .i64 (j : Int) ∧ Hid (Touch (fun b => b = Bm) w1 wr) ∧ Hid (MapAt wr Bm T) ∧ Hid (T = (B.take j).foldl addB T0) ∧ Hid (posC T) ∧ totB T ≤ (k : Int) * 129 + (j : Int)) (fun iv _ => B.length - (intOf iv).toNat)
          case atStart => exact ⟨0, T0, Nat.zero_le _, rfl, hid (Touch.refl _ _), HM1, hid rfl, HPO, by omega⟩
          case round =>
            obtain ⟨j, T, hj, rfl, HTq, HMq, HTE, HPq, htq⟩ := hrel
            by_cases hjl : j < B.length
            · have hjl2 : (j : Int) < (B.length : Int) := by omega
              obtain ⟨g, off, hA1, hgl, k0, k1, k2⟩ := BlS.at3 (SL.touch HS1.out HTq.out HNB1.out) hjl
              subst hA1
              have hm1 := HONE.out _ (List.getElem_mem hjl)
              have hst := fold_take (T0 := T0) hjl
              rw [← HTE.out] at hst
              obtain ⟨b, hb⟩ : ∃ b, B[j] = b := ⟨_, rfl⟩
              rw [hb] at k0 k1 k2 hm1 hst
              obtain ⟨bf, bt, bn⟩ := b
              dsimp only at k0 k1 k2 hm1
              subst hm1
              have HST := hid hst
              clear hb hst
              go_wp2
              obtain ⟨X, hX⟩ : ∃ X, wr.alloc (.cells #[.string bf, .string bt, .int .i64 1] 38) = X := ⟨_, rfl⟩
              have hbx : X.heap[wr.heap.size]? = some (.cells #[.string bf, .string bt, .int .i64 1] 38 (0, 0)) := by rw [← hX]; exact heap_alloc_new wr _
              have hMX : MapAt X.drew Bm T := by rw [← hX]; exact alloc_keep HMq.out _
              have hTX : Touch (fun b => b = Bm) w1 X.drew := by rw [← hX]; exact (HTq.out.alloc _).drew
              obtain ⟨x0, x1, x2, -, -, -⟩ := row3 hbx
              have hlk := look67 hMX bf bt
              obtain ⟨kk, v0, Y, he1, hlk2, he2, he3, he4⟩ := bump_r hMX bf bt
              have hcb := cntT_le HPq.out bf bt
              obtain ⟨cc, hcc⟩ : ∃ cc, cntT bf bt T = cc := ⟨_, rfl⟩
              rw [hcc] at hlk hlk2 he2 hcb
              have hwc : IntKind.i64.wrap (cc + 1) = cc + 1 := by rw [IntKind.wrap_i64]; omega
              have HT4 := hid (he4 _ _ hTX rfl)
              have HM4 := hid he3
              obtain ⟨Z, hZ⟩ : ∃ Z, mapPut Y Bm (addB T (bf, bt, 1)) = Z := ⟨_, rfl⟩
              rw [hZ] at he2 HT4 HM4
              unfold twoS at hlk hlk2 he1
              have HPX := hid (posC_add (b := (bf, bt, 1)) HPq.out (by show (1 : Int) ≤ 1; decide))
              have htx := totB_add T (bf, bt, 1)
              dsimp only at htx
              rw [← HST.out] at HPX htx HM4
              rw [hX]
              clear k0 k1 k2 hbx he3 he4 hcc hZ hMX hTX hX
              go_region
              go_wp2
              exact ⟨⟨j + 1, (B.take (j + 1)).foldl addB T0, by omega, by simp, HT4, HM4, hid rfl, HPX, by omega⟩, by simp [intOf]; omega⟩
            · obtain rfl : j = B.length := by omega
              have hjl2 : ¬ (B.length : Int) < (B.length : Int) := by omega
              have HT5 := hid (HTo1.out.trans HTq.out (fun i h => .inl h))
              have hTE := HTE.out
              rw [List.take_length, ← HT1.out] at hTE
              subst hTE
              go_wp2
              exact ⟨⟨k + 1, by omega, by simp, HT5, HMq, HPq, by omega⟩, by simp [intOf]; omega⟩
        · obtain rfl : k = L.length := by omega
          have hkl2 : ¬ (L.length : Int) < (L.length : Int) := by omega
          rw [List.take_length] at HMp HPO hto
          obtain ⟨T, hTT⟩ : ∃ T, tabL (prM L) = T := ⟨_, rfl⟩
          rw [hTT] at HMp HPO hto hTl HRE
          have HLN2 : Hid (R.length = (T.filter fun b => decide (n ≤ b.2.2)).length) := hid (by rw [← hTT]; exact HLN.out)
          have hrg := range_m HMp.out
          have hbm : Bm < wr.heap.size := blk_lt HMp.out
          have hws := HTo.out.size
          clear HM0
          go_wp2
          have HTa := hid (HTo.out.alloc (.mapIter (some Bm) T.length #[] T.length))
          have HMa := hid (alloc_keep HMp.out (.mapIter (some Bm) T.length #[] T.length))
          have HIa : Hid (MIt (wr.alloc (.mapIter (some Bm) T.length #[] T.length)) wr.heap.size Bm T.length []) := hid (heap_alloc_new wr _)
          obtain ⟨It, hIt⟩ : ∃ It, wr.heap.size = It := ⟨_, rfl⟩
          obtain ⟨Wa, hWa⟩ : ∃ Wa, wr.alloc (.mapIter (some Bm) T.length #[] T.length) = Wa := ⟨_, rfl⟩
          try rw [hIt] at HIa
          try rw [hIt]
          rw [hWa] at HTa HMa HIa
          try rw [hWa]
          have hne : It ≠ Bm := by omega
          have hIt0 : W0.heap.size ≤ It := by omega
          clear hrg HMp HTo
          go_loopw [15] (fun ov wr => ∃ seen : List Nat, ov = .int .i64 (seenN T n seen : Int) ∧ Hid (Touch (fun b => b = Bm) W0 wr) ∧ Hid (MapAt wr Bm T) ∧ Hid (MIt wr It Bm T.length seen) ∧ Hid seen.Nodup ∧ Hid (∀ i ∈ seen, i < T.length)) (fun _ wr => T.length - handed wr It)
          case atStart => exact ⟨[], rfl, HTa, HMa, HIa, hid List.nodup_nil, hid (fun i hi => by cases hi)⟩
          case round =>
            obtain ⟨seen, rfl, HTq, HMq, HIq, HND, HSL⟩ := hrel
            clear HTa HMa HIa
            have hsn := seenN_le T n seen
            have hsl := seen_len HND.out HSL.out
            have hhd := handed_eq HIq.out
            obtain ⟨u, w2, hnx, hst, hcase⟩ := next_m HMq.out HIq.out hne 0
            have HT2 := hid (hst.touch HTq.out hIt0)
            have HM2 := hid hst.map
            rcases hcase with ⟨hall, rfl, hI2⟩ | ⟨i, hi, hns, rfl, hI2⟩
            · have hfin := seenN_all (n := n) HND.out HSL.out hall
              rw [← HLN2.out] at hfin
              have hfi : ((seenN T n seen : Nat) : Int) = (R.length : Int) := by rw [hfin]
              rw [hfi]
              have HB2 := hid (HCL.out _ HT2.out)
              go_wp2
              go_ret
              exact ⟨by simp, HB2.out⟩
            · have hen := entry_m HM2.out hI2 hne hi
              have hI3 := hid hI2
              have hre := HRE.out _ (List.getElem_mem hi)
              have hsn2 := seenN_snoc T n seen i
              have hof : oft T n i = decide (n ≤ T[i].2.2) := by unfold oft; rw [getD_at hi]
              rw [hof] at hsn2
              have hnd2 : Hid (seen ++ [i]).Nodup := hid (List.nodup_append.2 ⟨HND.out, by simp, by
                intro a ha b hb
                rw [List.mem_singleton] at hb
                subst hb
                rintro rfl
                exact hns ha⟩)
              have hsl2 : Hid (∀ j ∈ seen ++ [i], j < T.length) := hid (fun j hj => by
                rcases List.mem_append.1 hj with h1 | h1
                · exact HSL.out j h1
                · rw [List.mem_singleton] at h1; subst h1; exact hi)
              obtain ⟨b, hb⟩ : ∃ b, T[i] = b := ⟨_, rfl⟩
              rw [hb] at hnx hen hre hsn2
              obtain ⟨bf, bt, bn⟩ := b
              dsimp only at hnx hen hre hsn2
              have hlt := seen_len hnd2.out hsl2.out
              rw [List.length_append] at hlt
              have hfc := fun W (hW : Below w2.heap.size w2 W) => find_c (HRL.out _ (HT2.out.trans (Touch.of_below hW (Nat.le_refl _)) (fun i h => h.elim))) HR1.out HR2.out r3 bf bt (HT.out.bel (HCL.out _ (HT2.out.trans (Touch.of_below hW (Nat.le_refl _)) (fun i h => h.elim))))
              unfold twoS at hnx hen
              by_cases hnn : n ≤ bn
              · have hfc2 : ∀ W, Below w2.heap.size w2 W → Calls Tryz.prog 21 #[.slice A R.length c4, .string bf, .string bt] W fun e w' => Below W.heap.size W w' ∧ ∃ q, e = .returned (.tuple #[.int .i64 q, .int .i64 0]) := fun W hW => (hfc W hW).mono fun e w' ⟨h1, h2⟩ => ⟨h1, by
                  rcases h2 with ⟨_, h2⟩ | ⟨h2, _⟩
                  · exact h2
                  · exact absurd (hre.2 hnn) h2⟩
                have HFC := hid hfc2
                rw [decide_eq_true hnn, if_pos rfl] at hsn2
                have hwk : IntKind.i64.wrap ((seenN T n seen : Int) + 1) = ((seenN T n (seen ++ [i]) : Nat) : Int) := by rw [IntKind.wrap_i64, hsn2]; simp at hlt; omega
                clear hfc hfc2 hre
                go_wp2_with (go_at_call 21; refine (HFC.out _ (balloc (Below.refl _ w2) _)).mono ?_; rintro e w5 ⟨hb5, q, rfl⟩; have HB5 := hid (bthen (balloc (Below.refl _ w2) _) hb5); clear hb5)
                have HI5 := hid ((HB5.out.block It (blk_lt hI3.out)).trans hI3.out)
                have hh5 := handed_eq HI5.out
                exact ⟨⟨seen ++ [i], by simp [hsn2], hid (HT2.out.trans (Touch.of_below HB5.out (Nat.le_refl _)) (fun i h => h.elim)), hid ((HB5.out.block Bm (blk_lt HM2.out)).trans HM2.out), HI5, hnd2, hsl2⟩, by rw [hh5, hhd, List.length_append]; simp; simp at hlt; omega⟩
              · have hfc2 : ∀ W, Below w2.heap.size w2 W → Calls Tryz.prog 21 #[.slice A R.length c4, .string bf, .string bt] W fun e w' => Below W.heap.size W w' ∧ e = .returned (.tuple #[.int .i64 0, .int .i64 10]) := fun W hW => (hfc W hW).mono fun e w' ⟨h1, h2⟩ => ⟨h1, by
                  rcases h2 with ⟨h2, _⟩ | ⟨_, h2⟩
                  · exact absurd (hre.1 h2) hnn
                  · exact h2⟩
                have HFC := hid hfc2
                rw [decide_eq_false hnn, if_neg (by decide), Nat.add_zero] at hsn2
                clear hfc hfc2 hre
                go_wp2_with (go_at_call 21; refine (HFC.out _ (balloc (Below.refl _ w2) _)).mono ?_; rintro e w5 ⟨hb5, rfl⟩; have HB5 := hid (bthen (balloc (Below.refl _ w2) _) hb5); clear hb5)
                have HI5 := hid ((HB5.out.block It (blk_lt hI3.out)).trans hI3.out)
                have hh5 := handed_eq HI5.out
                exact ⟨⟨seen ++ [i], by rw [hsn2], hid (HT2.out.trans (Touch.of_below HB5.out (Nat.le_refl _)) (fun i h => h.elim)), hid ((HB5.out.block Bm (blk_lt HM2.out)).trans HM2.out), HI5, hnd2, hsl2⟩, by rw [hh5, hhd, List.length_append]; simp; simp at hlt; omega⟩
/- TopBlocks, where awake is true, whatever the sizes are. -/
set_option maxRecDepth 100000 in
set_option maxHeartbeats 4000000 in
theorem blocks_full (hA : AwakeC) {w : World} {v : Value} {L : List (ByteArray × ByteArray)} (h : PrS w v L) (hs : bigP L) (hT : Tab w) (hl : L.length ≤ 140737488355328) (x : Int) (hx : (Lit.int .u8 x).wf = true) :
    Calls Tryz.prog 5 #[v, .int .u8 x] w fun e w' => e = .returned (.bool true) ∧ Below w.heap.size w w' := by
  have haw := hA w hT
  have hgr := fun W (hb : Below w.heap.size w W) => great_big (h.below hb) hs (TxS.nil W) hl (by simp)
  cases hG : greatW L [] with
  | false =>
    obtain ⟨h1, h2⟩ := greatW_small hs (by simp [lenS]) (by simp [lenS]) hG
    exact blocks_law hA h (small_of (by simp [lenS] at h2; exact h2)) hT (by omega) x hx
  | true =>
    rw [hG] at hgr
    have HGR := hid hgr
    have HAW := hid haw
    obtain ⟨a, c, rfl, -⟩ := h
    clear haw hgr hT hs hx hG
    go_enter Tryz.func5, Tryz.ntmps5
    go_wp2_with (first
      | (go_at_call 7; refine HAW.out.mono ?_; rintro e w1 ⟨rfl, hb1⟩; have HB1 := hid hb1; clear hb1)
      | (go_at_call 9; refine (HGR.out _ HB1.out).mono ?_; rintro e w3 ⟨rfl, hb3⟩; have HB3 := hid (bthen HB1.out hb3); clear hb3))
    go_ret
    exact ⟨rfl, HB3.out⟩
end Go.Proofs.YteigplfldhdakaaGreatDoor
/- Any operation but a call of a function. -/
namespace Go.Proofs.YteigplfldhdakaaGreatDoor.Ev
open Go Go.RowKit
def partsA (ρ : Operand → Option AV) : List (Nat × Operand) → Option (List (Nat × AV))
  | [] => some []
  | (i, x) :: r => match ρ x, partsA ρ r with
    | some v, some vs => some ((i, v) :: vs)
    | _, _ => none
def capsA (ρ : Operand → Option AV) : List Operand → Option (List Nat)
  | [] => some []
  | x :: r => match ρ x, capsA ρ r with
    | some (.sc (.pt b 0)), some bs => some (b :: bs)
    | _, _ => none
def fvsA (ρ : Operand → Option AV) : List Operand → Option (List Value)
  | [] => some []
  | x :: r => match (ρ x).bind AV.fv, fvsA ρ r with
    | some v, some vs => some (v :: vs)
    | _, _ => none
def isAMap (P : Program) (t : Nat) : Bool := match P.underlying t with | some (.map _ _) => true | _ => false
def lenA (P : Program) (s : AS) (t : Nat) (a : AV) : Option AV :=
  match a with
  | .sc (.sl _ _ n _ _) => if isSl P t then some (.sc (.f (.int .i64 n))) else none
  | .sc (.se _ _) => if isSl P t then some (.sc (.f (.int .i64 0))) else none
  | .sc (.f (.str l)) => match P.underlying t with | some .string => some (.sc (.f (.int .i64 l.length))) | _ => none
  | .sc (.f .nils) => if isSl P t then some (.sc (.f (.int .i64 0))) else none
  | .sc (.mp b) => match fnd s.H b with
    | some (.map es) => if isAMap P t then some (.sc (.f (.int .i64 es.length))) else none
    | _ => none
  | _ => none
def bltA (P : Program) (ρ : Operand → Option AV) (s : AS) (b : Builtin) (ty : Nat) (args : List Operand) (ats : List Nat) : Option (AV × AS) :=
  match b, args, ats with
  | .append, [a, x], [t, tx] => match ρ a, ρ x with
    | some a, some x => appA P s t tx a x
    | _, _ => none
  | .len, [x], [t] => match ρ x with
    | some a => (lenA P s t a).map fun v => (v, s)
    | none => none
  | .min, xs, ts => match fvsA ρ xs with
    | some vs => ((flatS P (Builtin.min_ ts.toArray ty vs.toArray)).bind absV).map fun v => (v, s)
    | none => none
  | .max, xs, ts => match fvsA ρ xs with
    | some vs => ((flatS P (Builtin.max_ ts.toArray ty vs.toArray)).bind absV).map fun v => (v, s)
    | none => none
  | _, _, _ => none
def q1 (s : AS) (v : Option AV) : Option (List (AV × AS)) := v.map fun v => [(v, s)]
def w1 (r : Option (AV × AS)) : Option (List (AV × AS)) := r.map fun r => [r]
def u1 (r : Option AS) : Option (List (AV × AS)) := r.map fun s' => [(undA, s')]
def aop (P : Program) (ks : Nat → Bool × List FV → Bool) (o : Oper) (ρ : Operand → Option AV) (s : AS) : Option (List (AV × AS)) :=
  match o.op with
  | .move x => q1 s (ρ x)
  | .assign x => q1 s (ρ x)
  | .pick c a b => match ρ c with
    | some (.sc (.f (.bool true))) => q1 s (ρ a)
    | some (.sc (.f (.bool false))) => q1 s (ρ b)
    | _ => none
  | .alloc t => w1 ((zL P t).map fun L => (.sc (.pt s.nx 0), newA s t L))
  | .box t x => w1 (((ρ x).bind AV.cells).map fun L => (.sc (.pt s.nx 0), newA s t L))
  | .build t ps => q1 s ((partsA ρ ps.toList).bind (buildA P t))
  | .buildSlice t n ps => w1 ((partsA ρ ps.toList).bind (bsliceA P s t n))
  | .load t x => match ρ x with
    | some (.sc (.pt b o)) => match fnd s.H b with
      | some (.cells _ L) => q1 s (loadA P t L o)
      | _ => none
    | _ => none
  | .store t a x => match ρ a, ρ x with
    | some a, some v => u1 (storeA P s t a v)
    | _, _ => none
  | .nilCheck x => match ρ x with
    | some (.sc (.pt b o)) => q1 s (some (.sc (.pt b o)))
    | _ => none
  | .binOp op t x y _ => match ρ x, ρ y with
    | some a, some b => q1 s (binA P op t x y a b)
    | _, _ => none
  | .unOp op t x => match (ρ x).bind AV.fv with
    | some v => q1 s ((flatS P (Op.unary op v)).bind absV)
    | none => none
  | .convert a b x => match ρ x with
    | some v => q1 s (convA P s a b v)
    | none => none
  | .makeFunc (.func f) first caps => if first.isEmpty then (capsA ρ caps.toList).map fun cs => [(.sc (.cl f cs), s)] else none
  | .makeMap t none => some [(.sc (.mp s.nx), ⟨(s.nx, .map []) :: s.H, s.nx + 1⟩)]
  | .makeSlice t l c => match ρ l, ρ c with
    | some l, some c => w1 (mslA P s t l c)
    | _, _ => none
  | .slice t x lo hi mx => match ρ x, bnd ρ lo, bnd ρ hi, bnd ρ mx with
    | some (.sc v), some l, some h, some m => q1 s ((sliceR P t v l h m).map .sc)
    | _, _, _, _ => none
  | .fieldAddr t x f => match ρ x, fieldOff P t f with
    | some (.sc (.pt b o)), some k => q1 s (some (.sc (.pt b (o + k))))
    | _, _ => none
  | .indexAddr t x i => match ρ x, ρ i, elemP P t with
    | some (.sc (.sl b o n c z)), some (.sc (.f (.int k j))), some e => if sizeP P e = some z ∧ 0 ≤ j ∧ j < (n : Int) then q1 s (some (.sc (.pt b (o + j.toNat * z)))) else none
    | _, _, _ => none
  | .index t x i => match (ρ x).bind AV.fv, (ρ i).bind AV.fv with
    | some v, some j => q1 s ((flatS P (Instr.index t v j)).bind absV)
    | _, _ => none
  | .lookup t m k ok => match ρ m, ρ k with
    | some m, some k => q1 s (lookA P ks s t m k ok)
    | _, _ => none
  | .mapUpdate t m k v => match ρ m, ρ k, ρ v with
    | some m, some k, some v => u1 (updA P ks s t m k v)
    | _, _, _ => none
  | .range t x => match ρ x with
    | some x => w1 (rangeA P s t x)
    | none => none
  | .next it false => match ρ it with
    | some x => if keysFit s x then nextA s x else none
    | none => none
  | .entry it => match ρ it with
    | some x => q1 s (entryA s x)
    | none => none
  | .extract x i => match ρ x with
    | some (.tu ys) => q1 s ((ys[i]?).map AE.av)
    | _ => none
  | .call { callee := .builtin b, args, argTypes } => w1 (bltA P ρ s b o.type args.toList argTypes.toList)
  | _ => none
/-- an operation's run, as it comes out -/
def Ran (P : Program) (e : Sem Next) (γ : Pl) (s : AS) (w : World) (outs : List (AV × AS)) : Prop :=
  ∃ v s' u w', (v, s') ∈ outs ∧ (e.run P w = .ok (.value u) w' ∨ (e.run P w = .ok .skip w' ∧ u = undef)) ∧ Done γ s w v s' u w'
section
variable {P : Program} {γ : Pl} {s : AS} {w : World} {ρa : Operand → Option AV} {ρ : Operand → Value}
theorem q1_ok {v : Option AV} {outs : List (AV × AS)} {e : Sem Value} (h : HR γ s w) (hv : q1 s v = some outs) (he : ∀ a, v = some a → ∃ u, e.run P w = .ok u w ∧ RA γ a u) : Ran P (do pure (.value (← e))) γ s w outs := by
  obtain ⟨a, ha, rfl⟩ := Option.map_eq_some_iff.1 hv
  obtain ⟨u, h1, h2⟩ := he a ha
  exact ⟨a, s, u, w, List.mem_cons_self .., .inl (by simp only [Sem.run_bind, h1, Result.andThen_ok, Sem.run_pure]), Done.quiet h h2⟩
theorem w1_ok {r : Option (AV × AS)} {outs : List (AV × AS)} {e : Sem Value} (hv : w1 r = some outs) (he : ∀ a, r = some a → ∃ u w', e.run P w = .ok u w' ∧ Done γ s w a.1 a.2 u w') : Ran P (do pure (.value (← e))) γ s w outs := by
  obtain ⟨a, ha, rfl⟩ := Option.map_eq_some_iff.1 hv
  obtain ⟨u, w', h1, h2⟩ := he a ha
  exact ⟨a.1, a.2, u, w', List.mem_cons_self .., .inl (by simp only [Sem.run_bind, h1, Result.andThen_ok, Sem.run_pure]), h2⟩
theorem u1_ok {r : Option AS} {outs : List (AV × AS)} {e : Sem Unit} (hv : u1 r = some outs) (he : ∀ a, r = some a → ∃ w', e.run P w = .ok () w' ∧ HR γ a w' ∧ Fr γ s w γ a w') : Ran P (do e; pure .skip) γ s w outs := by
  obtain ⟨a, ha, rfl⟩ := Option.map_eq_some_iff.1 hv
  obtain ⟨w', h1, h2, h3⟩ := he a ha
  exact ⟨undA, a, undef, w', List.mem_cons_self .., .inr ⟨by simp only [Sem.run_bind, h1, Result.andThen_ok, Sem.run_pure], rfl⟩, ⟨γ, h2, h3, und_rel γ⟩⟩
theorem parts_ok (hr : Op2 γ ρa ρ) : ∀ {ps : List (Nat × Operand)} {qs : List (Nat × AV)}, partsA ρa ps = some qs → All2 (fun p q => p.1 = q.1 ∧ RA γ p.2 q.2) qs (ps.map fun (i, x) => (i, ρ x))
  | [], _, h => by cases h; trivial
  | (i, x) :: r, _, h => by
    unfold partsA at h
    split at h
    · rename_i v vs h1 h2
      cases h
      exact ⟨⟨rfl, hr _ _ h1⟩, parts_ok hr h2⟩
    · cases h
theorem caps_ok (hr : Op2 γ ρa ρ) : ∀ {ps : List Operand} {qs : List Nat}, capsA ρa ps = some qs → All2 (RP γ) qs (ps.map ρ)
  | [], _, h => by cases h; trivial
  | x :: r, _, h => by
    unfold capsA at h
    split at h
    · rename_i v vs h1 h2
      cases h
      obtain ⟨B, d, S, k1, k2⟩ := hr _ _ h1
      exact ⟨⟨B, d, S, k1, k2⟩, caps_ok hr h2⟩
    · cases h
theorem fvs_ok (hr : Op2 γ ρa ρ) : ∀ {ps : List Operand} {qs : List Value}, fvsA ρa ps = some qs → ps.map ρ = qs
  | [], _, h => by cases h; rfl
  | x :: r, _, h => by
    unfold fvsA at h
    split at h
    · rename_i v vs h1 h2
      cases h
      obtain ⟨a, ha, hav⟩ := Option.bind_eq_some_iff.1 h1
      rw [List.map_cons, fvs_ok hr h2, fv_eq hav (hr _ _ ha)]
    · cases h
theorem isSl_some {t : Nat} (h : isSl P t = true) : ∃ e, P.underlying t = some (.slice e) := by
  unfold isSl at h
  split at h
  · rename_i e he; exact ⟨e, he⟩
  · cases h
theorem lenA_ok {t ty : Nat} {a r : AV} {u : Value} (h : HR γ s w) (ha : RA γ a u) (hr : lenA P s t a = some r) : ∃ u', (Builtin.len_ #[t] ty #[u]).run P w = .ok u' w ∧ RA γ r u' := by
  unfold lenA at hr
  split at hr
  · split at hr
    · rename_i hs
      obtain ⟨e, hu⟩ := isSl_some hs
      cases hr
      obtain ⟨B, d, S, c', _, rfl, _⟩ := ha
      exact ⟨_, by simp [Builtin.len_, run_underlying hu]; rfl, rfl⟩
    · cases hr
  · split at hr
    · rename_i hs
      obtain ⟨e, hu⟩ := isSl_some hs
      cases hr
      obtain ⟨B, d, S, o', c', _, rfl, _⟩ := ha
      exact ⟨_, by simp [Builtin.len_, run_underlying hu]; rfl, rfl⟩
    · cases hr
  · rename_i l
    split at hr
    · rename_i hu
      cases hr
      have : u = .string ⟨⟨l⟩⟩ := ha
      subst this
      exact ⟨_, by simp [Builtin.len_, run_underlying hu]; rfl, rfl⟩
    · cases hr
  · split at hr
    · rename_i hs
      obtain ⟨e, hu⟩ := isSl_some hs
      cases hr
      have : u = .slice none 0 0 := ha
      subst this
      exact ⟨_, by simp [Builtin.len_, run_underlying hu]; rfl, rfl⟩
    · cases hr
  · rename_i b
    split at hr
    · rename_i es hf
      split at hr
      · rename_i hm
        have hu : ∃ k e, P.underlying t = some (.map k e) := by
          unfold isAMap at hm
          split at hm
          · rename_i k e he; exact ⟨k, e, he⟩
          · cases hm
        obtain ⟨k, e, hu⟩ := hu
        cases hr
        obtain ⟨B, d, S, hb, rfl⟩ := ha
        obtain ⟨B', d', S', cs, h1, h2, h3⟩ := h.obj _ _ (fnd_mem hf)
        rw [hb] at h1
        cases h1
        have hl : cs.size = es.length := by
          have := entsR_len h3
          have e : cs.toList.length = cs.size := Array.length_toList
          omega
        exact ⟨.int .i64 es.length, by simp [Builtin.len_, run_underlying hu, MapKept.run_getObj_map h2, hl, goInt], rfl⟩
      · cases hr
    · cases hr
  · cases hr
theorem blt_ok {b : Builtin} {ty : Nat} {args : List Operand} {ats : List Nat} {consts : Array Bool} {r : AV × AS} (h : HR γ s w) (hr : Op2 γ ρa ρ) (hb : bltA P ρa s b ty args ats = some r) :
    ∃ u w', (builtin b ats.toArray ty consts (args.map ρ).toArray).run P w = .ok (.value u) w' ∧ Done γ s w r.1 r.2 u w' := by
  unfold bltA at hb
  split at hb
  · split at hb
    · rename_i a x ha hx
      obtain ⟨u, w', k1, k2⟩ := app_ok (ty := ty) h (hr _ _ ha) (hr _ _ hx) hb
      refine ⟨u, w', ?_, k2⟩
      simp only [builtin, List.map_cons, List.map_nil, Sem.run_bind, k1, Result.andThen_ok, Sem.run_pure]
    · cases hb
  · split at hb
    · rename_i a ha
      obtain ⟨v, hv, rfl⟩ := Option.map_eq_some_iff.1 hb
      obtain ⟨u, k1, k2⟩ := lenA_ok (ty := ty) h (hr _ _ ha) hv
      refine ⟨u, w, ?_, Done.quiet h k2⟩
      simp only [builtin, List.map_cons, List.map_nil, Sem.run_bind, k1, Result.andThen_ok, Sem.run_pure]
    · cases hb
  · split at hb
    · rename_i vs hvs
      obtain ⟨v, hv, rfl⟩ := Option.map_eq_some_iff.1 hb
      obtain ⟨z, hz, hr2⟩ := Option.bind_eq_some_iff.1 hv
      have k1 := flatS_run hz w
      rw [← fvs_ok hr hvs] at k1
      refine ⟨z, w, ?_, Done.quiet h (absV_rel hr2)⟩
      simp only [builtin, Sem.run_bind, k1, Result.andThen_ok, Sem.run_pure]
    · cases hb
  · split at hb
    · rename_i vs hvs
      obtain ⟨v, hv, rfl⟩ := Option.map_eq_some_iff.1 hb
      obtain ⟨z, hz, hr2⟩ := Option.bind_eq_some_iff.1 hv
      have k1 := flatS_run hz w
      rw [← fvs_ok hr hvs] at k1
      refine ⟨z, w, ?_, Done.quiet h (absV_rel hr2)⟩
      simp only [builtin, Sem.run_bind, k1, Result.andThen_ok, Sem.run_pure]
    · cases hb
  · cases hb
end
end Go.Proofs.YteigplfldhdakaaGreatDoor.Ev
/- Any operation but a call of a function: it runs as it was reckoned. -/
namespace Go.Proofs.YteigplfldhdakaaGreatDoor.Ev
open Go Go.RowKit
section
variable {P : Program} {ks : Nat → Bool × List FV → Bool} {γ : Pl} {s : AS} {w : World} {ρa : Operand → Option AV} {ρ : Operand → Value}
theorem execOp_move {o : Oper} {x : Operand} (h : o.op = .move x ∨ o.op = .assign x) : execOp ρ o = (do pure (.value (← (pure (ρ x) : Sem Value))) : Sem Next) := by
  rcases h with h | h <;> (unfold execOp; rw [h]; rfl)
set_option maxHeartbeats 4000000 in
theorem aop_ok (hK : KeyLaw P ks) {o : Oper} {outs : List (AV × AS)} (h : HR γ s w) (hr : Op2 γ ρa ρ) (ha : aop P ks o ρa s = some outs) : Ran P (execOp ρ o) γ s w outs := by
  unfold aop at ha
  split at ha
  · rename_i x ho
    rw [execOp_move (.inl ho)]
    exact q1_ok h ha fun a e => ⟨_, rfl, hr _ _ e⟩
  · rename_i x ho
    rw [execOp_move (.inr ho)]
    exact q1_ok h ha fun a e => ⟨_, rfl, hr _ _ e⟩
  · rename_i c a b ho
    have hx : ∀ t : Bool, ρa c = some (.sc (.f (.bool t))) → execOp ρ o = (do pure (.value (← (pure (if t then ρ a else ρ b) : Sem Value))) : Sem Next) := fun t ht => by
      have : ρ c = .bool t := hr _ _ ht
      unfold execOp
      rw [ho]
      simp only [this, asBool]
      rfl
    split at ha
    · rename_i hc
      rw [hx _ hc]
      exact q1_ok h ha fun a e => ⟨_, rfl, hr _ _ e⟩
    · rename_i hc
      rw [hx _ hc]
      exact q1_ok h ha fun a e => ⟨_, rfl, hr _ _ e⟩
    · cases ha
  · rename_i t ho
    unfold execOp
    rw [ho]
    refine w1_ok ha fun a e => ?_
    obtain ⟨L, hL, rfl⟩ := Option.map_eq_some_iff.1 e
    exact alloc_ok h hL
  · rename_i t x ho
    unfold execOp
    rw [ho]
    refine w1_ok ha fun a e => ?_
    obtain ⟨L, hL, rfl⟩ := Option.map_eq_some_iff.1 e
    obtain ⟨v, hv, hl⟩ := Option.bind_eq_some_iff.1 hL
    exact box_ok h (hr _ _ hv) hl
  · rename_i t ps ho
    unfold execOp
    rw [ho]
    refine q1_ok h ha fun a e => ?_
    obtain ⟨qs, hq, hb⟩ := Option.bind_eq_some_iff.1 e
    exact build_ok (by simpa using parts_ok hr hq) hb
  · rename_i t n ps ho
    unfold execOp
    rw [ho]
    refine w1_ok ha fun a e => ?_
    obtain ⟨qs, hq, hb⟩ := Option.bind_eq_some_iff.1 e
    exact bslice_ok h (by simpa using parts_ok hr hq) hb
  · rename_i t x ho
    split at ha
    · rename_i b off hx
      split at ha
      · rename_i ty L hf
        unfold execOp
        rw [ho]
        obtain ⟨B, d, S, hb, hv⟩ := hr _ _ hx
        dsimp only
        rw [hv]
        exact q1_ok h ha fun a e => load_ok (h.obj _ _ (fnd_mem hf)) hb e
      · cases ha
    · cases ha
  · rename_i t a x ho
    split at ha
    · rename_i av xv h1 h2
      unfold execOp
      rw [ho]
      exact u1_ok ha fun s' e => store_ok h (hr _ _ h1) (hr _ _ h2) e
    · cases ha
  · rename_i x ho
    split at ha
    · rename_i b off hx
      have hv := hr _ _ hx
      obtain ⟨B, d, S, hb, hv'⟩ := hv
      have he : execOp ρ o = (do pure (.value (← (pure (ρ x) : Sem Value))) : Sem Next) := by
        unfold execOp
        rw [ho]
        simp only [hv']
        rfl
      rw [he]
      exact q1_ok h ha fun a e => ⟨_, rfl, by cases e; exact hr _ _ hx⟩
    · cases ha
  · rename_i op t x y yt ho
    split at ha
    · rename_i av bv h1 h2
      unfold execOp
      rw [ho]
      exact q1_ok h ha fun a e => binA_ok (hr _ _ h1) (hr _ _ h2) e
    · cases ha
  · rename_i op t x ho
    split at ha
    · rename_i v hv
      obtain ⟨av, h1, h2⟩ := Option.bind_eq_some_iff.1 hv
      have hx := fv_eq h2 (hr _ _ h1)
      unfold execOp
      rw [ho]
      dsimp only
      rw [hx]
      refine q1_ok h ha fun a e => ?_
      obtain ⟨z, hz, hr2⟩ := Option.bind_eq_some_iff.1 e
      exact ⟨z, flatS_run hz w, absV_rel hr2⟩
    · cases ha
  · rename_i a b x ho
    split at ha
    · rename_i v hv
      unfold execOp
      rw [ho]
      exact q1_ok h ha fun a e => convA_ok h (hr _ _ hv) e
    · cases ha
  · rename_i f first caps ho
    split at ha
    · rename_i hfi
      have hfe : first = #[] := by simpa using hfi
      subst hfe
      obtain ⟨cs, hcs, rfl⟩ := Option.map_eq_some_iff.1 ha
      refine ⟨_, s, .func (.func f) #[] (caps.map ρ), w, List.mem_cons_self .., .inl ?_, Done.quiet h ⟨caps.toList.map ρ, ?_, caps_ok hr hcs⟩⟩
      · unfold execOp
        rw [ho]
        simp [Instr.makeFunc]
      · congr 1
        apply Array.ext'
        simp
    · cases ha
  · rename_i t ho
    cases ha
    obtain ⟨u, w', h1, h2⟩ := makeMap_ok (P := P) (t := t) h
    refine ⟨_, _, u, w', List.mem_cons_self .., .inl ?_, h2⟩
    unfold execOp
    rw [ho]
    simp only [Option.map_none, Sem.run_bind, h1, Result.andThen_ok, Sem.run_pure]
  · rename_i t l c ho
    split at ha
    · rename_i lv cv h1 h2
      unfold execOp
      rw [ho]
      exact w1_ok ha fun r e => msl_ok h (hr _ _ h1) (hr _ _ h2) e
    · cases ha
  · rename_i t x lo hi mx ho
    split at ha
    · rename_i v l hh m h1 h2 h3 h4
      unfold execOp
      rw [ho]
      refine q1_ok h ha fun a e => ?_
      obtain ⟨y, hy, rfl⟩ := Option.map_eq_some_iff.1 e
      exact slice_ok (hr _ _ h1) (bnd_ok hr h2) (bnd_ok hr h3) (bnd_ok hr h4) hy
    · cases ha
  · rename_i t x f ho
    split at ha
    · rename_i b off k hx hk
      obtain ⟨B, d, S, hb, hv⟩ := hr _ _ hx
      unfold execOp
      rw [ho]
      dsimp only
      rw [hv]
      exact q1_ok h ha fun a e => ⟨_, fieldAt_ok hk, by cases e; exact ⟨B, d, S, hb, by rw [Nat.add_assoc]⟩⟩
    · cases ha
  · rename_i t x i ho
    split at ha
    · rename_i b off n c z k j e hx hi he
      split at ha
      · rename_i hc
        obtain ⟨B, d, S, c', hb, hv, hn, hcc⟩ := hr _ _ hx
        have hj : ρ i = .int k j := hr _ _ hi
        unfold execOp
        rw [ho]
        dsimp only
        rw [hv, hj]
        exact q1_ok h ha fun a e2 => ⟨_, indexAt_ok he hc.1 hc.2.1 hc.2.2, by cases e2; exact ⟨B, d, S, hb, by rw [Nat.add_assoc]⟩⟩
      · cases ha
    · cases ha
  · rename_i t x i ho
    split at ha
    · rename_i v j h1 h2
      obtain ⟨av, k1, k2⟩ := Option.bind_eq_some_iff.1 h1
      obtain ⟨jv, k3, k4⟩ := Option.bind_eq_some_iff.1 h2
      have hx := fv_eq k2 (hr _ _ k1)
      have hi := fv_eq k4 (hr _ _ k3)
      unfold execOp
      rw [ho]
      dsimp only
      rw [hx, hi]
      refine q1_ok h ha fun a e => ?_
      obtain ⟨z, hz, hr2⟩ := Option.bind_eq_some_iff.1 e
      exact ⟨z, flatS_run hz w, absV_rel hr2⟩
    · cases ha
  · rename_i t m k ok ho
    split at ha
    · rename_i mv kv h1 h2
      unfold execOp
      rw [ho]
      exact q1_ok h ha fun a e => lookA_ok hK h (hr _ _ h1) (hr _ _ h2) e
    · cases ha
  · rename_i t m k v ho
    split at ha
    · rename_i mv kv vv h1 h2 h3
      unfold execOp
      rw [ho]
      exact u1_ok ha fun s' e => updA_ok hK h (hr _ _ h1) (hr _ _ h2) (hr _ _ h3) e
    · cases ha
  · rename_i t x ho
    split at ha
    · rename_i xv hx
      unfold execOp
      rw [ho]
      exact w1_ok ha fun r e => range_ok h (hr _ _ hx) e
    · cases ha
  · rename_i it ho
    split at ha
    · rename_i xv hx
      split at ha
      · rename_i hkf
        obtain ⟨v, s', u', w', k1, k2, k3⟩ := next_ok (P := P) (ty := o.type) h (hr _ _ hx) hkf ha
        refine ⟨v, s', u', w', k1, .inl ?_, k3⟩
        unfold execOp
        rw [ho]
        simp only [Sem.run_bind, k2, Result.andThen_ok, Sem.run_pure]
      · cases ha
    · cases ha
  · rename_i it ho
    split at ha
    · rename_i xv hx
      unfold execOp
      rw [ho]
      exact q1_ok h ha fun a e => entry_ok h (hr _ _ hx) e
    · cases ha
  · rename_i x i ho
    split at ha
    · rename_i ys hx
      obtain ⟨us, hv, h2⟩ := hr _ _ hx
      unfold execOp
      rw [ho]
      dsimp only
      rw [hv]
      refine q1_ok h ha fun a e => ?_
      obtain ⟨y, hy, rfl⟩ := Option.map_eq_some_iff.1 e
      obtain ⟨u, k1, k2⟩ := All2.get i h2 hy
      exact ⟨u, by simp [Instr.extract, k1], AE.av_rel k2⟩
    · cases ha
  · rename_i b args ats ho
    obtain ⟨r, hr2, rfl⟩ := Option.map_eq_some_iff.1 ha
    obtain ⟨u, w', k1, k2⟩ := blt_ok (consts := args.map fun | .const _ => true | _ => false) h hr hr2
    refine ⟨r.1, r.2, u, w', List.mem_cons_self .., .inl ?_, k2⟩
    unfold execOp
    rw [ho]
    have e1 : (args.toList.map ρ).toArray = args.map ρ := by apply Array.ext'; simp
    have e2 : ats.toList.toArray = ats := by simp
    rw [e1, e2] at k1
    simp only [resolve, Sem.run_bind, Sem.run_pure, Result.andThen_ok, invoke]
    exact k1
  · cases ha
end
end Go.Proofs.YteigplfldhdakaaGreatDoor.Ev
