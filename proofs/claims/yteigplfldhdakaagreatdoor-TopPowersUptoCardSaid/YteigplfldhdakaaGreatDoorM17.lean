/- count, plain: the table of a list of blocks. -/
import Derived.Test.YteigplfldhdakaaGreatDoorM16
import Derived.Carry
import Derived.Maps.AppendAt
import Derived.Test.YteigplfldhdakaaGreatDoorRows
import Derived.WalkKit
import Derived.WalkSpells
import Derived.Laws.Rows
import Derived.Laws.Tables
import Derived.Deep.QuietTactic
import Derived.BigQuiet
import Derived.Deep.RegionWith
namespace Go.Proofs.YteigplfldhdakaaGreatDoor
set_option linter.unusedVariables false
set_option linter.unusedSimpArgs false
/-- where (f, t) stands -/
def posB (f t : ByteArray) : List Blk → Option Nat
  | [] => none
  | b :: r => if f = b.1 ∧ t = b.2.1 then some 0 else (posB f t r).map (· + 1)
def mapL : Nat → List Blk → List (ByteArray × ByteArray × Int)
  | _, [] => []
  | n, b :: r => (b.1, b.2.1, (n : Int)) :: mapL (n + 1) r
theorem mapL_len : ∀ (L : List Blk) (n : Nat), (mapL n L).length = L.length
  | [], _ => rfl
  | b :: r, n => by simp [mapL, mapL_len r]
theorem findT_mapL (f t : ByteArray) : ∀ (L : List Blk) (i n : Nat), findT f t i (mapL n L) = (posB f t L).map fun k => (i + k, ((n + k : Nat) : Int))
  | [], i, n => by simp [mapL, findT, posB]
  | b :: r, i, n => by
    rw [mapL, findT, posB]
    by_cases h : f = b.1 ∧ t = b.2.1
    · rw [if_pos h, if_pos h]; simp
    · rw [if_neg h, if_neg h, findT_mapL f t r]
      cases posB f t r with
      | none => rfl
      | some k => simp; omega
theorem mapL_snoc : ∀ (L : List Blk) (n : Nat) (b : Blk), mapL n (L ++ [b]) = mapL n L ++ [(b.1, b.2.1, ((n + L.length : Nat) : Int))]
  | [], n, b => by simp [mapL]
  | a :: r, n, b => by
    simp only [List.cons_append, mapL, List.length_cons]
    rw [mapL_snoc r (n + 1) b, show n + (r.length + 1) = n + 1 + r.length by omega]
theorem mapL_set : ∀ (L : List Blk) (n k : Nat) (m : Int), mapL n (L.set k ((L.getD k blk0).1, (L.getD k blk0).2.1, m)) = mapL n L
  | [], n, k, m => by simp [mapL]
  | a :: r, n, 0, m => by simp [mapL]
  | a :: r, n, k + 1, m => by
    simp only [List.set_cons_succ, mapL, List.getD_cons_succ]
    rw [mapL_set r (n + 1) k m]
theorem posB_some {f t : ByteArray} : ∀ {L : List Blk} {k : Nat}, posB f t L = some k → k < L.length ∧ (L.getD k blk0).1 = f ∧ (L.getD k blk0).2.1 = t
  | [], k, h => by simp [posB] at h
  | b :: r, k, h => by
    unfold posB at h
    by_cases hb : f = b.1 ∧ t = b.2.1
    · rw [if_pos hb] at h
      cases h
      exact ⟨by simp, hb.1.symm, hb.2.symm⟩
    · rw [if_neg hb] at h
      cases hq : posB f t r with
      | none => rw [hq] at h; cases h
      | some q =>
        rw [hq] at h
        cases h
        obtain ⟨h1, h2, h3⟩ := posB_some hq
        exact ⟨by simp; omega, by simpa using h2, by simpa using h3⟩
theorem posB_none {f t : ByteArray} : ∀ {L : List Blk}, posB f t L = none → ∀ b ∈ L, ¬ (f = b.1 ∧ t = b.2.1)
  | [], _, b, hb => by simp at hb
  | a :: r, h, b, hb => by
    unfold posB at h
    by_cases ha : f = a.1 ∧ t = a.2.1
    · rw [if_pos ha] at h; cases h
    · rw [if_neg ha] at h
      rcases List.mem_cons.1 hb with rfl | hb
      · exact ha
      · refine posB_none ?_ b hb
        cases hq : posB f t r with
        | none => rfl
        | some q => rw [hq] at h; cases h
def addB (L : List Blk) (b : Blk) : List Blk := match posB b.1 b.2.1 L with
  | some k => L.set k ((L.getD k blk0).1, (L.getD k blk0).2.1, (L.getD k blk0).2.2 + b.2.2)
  | none => L ++ [b]
def tabL (M : List Blk) : List Blk := M.foldl addB []
theorem tabL_take {M : List Blk} {k : Nat} (hk : k < M.length) : tabL (M.take (k + 1)) = addB (tabL (M.take k)) M[k] := by
  unfold tabL
  rw [List.take_add_one, List.getElem?_eq_getElem hk, List.foldl_append]
  rfl
def totB : List Blk → Int
  | [] => 0
  | b :: r => b.2.2 + totB r
theorem totB_append : ∀ (L K : List Blk), totB (L ++ K) = totB L + totB K
  | [], K => by simp [totB]
  | b :: r, K => by simp only [List.cons_append, totB]; rw [totB_append r K]; omega
theorem totB_set : ∀ (L : List Blk) (k : Nat) (x : Blk), k < L.length → totB (L.set k x) = totB L - (L.getD k blk0).2.2 + x.2.2
  | [], k, x, h => by simp at h
  | b :: r, 0, x, h => by simp [totB]; omega
  | b :: r, k + 1, x, h => by
    simp only [List.set_cons_succ, totB, List.getD_cons_succ]
    rw [totB_set r k x (by simpa using h)]
    omega
theorem totB_add (L : List Blk) (b : Blk) : totB (addB L b) = totB L + b.2.2 := by
  unfold addB
  split
  · next k hk =>
    rw [totB_set _ _ _ (posB_some hk).1]
    dsimp only
    omega
  · rw [totB_append]; simp [totB]
theorem addB_len (L : List Blk) (b : Blk) : L.length ≤ (addB L b).length ∧ (addB L b).length ≤ L.length + 1 := by
  unfold addB
  split <;> simp
/-- counts that are positive -/
def posC (L : List Blk) : Prop := ∀ x ∈ L, 1 ≤ x.2.2
theorem getD_mem {L : List Blk} {k : Nat} (h : k < L.length) : L.getD k blk0 ∈ L := by
  rw [List.getD_eq_getElem?_getD, List.getElem?_eq_getElem h]; exact List.getElem_mem h
theorem addB_mem {L : List Blk} {b x : Blk} (h : x ∈ addB L b) : (x ∈ L ∨ x = b) ∨ (∃ y ∈ L, x = (y.1, y.2.1, y.2.2 + b.2.2)) := by
  unfold addB at h
  split at h
  · next k hk =>
    rcases List.mem_or_eq_of_mem_set h with h | h
    · exact .inl (.inl h)
    · exact .inr ⟨_, getD_mem (posB_some hk).1, h⟩
  · rcases List.mem_append.1 h with h | h
    · exact .inl (.inl h)
    · exact .inl (.inr (by simpa using h))
theorem posC_add {L : List Blk} {b : Blk} (hL : posC L) (hb : 1 ≤ b.2.2) : posC (addB L b) := fun x hx => by
  rcases addB_mem hx with (h | rfl) | ⟨y, hy, rfl⟩
  · exact hL x h
  · exact hb
  · have := hL y hy
    dsimp only
    omega
theorem totB_nonneg : ∀ {L : List Blk}, posC L → 0 ≤ totB L
  | [], _ => by simp [totB]
  | b :: r, h => by
    have h1 := h b (by simp)
    have h2 := totB_nonneg (L := r) fun x hx => h x (List.mem_cons_of_mem _ hx)
    simp only [totB]
    omega
theorem le_totB : ∀ {L : List Blk}, posC L → ∀ x ∈ L, x.2.2 ≤ totB L
  | [], _, x, hx => by simp at hx
  | b :: r, h, x, hx => by
    have h1 := h b (by simp)
    have h3 : posC r := fun x hx => h x (List.mem_cons_of_mem _ hx)
    have h2 := totB_nonneg h3
    simp only [totB]
    rcases List.mem_cons.1 hx with rfl | hx
    · omega
    · have := le_totB h3 x hx
      omega
theorem sumG_some : ∀ {M : List Blk} {n r : Int}, sumG n M = some r → r = n + totB M ∧ (n ≤ 1073741824 → r ≤ 1073741824)
  | [], n, r, h => by simp [sumG] at h; subst h; simp [totB]
  | b :: l, n, r, h => by
    unfold sumG at h
    split at h
    · cases h
    · next h1 =>
      obtain ⟨h2, h3⟩ := sumG_some h
      simp only [totB]
      exact ⟨by omega, fun _ => h3 (by omega)⟩
theorem sumG_of : ∀ {M : List Blk} {n : Int}, posC M → n + totB M ≤ 1073741824 → sumG n M = some (n + totB M)
  | [], n, _, _ => by simp [sumG, totB]
  | b :: l, n, h, h2 => by
    have h3 : posC l := fun x hx => h x (List.mem_cons_of_mem _ hx)
    have h4 := totB_nonneg h3
    simp only [totB] at h2 ⊢
    unfold sumG
    rw [if_neg (by omega), sumG_of h3 (by omega)]
    congr 1
    omega
theorem sumG_take : ∀ {M : List Blk} {n r : Int} (k : Nat), posC M → sumG n M = some r → n + totB (M.take k) ≤ r
  | M, n, r, k, h, hs => by
    have h1 := (sumG_some hs).1
    have h2 := totB_append (M.take k) (M.drop k)
    rw [List.take_append_drop] at h2
    have h3 := totB_nonneg (L := M.drop k) fun x hx => h x (List.mem_of_mem_drop hx)
    omega
theorem tabL_tot : ∀ (M : List Blk) (L : List Blk), totB (M.foldl addB L) = totB L + totB M
  | [], L => by simp [totB]
  | b :: r, L => by
    rw [List.foldl_cons, tabL_tot r, totB_add]
    simp only [totB]
    omega
theorem totB_perm {L K : List Blk} (h : L.Perm K) : totB L = totB K := by
  induction h with
  | nil => rfl
  | cons x _ ih => simp only [totB]; rw [ih]
  | swap x y l => simp only [totB]; omega
  | trans _ _ h1 h2 => exact h1.trans h2
end Go.Proofs.YteigplfldhdakaaGreatDoor
/- count: Table. -/
namespace Go.Proofs.YteigplfldhdakaaGreatDoor
set_option linter.unusedVariables false
set_option linter.unusedSimpArgs false
open Go.RowKit Go.Shelf
attribute [local go_sem ↓] Go.wp_at_zero Go.wp_at_succ
theorem blkC_set : ∀ (T : List Blk) (j : Nat) (m : Int), j < T.length → (T.flatMap blkC).set (j * 3 + 2) (.int .i64 m) = (T.set j ((T.getD j blk0).1, (T.getD j blk0).2.1, m)).flatMap blkC
  | [], j, m, h => by simp at h
  | b :: r, 0, m, h => by simp [blkC]
  | b :: r, j + 1, m, h => by
    have := blkC_set r j m (by simpa using h)
    simp only [List.flatMap_cons, List.set_cons_succ, List.getD_cons_succ]
    rw [← this, show (j + 1) * 3 + 2 = (blkC b).length + (j * 3 + 2) by rw [blkC_len]; omega, List.set_append_right _ _ (by omega)]
    simp
/-- what the loop of Table has made -/
structure TabAt (w wr : World) (mb : Nat) (v : Value) (T : List Blk) : Prop where
  below : Below w.heap.size w wr
  map : MapAt wr mb (mapL 0 T)
  bl : BlS wr v T
  own : ∀ b, v.ownBlock = some b → mb < b
  mb : w.heap.size ≤ mb
theorem TabAt.laid {w wr w2 : World} {mb : Nat} {v : Value} {T : List Blk} (h : TabAt w wr mb v T) (hb : Below wr.heap.size wr w2) : TabAt w w2 mb v T :=
  ⟨bthen h.below hb, (hb.block mb (blk_lt h.map)).trans h.map, h.bl.below hb, h.own, h.mb⟩
theorem TabAt.drew {w wr : World} {mb : Nat} {v : Value} {T : List Blk} (h : TabAt w wr mb v T) : TabAt w wr.drew mb v T := ⟨h.below.drew, h.map, h.bl, h.own, h.mb⟩
theorem TabAt.bump {w wr : World} {mb gT offT c j : Nat} {T : List Blk} (h : TabAt w wr mb (.slice (some ⟨gT, offT, none⟩) T.length c) T) (hj : j < T.length) (m : Int) :
    TabAt w (wr.setCell ⟨gT, offT + j * 3 + 2, none⟩ (.int .i64 m)) mb (.slice (some ⟨gT, offT, none⟩) T.length c) (T.set j ((T.getD j blk0).1, (T.getD j blk0).2.1, m)) := by
  have ho := h.own gT rfl
  have hmb := h.mb
  refine ⟨h.below.setCell (by show w.heap.size ≤ gT; omega) _, ?_, ?_, h.own, h.mb⟩
  · rw [mapL_set]
    exact (Below.heap_setCell wr ⟨gT, offT + j * 3 + 2, none⟩ _ mb (by show mb ≠ gT; omega)).trans h.map
  · have h1 := SL.set_ h.bl (j := j * 3 + 2) (by omega) (.int .i64 m)
    unfold BlS
    rw [List.length_set, ← blkC_set T j m hj]
    rw [← Nat.add_assoc] at h1
    exact h1
theorem TabAt.put {w wr w2 : World} {mb : Nat} {A A2 : Option Addr} {c c2 : Nat} {T : List Blk} {b : Blk} (h : TabAt w wr mb (.slice A T.length c) T) (o : Obj)
    (hg : ((mapPut wr mb (mapL 0 (T ++ [b]))).alloc o).grownBy w2 (Value.slice A T.length c).ownBlock) (hs : SL w2 38 3 (.slice A2 (T.length + 1) c2) (T.length + 1) (T.flatMap blkC ++ blkC b))
    (ho : ∀ k, (Value.slice A2 (T.length + 1) c2).ownBlock = some k → (Value.slice A T.length c).ownBlock = some k ∨ ((mapPut wr mb (mapL 0 (T ++ [b]))).alloc o).heap.size ≤ k) :
    TabAt w w2 mb (.slice A2 (T ++ [b]).length c2) (T ++ [b]) := by
  have hmb := h.mb
  have hlt := blk_lt h.map
  have hsz : (mapPut wr mb (mapL 0 (T ++ [b]))).heap.size = wr.heap.size := by simp [mapPut, World.putObj]
  have hto : Touch (fun k => k = mb ∨ (Value.slice A T.length c).ownBlock = some k) wr w2 := by
    have h1 : Touch (fun k => k = mb ∨ (Value.slice A T.length c).ownBlock = some k) wr (mapPut wr mb (mapL 0 (T ++ [b]))) := ⟨rfl, rfl, rfl, by omega, fun k hk hn => mapPut_other _ (fun e => hn (.inl e))⟩
    exact ((h1.alloc o).grown hg (fun k hk => .inl (.inr hk)))
  refine ⟨hto.below h.below (fun k hk => ?_), ?_, ?_, fun k hk => ?_, hmb⟩
  · rcases hk with rfl | hk
    · exact hmb
    · have := h.own k hk; omega
  · have h1 := mapPut_at h.map (mapL 0 (T ++ [b]))
    refine (hg.block mb (by rw [World.size_alloc]; omega) (fun e => ?_)).trans (alloc_keep h1 o)
    have := h.own mb e.symm
    omega
  · unfold BlS
    rw [List.flatMap_append, List.length_append]
    simpa using hs
  · rw [List.length_append] at hk
    rcases ho k hk with h1 | h1
    · exact h.own k h1
    · rw [World.size_alloc, hsz] at h1; omega
/-- what Table hands back -/
def TableP (M : List Blk) (w : World) (e : Ending) (w' : World) : Prop :=
  Below w.heap.size w w' ∧ ((eachB M ≠ 0 ∧ e = .returned (.tuple #[.slice none 0 0, .int .i64 (eachB M)])) ∨
    (eachB M = 0 ∧ (sumG 0 M = none ∨ 4096 < (tabL M).length) ∧ e = .returned (.tuple #[.slice none 0 0, .int .i64 6])) ∨
    (eachB M = 0 ∧ sumG 0 M ≠ none ∧ (tabL M).length ≤ 4096 ∧ ∃ A c M', e = .returned (.tuple #[.slice A M'.length c, .int .i64 0]) ∧ M'.Perm (tabL M) ∧ srtd M' ∧ BlS w' (.slice A M'.length c) M' ∧
      ∀ k, (Value.slice A M'.length c).ownBlock = some k → w.heap.size ≤ k))
set_option maxRecDepth 100000 in
set_option maxHeartbeats 4000000 in
theorem table_c {w : World} {v : Value} {M : List Blk} (h : BlS w v M) (hM : ∀ b ∈ M, smallB b) (hT : Tab w) (hl : M.length ≤ 100000000) : Calls Tryz.prog 25 #[v] w (TableP M w) := by
  have heach := each_c h hM hT (by omega)
  obtain ⟨A, c, rfl, hc⟩ := SL.form h
  have HS := hid h
  by_cases he : eachB M = 0
  · rw [he] at heach
    have HE0 := hid he
    have hcnt : cntOk M := fun b hb => chkB_cnt (eachB_all he b hb)
    have HEA := hid heach
    have hsum := fun W (hb : Below w.heap.size w W) => sum_c (h.below hb) hcnt (by omega)
    cases hq : sumG 0 M with
    | none =>
      rw [hq] at hsum
      unfold sumR at hsum
      dsimp only at hsum
      have HSU := hid hsum
      have HQ := hid hq
      clear heach hsum hq he
      go_enter Tryz.func25, Tryz.ntmps25
      go_wp2_with (first
        | (go_at_call 56; refine HEA.out.mono ?_; rintro e w1 ⟨rfl, hb1⟩; have HB1 := hid hb1; clear hb1)
        | (go_at_call 28; refine (HSU.out _ HB1.out).mono ?_; rintro e w2 ⟨rfl, hb2⟩; have HB2 := hid (bthen HB1.out hb2); clear hb2))
      go_ret2
      exact ⟨HB2.out, .inr (.inl ⟨HE0.out, .inl HQ.out, rfl⟩)⟩
    | some r =>
      rw [hq] at hsum
      unfold sumR at hsum
      dsimp only at hsum
      have HSU := hid hsum
      have HQ := hid hq
      have hpos : posC M := fun b hb => (hcnt b hb).1
      have HPOS := hid hpos
      clear heach hsum hq he hpos hcnt
      have hmm := @run_makeMap Tryz.prog
      go_enter Tryz.func25, Tryz.ntmps25
      go_wp2_with (first
        | (go_at_call 56; refine HEA.out.mono ?_; rintro e w1 ⟨rfl, hb1⟩; have HB1 := hid hb1; clear hb1)
        | (go_at_call 28; refine (HSU.out _ HB1.out).mono ?_; rintro e w2 ⟨rfl, hb2⟩; have HB2 := hid (bthen HB1.out hb2); clear hb2))
      have hTA : TabAt w (w2.alloc (.map #[] 0)) w2.heap.size (.slice none 0 0) [] := ⟨balloc HB2.out _, heap_alloc_new w2 _, SL.nil _ _ _, fun b hb => by simp [Value.ownBlock] at hb, HB2.out.size⟩
      have HTA := hid hTA
      obtain ⟨mb, hmb⟩ : ∃ mb, w2.heap.size = mb := ⟨_, rfl⟩
      rw [hmb] at HTA ⊢
      clear hTA
      go_loopw [8, 28] (fun ov iv wr => ∃ (k : Nat) (A' : Option Addr) (c' : Nat) (T : List Blk), k ≤ M.length ∧ iv = .int .i64 (k : Int) ∧ ov = .slice A' T.length c' ∧ Hid (T = tabL (M.take k)) ∧ T.length ≤ k ∧ Hid (TabAt w wr mb (.slice A' T.length c') T) ∧ Hid (posC T)) (fun ov iv _ => M.length - (intOf iv).toNat)
      case atStart => exact ⟨0, none, 0, [], Nat.zero_le _, rfl, rfl, hid rfl, Nat.le_refl _, HTA, hid (fun x hx => by simp at hx)⟩
      case round =>
        obtain ⟨k, A', c', T, hk, rfl, rfl, HTE, hTl, HT, HP⟩ := hrel
        clear HTA
        by_cases hkl : k < M.length
        · have hkl2 : (k : Int) < (M.length : Int) := by omega
          obtain ⟨g, off, rfl, hgl, k0, k1, k2⟩ := BlS.at3 (HS.out.below HT.out.below) hkl
          obtain ⟨b, hbb⟩ : ∃ b, M[k] = b := ⟨_, rfl⟩
          obtain ⟨f, t, m⟩ := b
          have hstep := tabL_take hkl
          rw [← HTE.out, hbb] at hstep
          have hm1 : 1 ≤ m := by have := HPOS.out _ (List.getElem_mem hkl); rw [hbb] at this; exact this
          have htot := totB_add T (f, t, m)
          have htk := sumG_take (k + 1) HPOS.out HQ.out
          have htt : totB (tabL (M.take (k + 1))) = totB (M.take (k + 1)) := by unfold tabL; rw [tabL_tot]; simp [totB]
          have hr := (sumG_some HQ.out).2 (by omega)
          rw [hstep, htot] at htt
          dsimp only at htt
          rw [hbb] at k0 k1 k2
          dsimp only at k0 k1 k2
          have hmap := HT.out.laid (balloc (Below.refl _ wr) (.cells #[.string f, .string t, .int .i64 m] 38))
          have hlk := lookup140 hmap.map f t
          rw [findT_mapL] at hlk
          unfold twoS at hlk
          have hsl : totB T + m ≤ 1073741824 := by omega
          have hfin : posC (tabL (M.take (k + 1))) := by rw [hstep]; exact posC_add HP.out hm1
          have HSTEP := hid hstep
          have HFIN := hid hfin
          clear hbb htot htk htt hr hstep hfin
          cases hp : posB f t T with
          | some j =>
            rw [hp] at hlk
            dsimp only [Option.map] at hlk
            rw [Nat.zero_add] at hlk
            obtain ⟨hj1, hj2, hj3⟩ := posB_some hp
            obtain ⟨gT, offT, hA', hgT, t0, t1, t2⟩ := BlS.at3 hmap.bl hj1
            subst hA'
            have hTj : T[j] = T.getD j blk0 := by rw [List.getD_eq_getElem?_getD, List.getElem?_eq_getElem hj1]; rfl
            rw [hTj] at t2
            obtain ⟨nj, hnj⟩ : ∃ x, (T.getD j blk0).2.2 = x := ⟨_, rfl⟩
            rw [hnj] at t2
            have hnjle : nj ≤ totB T := by rw [← hnj]; exact le_totB HP.out _ (getD_mem hj1)
            have hnj1 : 1 ≤ nj := by rw [← hnj]; exact HP.out _ (getD_mem hj1)
            have hwr : IntKind.i64.wrap (nj + m) = nj + m := by rw [IntKind.wrap_i64]; omega
            have hj0i : (0 : Int) ≤ (j : Int) := by omega
            have hj1i : (j : Int) < (T.length : Int) := by omega
            have hfz : (wr.alloc (.cells #[.string f, .string t, .int .i64 m] 38)).frozen? ⟨gT, offT + j * 3 + 2, none⟩ = false := by
              obtain ⟨g', off', cap', hv', _, _, _, hfr⟩ := SL.open_ hmap.bl (by omega)
              cases hv'
              exact hfr _
            clear t0 t1 hTj
            go_wp2
            go_region
            have hadd : addB T (f, t, m) = T.set j ((T.getD j blk0).1, (T.getD j blk0).2.1, nj + m) := by
              unfold addB
              dsimp only
              rw [hp]
              show T.set j (_, _, (T.getD j blk0).2.2 + m) = _
              rw [hnj]
            have HT2 := hid ((hmap.bump hj1 (nj + m)).drew)
            rw [← hadd] at HT2
            have hlen : (addB T (f, t, m)).length = T.length := by rw [hadd]; simp
            rw [← HSTEP.out] at HT2 hlen
            rw [← hlen] at HT2
            clear t2 hfz hlk hmap
            go_wp2
            exact ⟨⟨k + 1, _, c', tabL (M.take (k + 1)), by omega, by simp, by rw [hlen], hid rfl, by omega, HT2, HFIN⟩, by simp [intOf]; omega⟩
          | none =>
            rw [hp] at hlk
            dsimp only [Option.map] at hlk
            have hup := update140 hmap.map f t (T.length : Int) (by rw [findT_mapL, hp]; rfl)
            have hsn := mapL_snoc T 0 (f, t, m)
            rw [Nat.zero_add] at hsn
            dsimp only at hsn
            rw [← hsn] at hup
            unfold twoS at hup
            have hadd : addB T (f, t, m) = T ++ [(f, t, m)] := by
              unfold addB
              dsimp only
              rw [hp]
            have hbx : (mapPut (wr.alloc (.cells #[.string f, .string t, .int .i64 m] 38)) mb (mapL 0 (T ++ [(f, t, m)]))).heap[wr.heap.size]? = some (.cells #[.string f, .string t, .int .i64 m] 38 (0, 0)) :=
              (mapPut_other _ (by have := blk_lt HT.out.map; omega)).trans (heap_alloc_new wr _)
            obtain ⟨x0, x1, x2, -, -, -⟩ := row3 hbx
            obtain ⟨i0, hi, hz0, hz1, hz2⟩ := info_parts info38'
            have hone : ∀ u ∈ [Value.string f, Value.string t, Value.int IntKind.i64 m], u.oneCell' = true := by simp [Value.oneCell']
            have h63 : T.length + 1 ≤ maxLen := by simp only [maxLen]; omega
            have hby : (T.length + 1) * 40 ≤ 140737488355328 := by omega
            have HMAP := hid hmap
            clear hsn hmap
            have hbl : SL (mapPut (wr.alloc (.cells #[.string f, .string t, .int .i64 m] 38)) mb (mapL 0 (T ++ [(f, t, m)]))) 38 3 (.slice A' T.length c') T.length (T.flatMap blkC) := SL.keep HMAP.out.bl fun k hk => mapPut_other _ (by have := HMAP.out.own k hk; omega)
            have hlit := SL.lit (mapPut (wr.alloc (.cells #[.string f, .string t, .int .i64 m] 38)) mb (mapL 0 (T ++ [(f, t, m)]))) 38 3 1 #[Value.string f, Value.string t, Value.int IntKind.i64 m] rfl (by simp [maxLen])
            have HBL := hid hbl
            have HLIT := hid hlit
            clear hbl hlit
            go_wp2_with (at_builtin; refine wpList_append_SLs rfl _ _ _ rfl 38 i0 _ 3 40 Tryz.underlying24 hi hz0 hz1 hz2 rfl (by decide) (.slice A' T.length c') T.length (T.flatMap blkC) rfl (HBL.out.alloc _) _ 1 [Value.string f, Value.string t, Value.int IntKind.i64 m] rfl HLIT.out hone (T.length + 1) _ rfl rfl h63 hby ?_; intro A2 c2 w2 hs2 hg2 ho2; have HT2 := hid (TabAt.put (b := (f, t, m)) HMAP.out _ hg2 hs2 ho2); clear hs2 hg2 ho2)
            rw [← hadd, ← HSTEP.out] at HT2
            have hlen : (tabL (M.take (k + 1))).length = T.length + 1 := by rw [HSTEP.out, hadd]; simp
            exact ⟨⟨k + 1, A2, c2, tabL (M.take (k + 1)), by omega, by simp, by rw [hlen], hid rfl, by omega, HT2, HFIN⟩, by simp [intOf]; omega⟩
        · obtain rfl : k = M.length := by omega
          rw [List.take_length] at HTE
          have hkl2 : ¬ (M.length : Int) < (M.length : Int) := by omega
          have hTl2 : T.length ≤ 100000000 := by omega
          have HQN : Hid (sumG 0 M ≠ none) := hid (by rw [HQ.out]; simp)
          by_cases h4 : 4096 < T.length
          · have h4i : (4096 : Int) < (T.length : Int) := by omega
            go_wp2
            go_ret2
            exact ⟨HT.out.below, .inr (.inl ⟨HE0.out, .inr (by rw [← HTE.out]; exact h4), rfl⟩)⟩
          · have h4i : ¬ (4096 : Int) < (T.length : Int) := by omega
            have hso := sortB_c HT.out.bl (by omega)
            have HSO := hid hso
            clear hso
            go_wp2_with (go_at_call 57; refine HSO.out.mono ?_; rintro e w3 ⟨rfl, M', hp, hs, hb, ht⟩; have HPM := hid hp; have HSR := hid hs; have HBM := hid hb; have HTM := hid ht; clear hp hs hb ht)
            go_ret2
            have hlen : M'.length = T.length := HPM.out.length_eq
            refine ⟨HTM.out.below HT.out.below (fun b hb => ?_), .inr (.inr ⟨HE0.out, HQN.out, by rw [← HTE.out]; omega, A', c', M', by rw [hlen]; rfl, by rw [← HTE.out]; exact HPM.out, HSR.out, by rw [hlen]; exact HBM.out, fun b hb => ?_⟩)⟩
            · have := HT.out.own b hb
              have := HT.out.mb
              omega
            · rw [hlen] at hb
              have := HT.out.own b hb
              have := HT.out.mb
              omega
  · obtain ⟨q, hq⟩ : ∃ q, eachB M = q := ⟨_, rfl⟩
    rw [hq] at heach he
    have heb : (q != 0) = true := by rw [bne_iff_ne]; exact he
    have HE := hid hq
    have HN := hid he
    have HEA := hid heach
    clear heach hq
    go_enter Tryz.func25, Tryz.ntmps25
    go_wp2_with (go_at_call 56; refine HEA.out.mono ?_; rintro e w1 ⟨rfl, hb1⟩; have HB1 := hid hb1; clear hb1)
    go_ret2
    exact ⟨HB1.out, .inl ⟨by rw [HE.out]; exact HN.out, by rw [HE.out]; rfl⟩⟩
end Go.Proofs.YteigplfldhdakaaGreatDoor
/- count: Pairs. -/
namespace Go.Proofs.YteigplfldhdakaaGreatDoor
set_option linter.unusedVariables false
set_option linter.unusedSimpArgs false
open Go.RowKit Go.Shelf
attribute [local go_sem ↓] Go.wp_at_zero Go.wp_at_succ
structure PairAt (W : World) (p : Addr) (x : ByteArray × ByteArray) : Prop where
  c0 : W.cell? p = some (.string x.1)
  c1 : W.cell? ⟨p.block, p.off + 1, none⟩ = some (.string x.2)
/-- v is a slice of pairs: these; wherever it came from -/
def PrS (W : World) (v : Value) (L : List (ByteArray × ByteArray)) : Prop :=
  ∃ a c, v = .slice a L.length c ∧ ∀ k (hk : k < L.length), ∃ x, a = some x ∧ x.block < W.heap.size ∧ PairAt W (x.add (k * 2)) L[k]
theorem add_block (x : Addr) (m : Nat) : (x.add m).block = x.block := by unfold Addr.add; split <;> rfl
theorem PrS.below {w W : World} {v : Value} {L : List (ByteArray × ByteArray)} (h : PrS w v L) (hb : Below w.heap.size w W) : PrS W v L := by
  obtain ⟨a, c, hv, h⟩ := h
  refine ⟨a, c, hv, fun k hk => ?_⟩
  obtain ⟨x, hx, hl, hp⟩ := h k hk
  have hbk := hb.block x.block hl
  have e := add_block x (k * 2)
  refine ⟨x, hx, Nat.lt_of_lt_of_le hl hb.size, ⟨?_, ?_⟩⟩
  · exact (World.cell?_of_block (a := x.add (k * 2)) (by rw [e]; exact hbk)).trans hp.c0
  · exact (World.cell?_of_block (a := ⟨(x.add (k * 2)).block, (x.add (k * 2)).off + 1, none⟩) (by show W.heap[(x.add (k * 2)).block]? = w.heap[(x.add (k * 2)).block]?; rw [e]; exact hbk)).trans hp.c1
def smallP (L : List (ByteArray × ByteArray)) : Prop := ∀ x ∈ L, x.1.size ≤ 1048576 ∧ x.2.size ≤ 1048576
/-- the first error of pairs -/
noncomputable def prE : List (ByteArray × ByteArray) → Int
  | [] => 0
  | x :: r => if pairE x.1 x.2 ≠ 0 then pairE x.1 x.2 else prE r
/-- the blocks of pairs -/
def prM (L : List (ByteArray × ByteArray)) : List Blk := L.flatMap fun x => pairM x.1 x.2
theorem prM_take {L : List (ByteArray × ByteArray)} {k : Nat} (hk : k < L.length) : prM (L.take (k + 1)) = prM (L.take k) ++ pairM L[k].1 L[k].2 := by
  unfold prM
  rw [List.take_add_one, List.getElem?_eq_getElem hk, List.flatMap_append]
  simp
theorem ofF_mem {L : List Stp} (hL : L.length ≤ 128) : ∀ b ∈ ofF L, smallB b := fun b hb => by
  unfold ofF at hb
  obtain ⟨x, hx, hr⟩ := List.mem_filterMap.1 hb
  unfold rowB at hr
  split at hr
  · cases hr
    have h1 := readA_size (rowS L x)
    have h2 := readB_size (rowS L x)
    have h3 : (rowS L x).length ≤ L.length := by simp [rowS]; omega
    exact ⟨by dsimp only; omega, by dsimp only; omega⟩
  · cases hr
theorem ofF_len (L : List Stp) : (ofF L).length ≤ L.length + 1 := by
  unfold ofF
  exact Nat.le_trans (List.length_filterMap_le _ _) (rowsI_len L 0 0)
theorem pairE_ok {a b : ByteArray} (h : pairE a b = 0) : (∀ x ∈ pairM a b, smallB x) ∧ (pairM a b).length ≤ 129 := by
  have h1 : pairErr (bys a) (bys b) = 0 := by
    unfold pairE at h
    split at h
    · next h2 => exact h2
    · next h2 => exact absurd h h2
  have h2 := (stpsOf_ok a b h1).2
  have h3 := ofF_len (stpsOf a b)
  exact ⟨ofF_mem h2, by unfold pairM; omega⟩
theorem TableP.form {M : List Blk} {w w' : World} {e : Ending} (h : TableP M w e w') : ∃ A n c q, e = .returned (.tuple #[.slice A n c, .int .i64 q]) := by
  obtain ⟨_, h⟩ := h
  rcases h with ⟨_, h⟩ | ⟨_, _, h⟩ | ⟨_, _, _, A, c, M', h, _⟩
  · exact ⟨_, _, _, _, h⟩
  · exact ⟨_, _, _, _, h⟩
  · exact ⟨_, _, _, _, h⟩
theorem TableP.from_ {M : List Blk} {w wr w' : World} {e : Ending} (hb : Below w.heap.size w wr) (h : TableP M wr e w') : TableP M w e w' := by
  obtain ⟨h1, h2⟩ := h
  refine ⟨bthen hb h1, ?_⟩
  rcases h2 with h2 | h2 | ⟨a, b, d, A, c, M', f, g, i, j, k⟩
  · exact .inl h2
  · exact .inr (.inl h2)
  · exact .inr (.inr ⟨a, b, d, A, c, M', f, g, i, j, fun x hx => Nat.le_trans hb.size (k x hx)⟩)
/-- what Pairs hands back -/
def PairsP (L : List (ByteArray × ByteArray)) (w : World) (e : Ending) (w' : World) : Prop :=
  (65536 < L.length ∧ e = .returned (.tuple #[.slice none 0 0, .int .i64 6]) ∧ Below w.heap.size w w') ∨
  (L.length ≤ 65536 ∧ prE L ≠ 0 ∧ e = .returned (.tuple #[.slice none 0 0, .int .i64 (prE L)]) ∧ Below w.heap.size w w') ∨
  (L.length ≤ 65536 ∧ prE L = 0 ∧ (∀ b ∈ prM L, smallB b) ∧ TableP (prM L) w e w')
set_option maxRecDepth 100000 in
set_option maxHeartbeats 4000000 in
theorem pairs_c {w : World} {v : Value} {L : List (ByteArray × ByteArray)} (h : PrS w v L) (hs : smallP L) (hT : Tab w) : Calls Tryz.prog 8 #[v] w (PairsP L w) := by
  have HS := hid h
  obtain ⟨a, c, rfl, hp⟩ := h
  by_cases hl : 65536 < L.length
  · have hli : (65536 : Int) < (L.length : Int) := by omega
    go_enter Tryz.func8, Tryz.ntmps8
    go_wp2
    go_ret2
    exact .inl ⟨hl, rfl, Below.refl _ _⟩
  · have hli : ¬ (65536 : Int) < (L.length : Int) := by omega
    have HT := hid hT
    have HP := hid hp
    have HSM := hid hs
    clear hT hp hs
    go_enter Tryz.func8, Tryz.ntmps8
    go_wp2
    go_loopw [4, 14] (fun ov iv wr => ∃ (k : Nat) (A' : Option Addr) (c' : Nat), k ≤ L.length ∧ iv = .int .i64 (k : Int) ∧ ov = .slice A' (prM (L.take k)).length c' ∧ Hid (BlS wr (.slice A' (prM (L.take k)).length c') (prM (L.take k))) ∧ Hid (∀ b, (Value.slice A' (prM (L.take k)).length c').ownBlock = some b → w.heap.size ≤ b) ∧ Hid (Below w.heap.size w wr) ∧ Hid (prE L = prE (L.drop k)) ∧ Hid (∀ b ∈ prM (L.take k), smallB b) ∧ (prM (L.take k)).length ≤ k * 129) (fun ov iv _ => L.length - (intOf iv).toNat)
    case atStart => exact ⟨0, none, 0, Nat.zero_le _, rfl, rfl, hid (SL.nil _ _ _), hid (fun b hb => by simp [Value.ownBlock] at hb), hid (Below.refl _ _), hid rfl, hid (fun b hb => by simp [prM] at hb), by simp [prM]⟩
    case round =>
      obtain ⟨k, A', c', hk, rfl, rfl, HBL, HOW, HB, HE, HMS, hlen⟩ := hrel
      by_cases hkl : k < L.length
      · have hkl2 : (k : Int) < (L.length : Int) := by omega
        obtain ⟨a2, c2, hv, hp2⟩ := HS.out.below HB.out
        cases hv
        obtain ⟨x, rfl, hxl, hpa⟩ := hp2 k hkl
        obtain ⟨q0, q1⟩ := hpa
        obtain ⟨y, hy⟩ : ∃ y, L[k] = y := ⟨_, rfl⟩
        obtain ⟨f, t⟩ := y
        have hsm := HSM.out _ (List.getElem_mem hkl)
        have htk := prM_take hkl
        have hE2 : prE L = if pairE f t ≠ 0 then pairE f t else prE (L.drop (k + 1)) := by rw [HE.out, List.drop_eq_getElem_cons hkl, hy, prE]
        rw [hy] at q0 q1 hsm htk
        dsimp only at q0 q1 hsm htk
        have hpc := pair_c f t hsm.1 hsm.2 (wr.alloc (.cells #[.string f, .string t] 69)) (HT.out.bel (balloc HB.out _))
        have HPC := hid hpc
        have HE2 := hid hE2
        have HTK := hid htk
        obtain ⟨ad, had⟩ : ∃ ad, x.add (k * 2) = ad := ⟨_, rfl⟩
        rw [had] at q0 q1
        clear hpc hE2 htk hy hp2
        obtain ⟨n, hn⟩ : ∃ n, prM (L.take k) = n := ⟨_, rfl⟩
        rw [hn] at HBL HOW HTK HMS hlen ⊢
        by_cases hq : pairE f t = 0
        · have HE3 : Hid (prE L = prE (L.drop (k + 1))) := hid (by rw [HE2.out]; simp [hq])
          obtain ⟨hso, hle⟩ := pairE_ok hq
          have hpc : Calls Tryz.prog 20 #[.string f, .string t] (wr.alloc (.cells #[.string f, .string t] 69)) fun e w' => Below (wr.alloc (.cells #[.string f, .string t] 69)).heap.size (wr.alloc (.cells #[.string f, .string t] 69)) w' ∧
            ∃ A c, e = .returned (.tuple #[.slice A (pairM f t).length c, .int .i64 0]) ∧ BlS w' (.slice A (pairM f t).length c) (pairM f t) := HPC.out.mono fun e w' ⟨h1, h2⟩ => by
            rcases h2 with ⟨h2, _⟩ | ⟨_, A, c, h3, h4, _⟩
            · exact absurd hq h2
            · exact ⟨h1, A, c, h3, h4⟩
          obtain ⟨M, hM⟩ : ∃ M, pairM f t = M := ⟨_, rfl⟩
          rw [hM] at hpc HTK hso hle
          have HPC2 := hid hpc
          have HSO := hid hso
          obtain ⟨i0, hi, hz0, hz1, hz2⟩ := info_parts info38'
          have hone : ∀ u ∈ M.flatMap blkC, u.oneCell' = true := fun u hu => by
            obtain ⟨b, _, hb⟩ := List.mem_flatMap.1 hu
            exact blkC_one b u hb
          have h63 : n.length + M.length ≤ maxLen := by simp only [maxLen]; omega
          have hby : (n.length + M.length) * 40 ≤ 140737488355328 := by omega
          clear HPC hpc hq hso
          go_wp2_with (first
            | (go_at_call 20; refine HPC2.out.mono ?_; rintro e w1 ⟨hb1, A1, c1, rfl, hs1⟩; have HB1 := hid (bthen (balloc (Below.refl _ wr) _) hb1); have HS1 := hid hs1; have HBL1 := hid (HBL.out.below HB1.out); clear hb1 hs1)
            | (at_builtin; refine wpList_append_SLs rfl _ _ _ rfl 38 i0 _ 3 40 Tryz.underlying24 hi hz0 hz1 hz2 rfl (by decide) (.slice A' n.length c') n.length (n.flatMap blkC) rfl HBL1.out _ M.length (M.flatMap blkC) rfl HS1.out hone (n.length + M.length) _ rfl rfl h63 hby ?_; intro A2 c2 w2 hs2 hg2 ho2; have HS2 := hid hs2; have HG2 := hid hg2; have HO2 := hid ho2; clear hs2 hg2 ho2))
          have e1 : (prM (L.take (k + 1))).length = n.length + M.length := by rw [HTK.out, List.length_append]
          refine ⟨⟨k + 1, A2, c2, by omega, by simp, by rw [e1], hid ?_, hid (fun b hb => ?_), hid ?_, HE3, hid (fun b hb => ?_), by omega⟩, by simp [intOf]; omega⟩
          · unfold BlS
            rw [e1, HTK.out, List.flatMap_append]
            exact HS2.out
          · rw [e1] at hb
            rcases HO2.out b hb with h1 | h1
            · exact HOW.out b h1
            · have := HB1.out.size
              have := HB.out.size
              omega
          · exact (Touch.grown (F := fun k => (Value.slice A' n.length c').ownBlock = some k) ((Touch.of_below HB1.out (Nat.le_refl _)).mono (fun _ h => h.elim)) HG2.out (fun k hk => .inl hk)).below HB.out (fun b hb => HOW.out b hb)
          · rw [HTK.out] at hb
            rcases List.mem_append.1 hb with h1 | h1
            · exact HMS.out b h1
            · exact HSO.out b h1
        · obtain ⟨q, hqe⟩ : ∃ q, pairE f t = q := ⟨_, rfl⟩
          have HE3 : Hid (prE L = q) := hid (by rw [HE2.out, if_pos hq, hqe])
          rw [hqe] at hq
          have hqb : (q != 0) = true := by rw [bne_iff_ne]; exact hq
          have hpc : Calls Tryz.prog 20 #[.string f, .string t] (wr.alloc (.cells #[.string f, .string t] 69)) fun e w' => Below (wr.alloc (.cells #[.string f, .string t] 69)).heap.size (wr.alloc (.cells #[.string f, .string t] 69)) w' ∧
            e = .returned (.tuple #[.slice none 0 0, .int .i64 q]) := HPC.out.mono fun e w' ⟨h1, h2⟩ => by
            rcases h2 with ⟨_, h2⟩ | ⟨h2, _⟩
            · exact ⟨h1, by rw [h2, hqe]⟩
            · exact absurd (hqe.symm.trans h2) hq
          have HPC2 := hid hpc
          have HQ := hid hq
          clear HPC hpc hqe HE2
          go_wp2_with (go_at_call 20; refine HPC2.out.mono ?_; rintro e w1 ⟨hb1, rfl⟩; have HB1 := hid (bthen (balloc (Below.refl _ wr) _) hb1); clear hb1)
          go_ret2
          exact .inr (.inl ⟨by omega, by rw [HE3.out]; exact HQ.out, by rw [HE3.out]; rfl, bthen HB.out HB1.out⟩)
      · obtain rfl : k = L.length := by omega
        have hkl2 : ¬ (L.length : Int) < (L.length : Int) := by omega
        have hE0 : prE L = 0 := by rw [HE.out, List.drop_length, prE]
        rw [List.take_length] at HBL HOW HMS hlen ⊢
        have htb := table_c HBL.out HMS.out (HT.out.bel HB.out) (by omega)
        have HTB := hid htb
        have HE0 := hid hE0
        clear htb hE0
        go_wp2_with (go_at_call 25; refine HTB.out.mono ?_; rintro e w1 hq; obtain ⟨A5, n5, c5, q5, rfl⟩ := hq.form; have HQ := hid hq; clear hq)
        go_ret2
        exact .inr (.inr ⟨by omega, HE0.out, HMS.out, TableP.from_ HB.out HQ.out⟩)
end Go.Proofs.YteigplfldhdakaaGreatDoor
/- count, plain: a table is a lawful one. -/
namespace Go.Proofs.YteigplfldhdakaaGreatDoor
set_option linter.unusedVariables false
set_option linter.unusedSimpArgs false
def sideOk (f t : ByteArray) : Prop := Lib.validD (bys f) = true ∧ Lib.validD (bys t) = true ∧ max (Lib.runeCount f) (Lib.runeCount t) ≤ 3 ∧ f ≠ t
theorem chkB_iff (b : Blk) : chkB b = 0 ↔ sideOk b.1 b.2.1 ∧ 1 ≤ b.2.2 ∧ b.2.2 ≤ 1073741824 := by
  unfold chkB sideOk
  constructor
  · intro h
    split at h
    · cases h
    · next h1 =>
      split at h
      · cases h
      · next h2 =>
        split at h
        · cases h
        · next h3 =>
          split at h
          · cases h
          · next h4 =>
            refine ⟨⟨?_, ?_, by omega, h3⟩, by omega, by omega⟩
            · cases hq : Lib.validD (bys b.1)
              · exact absurd (.inl hq) h1
              · rfl
            · cases hq : Lib.validD (bys b.2.1)
              · exact absurd (.inr hq) h1
              · rfl
  · rintro ⟨⟨h1, h2, h3, h4⟩, h5, h6⟩
    rw [if_neg (by simp [h1, h2]), if_neg (by omega), if_neg h4, if_neg (by omega)]
def sidesIn (M L : List Blk) : Prop := ∀ x ∈ L, ∃ y ∈ M, x.1 = y.1 ∧ x.2.1 = y.2.1
theorem sidesIn_add {M L : List Blk} {b : Blk} (hL : sidesIn M L) (hb : b ∈ M) : sidesIn M (addB L b) := fun x hx => by
  rcases addB_mem hx with (h | rfl) | ⟨y, hy, rfl⟩
  · exact hL x h
  · exact ⟨_, hb, rfl, rfl⟩
  · obtain ⟨z, hz, h1, h2⟩ := hL y hy
    exact ⟨z, hz, h1, h2⟩
theorem sidesIn_fold (M : List Blk) : ∀ (K L : List Blk), (∀ b ∈ K, b ∈ M) → sidesIn M L → sidesIn M (K.foldl addB L)
  | [], L, _, h => h
  | b :: r, L, hK, h => sidesIn_fold M r (addB L b) (fun x hx => hK x (List.mem_cons_of_mem _ hx)) (sidesIn_add h (hK b (by simp)))
theorem tabL_sides (M : List Blk) : sidesIn M (tabL M) := sidesIn_fold M M [] (fun _ h => h) (fun x hx => by simp at hx)
theorem posC_fold : ∀ (K L : List Blk), posC K → posC L → posC (K.foldl addB L)
  | [], L, _, h => h
  | b :: r, L, hK, h => posC_fold r (addB L b) (fun x hx => hK x (List.mem_cons_of_mem _ hx)) (posC_add h (hK b (by simp)))
def apart (a b : Blk) : Prop := ¬ (a.1 = b.1 ∧ a.2.1 = b.2.1)
theorem apart_symm {a b : Blk} (h : apart a b) : apart b a := fun k => h ⟨k.1.symm, k.2.symm⟩
theorem pairwise_set : ∀ (L : List Blk) (k : Nat) (m : Int), L.Pairwise apart → (L.set k ((L.getD k blk0).1, (L.getD k blk0).2.1, m)).Pairwise apart
  | [], k, m, h => by simp
  | a :: r, 0, m, h => by
    simp only [List.set_cons_zero, List.getD_cons_zero]
    rw [List.pairwise_cons] at h ⊢
    exact ⟨fun x hx => h.1 x hx, h.2⟩
  | a :: r, k + 1, m, h => by
    simp only [List.set_cons_succ, List.getD_cons_succ]
    rw [List.pairwise_cons] at h ⊢
    refine ⟨fun x hx => ?_, pairwise_set r k m h.2⟩
    rcases List.mem_or_eq_of_mem_set hx with hx | rfl
    · exact h.1 x hx
    · rcases Nat.lt_or_ge k r.length with hk | hk
      · have h5 := h.1 (r.getD k blk0) (getD_mem hk)
        exact h5
      · rw [List.set_eq_of_length_le hk] at hx
        exact h.1 _ hx
theorem apart_add {L : List Blk} {b : Blk} (h : L.Pairwise apart) : (addB L b).Pairwise apart := by
  unfold addB
  split
  · exact pairwise_set _ _ _ h
  · next hn =>
    rw [List.pairwise_append]
    refine ⟨h, by simp, fun x hx y hy => ?_⟩
    rw [List.mem_singleton] at hy
    subst hy
    exact fun k => posB_none hn x hx ⟨k.1.symm, k.2.symm⟩
theorem apart_fold : ∀ (K L : List Blk), L.Pairwise apart → (K.foldl addB L).Pairwise apart
  | [], L, h => h
  | b :: r, L, h => apart_fold r (addB L b) (apart_add h)
theorem srt_strict {M : List Blk} (hs : srtd M) (ha : M.Pairwise apart) : srtT M M.length := fun j hj hj0 => by
  have h1 := hs (j - 1) j (by omega) hj
  have h2 := List.pairwise_iff_getElem.1 ha (j - 1) j (by omega) hj (by omega)
  rw [cmpT_neg]
  by_cases h3 : ltP (M.getD (j - 1) blk0) (M.getD j blk0)
  · exact h3
  · have h4 := ltP_total h3 h1
    simp only [List.getD_eq_getElem?_getD, List.getElem?_eq_getElem hj, List.getElem?_eq_getElem (show j - 1 < M.length by omega), Option.getD_some] at h4
    exact absurd h4 h2
/-- **what Table hands back is a lawful table** -/
theorem table_ok {M M' : List Blk} {s : Int} (h1 : eachB M = 0) (h2 : sumG 0 M = some s) (h3 : (tabL M).length ≤ 4096) (hp : M'.Perm (tabL M)) (hs : srtd M') :
    chkC M' = 0 ∧ sumG 0 M' = some s ∧ posC M' ∧ M'.length ≤ 4096 := by
  have hall := eachB_all h1
  have hposM : posC M := fun b hb => ((chkB_iff b).1 (hall b hb)).2.1
  have hpos : posC (tabL M) := posC_fold M [] hposM (fun x hx => by simp at hx)
  have htot : totB (tabL M) = totB M := by unfold tabL; rw [tabL_tot]; simp [totB]
  have hs2 := sumG_some h2
  have hpos' : posC M' := fun x hx => hpos x (hp.mem_iff.1 hx)
  have htot' : totB M' = totB M := (totB_perm hp).trans htot
  have hle : totB M ≤ 1073741824 := by have := hs2.2 (by omega); omega
  have hsum : sumG 0 M' = some s := by rw [sumG_of hpos' (by omega), htot']; congr 1; omega
  refine ⟨chkC_of (eachB_of fun b hb => ?_) (srt_strict hs ?_) hsum (by rw [hp.length_eq]; exact h3), hsum, hpos', by rw [hp.length_eq]; exact h3⟩
  · have hb2 := hp.mem_iff.1 hb
    obtain ⟨y, hy, e1, e2⟩ := tabL_sides M b hb2
    have hy2 := (chkB_iff y).1 (hall y hy)
    have hbl := le_totB hpos b hb2
    rw [chkB_iff, e1, e2]
    exact ⟨hy2.1, hpos b hb2, by omega⟩
  · exact (hp.pairwise_iff (fun {a b} h => apart_symm h)).2 (apart_fold M [] List.Pairwise.nil)
theorem table_small {M M' : List Blk} (h : ∀ b ∈ M, smallB b) (hp : M'.Perm (tabL M)) : ∀ b ∈ M', smallB b := fun b hb => by
  obtain ⟨y, hy, e1, e2⟩ := tabL_sides M b (hp.mem_iff.1 hb)
  have := h y hy
  unfold smallB at this ⊢
  rw [e1, e2]
  exact this
end Go.Proofs.YteigplfldhdakaaGreatDoor
/- Small words for the walks of this seat: a row of whole numbers in memory, read and written as a whole; what is below a block stays. -/
namespace Go.Proofs.YteigplfldhdakaaGreatDoor.Lc
open Go.RowKit
theorem hid {p : Prop} (h : p) : Hid p := h
theorem bdrew {B : Nat} {w W : World} (h : Below B w W) (n : Nat) : Below B w (W.drewN n) := ⟨h.os, h.tape, h.output, h.size, h.block⟩
theorem balloc {w W : World} (h : Below w.heap.size w W) (o : Obj) : Below w.heap.size w (W.alloc o) := h.alloc h.size o
theorem ret_val {v u : Value} (h : v = u) : Ending.returned v = Ending.returned u := by rw [h]
def nums (k : IntKind) (xs : List Int) : List Value := xs.map fun x => .int k x
/-- digit number i of a number -/
def dg (xs : List Int) (i : Nat) : Int := xs.getD i 0
theorem nums_length (k : IntKind) (xs : List Int) : (nums k xs).length = xs.length := by simp [nums]
theorem nums_get (k : IntKind) (xs : List Int) (i : Nat) (h : i < xs.length) : (nums k xs).toArray[i]? = some (.int k (dg xs i)) := by
  simp [nums, dg, h]
theorem nums_set (k : IntKind) (xs : List Int) (i : Nat) (x : Int) : (nums k xs).toArray.setIfInBounds i (.int k x) = (nums k (xs.set i x)).toArray := by
  simp [nums, List.map_set]
theorem dg_set (xs : List Int) (i j : Nat) (x : Int) : dg (xs.set i x) j = if i = j ∧ j < xs.length then x else dg xs j := by
  unfold dg
  simp only [List.getD_eq_getElem?_getD, List.getElem?_set]
  by_cases h : i = j
  · subst h
    by_cases h2 : i < xs.length
    · simp [h2]
    · simp [h2]
  · simp [h]
/-- Block b is a row of whole numbers of kind k, of type t. -/
def Blk (w : World) (b : Nat) (k : IntKind) (t : TypeId) (xs : List Int) : Prop := w.heap[b]? = some (.cells (nums k xs).toArray t (0, 0))
theorem Blk.lt {w : World} {b : Nat} {k : IntKind} {t : TypeId} {xs : List Int} (h : Blk w b k t xs) : b < w.heap.size := (Array.getElem?_eq_some_iff.1 h).1
theorem Blk.new (w : World) (k : IntKind) (t : TypeId) (xs : List Int) : Blk (w.alloc (.cells (nums k xs).toArray t)) w.heap.size k t xs := heap_alloc_new w _
theorem Blk.alloc {w : World} {b : Nat} {k : IntKind} {t : TypeId} {xs : List Int} (h : Blk w b k t xs) (o : Obj) : Blk (w.alloc o) b k t xs := (Below.heap_alloc w o b h.lt).trans h
theorem Blk.drewN {w : World} {b : Nat} {k : IntKind} {t : TypeId} {xs : List Int} (h : Blk w b k t xs) (n : Nat) : Blk (w.drewN n) b k t xs := h
theorem Blk.below {w w1 : World} {b : Nat} {k : IntKind} {t : TypeId} {xs : List Int} (h : Blk w b k t xs) (hb : Below w.heap.size w w1) : Blk w1 b k t xs := (hb.block b h.lt).trans h
theorem Blk.cell {w : World} {b : Nat} {k : IntKind} {t : TypeId} {xs : List Int} (h : Blk w b k t xs) (i : Nat) (hi : i < xs.length) : w.cell? ⟨b, i, none⟩ = some (.int k (dg xs i)) := by
  rw [cell_of_row w b i _ t (0, 0) h, nums_get k xs i hi]
theorem Blk.frozen {w : World} {b : Nat} {k : IntKind} {t : TypeId} {xs : List Int} (h : Blk w b k t xs) (i : Nat) : w.frozen? ⟨b, i, none⟩ = false := frozen_of_row w b i _ t h
theorem Blk.set_ {w : World} {b : Nat} {k : IntKind} {t : TypeId} {xs : List Int} (h : Blk w b k t xs) (i : Nat) (x : Int) : Blk (w.setCell ⟨b, i, none⟩ (.int k x)) b k t (xs.set i x) := by
  have := heap_setCell_same w b i _ t (.int k x) h
  rw [nums_set] at this
  exact this
theorem Blk.far {w : World} {b : Nat} {k : IntKind} {t : TypeId} {xs : List Int} (h : Blk w b k t xs) {p : Addr} (hp : b ≠ p.block) (u : Value) : Blk (w.setCell p u) b k t xs := (heap_setCell_other w p b u hp).trans h
theorem Blk.row {w : World} {b : Nat} {k : IntKind} {t : TypeId} {xs : List Int} (h : Blk w b k t xs) (ys : List Int) : Blk (w.setRow b (nums k ys).toArray) b k t ys := setRow_heap w b _ _ t (0, 0) h
theorem Blk.row_far {w : World} {b g : Nat} {k : IntKind} {t : TypeId} {xs : List Int} (h : Blk w b k t xs) (hg : b ≠ g) (cs : Array Value) : Blk (w.setRow g cs) b k t xs := (setRow_other w g b cs hg).trans h
theorem below_setRow {B g : Nat} {w0 w : World} (hb : Below B w0 w) (hBg : B ≤ g) (cs : Array Value) : Below B w0 (w.setRow g cs) :=
  hb.trans ⟨rfl, rfl, rfl, by simp, fun k hk => setRow_other _ _ _ _ (by omega)⟩
theorem nums_one (k : IntKind) (xs : List Int) : (nums k xs).toArray.all (·.oneCell') = true := by
  simp [nums, Value.oneCell']
section
variable {P : Program} {ops : Array Oper} {rest : List Oper} {o : Oper} {a : Act} {w : World} {Q : Exit → Act → World → Prop}
/-- a whole array of whole numbers, read -/
theorem load_row (hgd : o.guard = none) (ty : TypeId) (x : Operand) (ho : o.op = .load ty x) (g : Nat) (hx : a.eval x = .pointer (some ⟨g, 0, none⟩))
    {k : IntKind} {t : TypeId} {xs : List Int} (hg : Blk w g k t xs) {n : Nat} {el : TypeId} (hu : P.underlying ty = some (.array n el)) (hi : (P.info? ty).map (·.size) = some xs.length)
    (h : wpList P ops Q rest (a.put o.dst (.agg (nums k xs).toArray)) w) : wpList P ops Q (o :: rest) a w :=
  wpList_load_row hgd ty x ho g hx t _ (0, 0) _ hg hu rfl (by rw [hi]; simp [nums]) h
/-- .. and written -/
theorem store_row (hgd : o.guard = none) (ty : TypeId) (x y : Operand) (ho : o.op = .store ty x y) (g : Nat) (hx : a.eval x = .pointer (some ⟨g, 0, none⟩))
    {k : IntKind} {t : TypeId} {xs ys : List Int} (hy : a.eval y = .agg (nums k ys).toArray) (hg : Blk w g k t xs) (hl : xs.length = ys.length) (hi : (P.info? ty).map (·.size) = some ys.length)
    (h : ∀ W', W' = w.setRow g (nums k ys).toArray → wpList P ops Q rest (a.put o.dst undef) W') : wpList P ops Q (o :: rest) a w :=
  wpList_store_row hgd ty x y ho g _ hx hy t _ hg (by rw [hi]; simp [nums]) (by simp [nums, hl]) (nums_one _ _) (h _ rfl)
/-! One operation of a region that draws its order. -/
variable {md : Region.Mode} {fuel : Nat} {listed : Array Bool} {rs : List Nat} {i : Nat}
theorem rdy (hgd : o.guard = none) (hoi : ops[i]? = some o) (h : ∀ K' : Act → World → Prop, (∀ a w, wpAny P md ops Q fuel (listed.setIfInBounds i true) a w → K' a w) → Oper.wp P o a w K' Q)
    (hs : AllReady P md ops Q fuel listed a w rs) : AllReady P md ops Q fuel listed a w (i :: rs) :=
  AllReady.cons hoi (fun K' hK => by rw [if_pos (by simp [Region.wanted, hgd])]; exact h K' hK) hs
theorem rdy_load (hgd : o.guard = none) (hoi : ops[i]? = some o) (ty : TypeId) (x : Operand) (ho : o.op = .load ty x) (g : Nat) (hx : a.eval x = .pointer (some ⟨g, 0, none⟩))
    {k : IntKind} {t : TypeId} {xs : List Int} (hg : Blk w g k t xs) {n : Nat} {el : TypeId} (hu : P.underlying ty = some (.array n el)) (hi : (P.info? ty).map (·.size) = some xs.length)
    (h : wpAny P md ops Q fuel (listed.setIfInBounds i true) (a.put o.dst (.agg (nums k xs).toArray)) w)
    (hs : AllReady P md ops Q fuel listed a w rs) : AllReady P md ops Q fuel listed a w (i :: rs) :=
  rdy hgd hoi (fun _ hK => wp_load_row ty x ho g hx t _ (0, 0) _ hg hu rfl (by rw [hi]; simp [nums]) (hK _ _ h)) hs
theorem rdy_store (hgd : o.guard = none) (hoi : ops[i]? = some o) (ty : TypeId) (x y : Operand) (ho : o.op = .store ty x y) (g : Nat) (hx : a.eval x = .pointer (some ⟨g, 0, none⟩))
    {k : IntKind} {t : TypeId} {xs ys : List Int} (hy : a.eval y = .agg (nums k ys).toArray) (hg : Blk w g k t xs) (hl : xs.length = ys.length) (hi : (P.info? ty).map (·.size) = some ys.length)
    (h : ∀ W', W' = w.setRow g (nums k ys).toArray → wpAny P md ops Q fuel (listed.setIfInBounds i true) (a.put o.dst undef) W')
    (hs : AllReady P md ops Q fuel listed a w rs) : AllReady P md ops Q fuel listed a w (i :: rs) :=
  rdy hgd hoi (fun _ hK => wp_store_row ty x y ho g _ hx hy t _ hg (by rw [hi]; simp [nums]) (by simp [nums, hl]) (nums_one _ _) (hK _ _ (h _ rfl))) hs
end
end Go.Proofs.YteigplfldhdakaaGreatDoor.Lc
