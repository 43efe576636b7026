/- count: Table. -/
import Derived.Test.YteigplfldhdakaaGreatDoorE10
import Derived.Carry
import Derived.Maps.AppendAt
import Derived.Test.YteigplfldhdakaaGreatDoorRows
import Derived.WalkKit
import Derived.WalkSpells
import Derived.Laws.Rows
import Derived.Laws.Tables
import Derived.Deep.QuietTactic
import Derived.BigQuiet
import Derived.Deep.RegionWith
import Derived.Outline
set_option linter.unusedVariables false
set_option linter.unusedSimpArgs false
namespace Go.Proofs.YteigplfldhdakaaGreatDoor
open Go.RowKit Go.Shelf
attribute [local go_sem ↓] Go.wp_at_zero Go.wp_at_succ
theorem blkC_set : ∀ (T : List Blk) (j : Nat) (m : Int), j < T.length → (T.flatMap blkC).set (j * 3 + 2) (.int .i64 m) = (T.set j ((T.getD j blk0).1, (T.getD j blk0).2.1, m)).flatMap blkC
  | [], j, m, h => by simp at h
  | b :: r, 0, m, h => by simp [blkC]
  | b :: r, j + 1, m, h => by
    have := blkC_set r j m (by simpa using h)
    simp only [List.flatMap_cons, List.set_cons_succ, List.getD_cons_succ]
    rw [← this, show (j + 1) * 3 + 2 = (blkC b).length + (j * 3 + 2) by rw [blkC_len]; omega, List.set_append_right _ _ (by omega)]
    simp
/-- what the loop of Table has made -/
structure TabAt (w wr : World) (mb : Nat) (v : Value) (T : List Blk) : Prop where
  below : Below w.heap.size w wr
  map : MapAt wr mb (mapL 0 T)
  bl : BlS wr v T
  own : ∀ b, v.ownBlock = some b → mb < b
  mb : w.heap.size ≤ mb
theorem TabAt.laid {w wr w2 : World} {mb : Nat} {v : Value} {T : List Blk} (h : TabAt w wr mb v T) (hb : Below wr.heap.size wr w2) : TabAt w w2 mb v T :=
  ⟨bthen h.below hb, (hb.block mb (blk_lt h.map)).trans h.map, h.bl.below hb, h.own, h.mb⟩
theorem TabAt.drew {w wr : World} {mb : Nat} {v : Value} {T : List Blk} (h : TabAt w wr mb v T) : TabAt w wr.drew mb v T := ⟨h.below.drew, h.map, h.bl, h.own, h.mb⟩
theorem TabAt.bump {w wr : World} {mb gT offT c j : Nat} {T : List Blk} (h : TabAt w wr mb (.slice (some ⟨gT, offT, none⟩) T.length c) T) (hj : j < T.length) (m : Int) :
    TabAt w (wr.setCell ⟨gT, offT + j * 3 + 2, none⟩ (.int .i64 m)) mb (.slice (some ⟨gT, offT, none⟩) T.length c) (T.set j ((T.getD j blk0).1, (T.getD j blk0).2.1, m)) := by
  have ho := h.own gT rfl
  have hmb := h.mb
  refine ⟨h.below.setCell (by show w.heap.size ≤ gT; omega) _, ?_, ?_, h.own, h.mb⟩
  · rw [mapL_set]
    exact (Below.heap_setCell wr ⟨gT, offT + j * 3 + 2, none⟩ _ mb (by show mb ≠ gT; omega)).trans h.map
  · have h1 := SL.set_ h.bl (j := j * 3 + 2) (by omega) (.int .i64 m)
    unfold BlS
    rw [List.length_set, ← blkC_set T j m hj]
    rw [← Nat.add_assoc] at h1
    exact h1
theorem TabAt.put {w wr w2 : World} {mb : Nat} {A A2 : Option Addr} {c c2 : Nat} {T : List Blk} {b : Blk} (h : TabAt w wr mb (.slice A T.length c) T) (o : Obj)
    (hg : ((mapPut wr mb (mapL 0 (T ++ [b]))).alloc o).grownBy w2 (Value.slice A T.length c).ownBlock) (hs : SL w2 38 3 (.slice A2 (T.length + 1) c2) (T.length + 1) (T.flatMap blkC ++ blkC b))
    (ho : ∀ k, (Value.slice A2 (T.length + 1) c2).ownBlock = some k → (Value.slice A T.length c).ownBlock = some k ∨ ((mapPut wr mb (mapL 0 (T ++ [b]))).alloc o).heap.size ≤ k) :
    TabAt w w2 mb (.slice A2 (T ++ [b]).length c2) (T ++ [b]) := by
  have hmb := h.mb
  have hlt := blk_lt h.map
  have hsz : (mapPut wr mb (mapL 0 (T ++ [b]))).heap.size = wr.heap.size := by simp [mapPut, World.putObj]
  have hto : Touch (fun k => k = mb ∨ (Value.slice A T.length c).ownBlock = some k) wr w2 := by
    have h1 : Touch (fun k => k = mb ∨ (Value.slice A T.length c).ownBlock = some k) wr (mapPut wr mb (mapL 0 (T ++ [b]))) := ⟨rfl, rfl, rfl, by omega, fun k hk hn => mapPut_other _ (fun e => hn (.inl e))⟩
    exact ((h1.alloc o).grown hg (fun k hk => .inl (.inr hk)))
  refine ⟨hto.below h.below (fun k hk => ?_), ?_, ?_, fun k hk => ?_, hmb⟩
  · rcases hk with rfl | hk
    · exact hmb
    · have := h.own k hk; omega
  · have h1 := mapPut_at h.map (mapL 0 (T ++ [b]))
    refine (hg.block mb (by rw [World.size_alloc]; omega) (fun e => ?_)).trans (alloc_keep h1 o)
    have := h.own mb e.symm
    omega
  · unfold BlS
    rw [List.flatMap_append, List.length_append]
    simpa using hs
  · rw [List.length_append] at hk
    rcases ho k hk with h1 | h1
    · exact h.own k h1
    · rw [World.size_alloc, hsz] at h1; omega
/-- what Table hands back -/
def TableP (M : List Blk) (w : World) (e : Ending) (w' : World) : Prop :=
  Below w.heap.size w w' ∧ ((eachB M ≠ 0 ∧ e = .returned (.tuple #[.slice none 0 0, .int .i64 (eachB M)])) ∨
    (eachB M = 0 ∧ (sumG 0 M = none ∨ 4096 < (tabL M).length) ∧ e = .returned (.tuple #[.slice none 0 0, .int .i64 6])) ∨
    (eachB M = 0 ∧ sumG 0 M ≠ none ∧ (tabL M).length ≤ 4096 ∧ ∃ A c M', e = .returned (.tuple #[.slice A M'.length c, .int .i64 0]) ∧ M'.Perm (tabL M) ∧ srtd M' ∧ BlS w' (.slice A M'.length c) M' ∧
      ∀ k, (Value.slice A M'.length c).ownBlock = some k → w.heap.size ≤ k))
set_option maxRecDepth 100000 in
set_option maxHeartbeats 4000000 in
theorem table_c {w : World} {v : Value} {M : List Blk} (h : BlS w v M) (hM : ∀ b ∈ M, smallB b) (hT : Tab w) (hl : M.length ≤ 100000000) : Calls Tryz.prog 25 #[v] w (TableP M w) := by
  have heach := each_c h hM hT (by omega)
  obtain ⟨A, c, rfl, hc⟩ := SL.form h
  have HS := hid h
  by_cases he : eachB M = 0
  · rw [he] at heach
    have HE0 := hid he
    have hcnt : cntOk M := fun b hb => chkB_cnt (eachB_all he b hb)
    have HEA := hid heach
    have hsum := fun W (hb : Below w.heap.size w W) => sum_c (h.below hb) hcnt (by omega)
    cases hq : sumG 0 M with
    | none =>
      rw [hq] at hsum
      unfold sumR at hsum
      dsimp only at hsum
      have HSU := hid hsum
      have HQ := hid hq
      clear heach hsum hq he
      go_enter Tryz.func25, Tryz.ntmps25
      go_wp2_with (first
        | (go_at_call 56; refine HEA.out.mono ?_; rintro e w1 ⟨rfl, hb1⟩; have HB1 := hid hb1; clear hb1)
        | (go_at_call 28; refine (HSU.out _ HB1.out).mono ?_; rintro e w2 ⟨rfl, hb2⟩; have HB2 := hid (bthen HB1.out hb2); clear hb2))
      go_ret2
      exact ⟨HB2.out, .inr (.inl ⟨HE0.out, .inl HQ.out, rfl⟩)⟩
    | some r =>
      rw [hq] at hsum
      unfold sumR at hsum
      dsimp only at hsum
      have HSU := hid hsum
      have HQ := hid hq
      have hpos : posC M := fun b hb => (hcnt b hb).1
      have HPOS := hid hpos
      clear heach hsum hq he hpos hcnt
      have hmm := @run_makeMap Tryz.prog
      go_enter Tryz.func25, Tryz.ntmps25
      go_wp2_with (first
        | (go_at_call 56; refine HEA.out.mono ?_; rintro e w1 ⟨rfl, hb1⟩; have HB1 := hid hb1; clear hb1)
        | (go_at_call 28; refine (HSU.out _ HB1.out).mono ?_; rintro e w2 ⟨rfl, hb2⟩; have HB2 := hid (bthen HB1.out hb2); clear hb2))
      have hTA : TabAt w (w2.alloc (.map #[] 0)) w2.heap.size (.slice none 0 0) [] := ⟨balloc HB2.out _, heap_alloc_new w2 _, SL.nil _ _ _, fun b hb => by simp [Value.ownBlock] at hb, HB2.out.size⟩
      have HTA := hid hTA
      obtain ⟨mb, hmb⟩ : ∃ mb, w2.heap.size = mb := ⟨_, rfl⟩
      rw [hmb] at HTA ⊢
      clear hTA
      go_loopw [8, 28] (fun ov iv wr => ∃ (k : Nat) (A' : Option Addr) (c' : Nat) (T : List Blk), k ≤ M.length ∧ iv = .int .i64 (k : Int) ∧ ov = .slice A' T.length c' ∧ Hid (T = tabL (M.take k)) ∧ T.length ≤ k ∧ Hid (TabAt w wr mb (.slice A' T.length c') T) ∧ Hid (posC T)) (fun ov iv _ => M.length - (intOf iv).toNat)
      case atStart => exact ⟨0, none, 0, [], Nat.zero_le _, rfl, rfl, hid rfl, Nat.le_refl _, HTA, hid (fun x hx => by simp at hx)⟩
      case round =>
        obtain ⟨k, A', c', T, hk, rfl, rfl, HTE, hTl, HT, HP⟩ := hrel
        clear HTA
        by_cases hkl : k < M.length
        · have hkl2 : (k : Int) < (M.length : Int) := by omega
          obtain ⟨g, off, rfl, hgl, k0, k1, k2⟩ := BlS.at3 (HS.out.below HT.out.below) hkl
          obtain ⟨b, hbb⟩ : ∃ b, M[k] = b := ⟨_, rfl⟩
          obtain ⟨f, t, m⟩ := b
          have hstep := tabL_take hkl
          rw [← HTE.out, hbb] at hstep
          have hm1 : 1 ≤ m := by have := HPOS.out _ (List.getElem_mem hkl); rw [hbb] at this; exact this
          have htot := totB_add T (f, t, m)
          have htk := sumG_take (k + 1) HPOS.out HQ.out
          have htt : totB (tabL (M.take (k + 1))) = totB (M.take (k + 1)) := by unfold tabL; rw [tabL_tot]; simp [totB]
          have hr := (sumG_some HQ.out).2 (by omega)
          rw [hstep, htot] at htt
          dsimp only at htt
          rw [hbb] at k0 k1 k2
          dsimp only at k0 k1 k2
          have hmap := HT.out.laid (balloc (Below.refl _ wr) (.cells #[.string f, .string t, .int .i64 m] 38))
          have hlk := lookup140 hmap.map f t
          rw [findT_mapL] at hlk
          unfold twoS at hlk
          have hsl : totB T + m ≤ 1073741824 := by omega
          have hfin : posC (tabL (M.take (k + 1))) := by rw [hstep]; exact posC_add HP.out hm1
          have HSTEP := hid hstep
          have HFIN := hid hfin
          clear hbb htot htk htt hr hstep hfin
          cases hp : posB f t T with
          | some j =>
            rw [hp] at hlk
            dsimp only [Option.map] at hlk
            rw [Nat.zero_add] at hlk
            obtain ⟨hj1, hj2, hj3⟩ := posB_some hp
            obtain ⟨gT, offT, hA', hgT, t0, t1, t2⟩ := BlS.at3 hmap.bl hj1
            subst hA'
            have hTj : T[j] = T.getD j blk0 := by rw [List.getD_eq_getElem?_getD, List.getElem?_eq_getElem hj1]; rfl
            rw [hTj] at t2
            obtain ⟨nj, hnj⟩ : ∃ x, (T.getD j blk0).2.2 = x := ⟨_, rfl⟩
            rw [hnj] at t2
            have hnjle : nj ≤ totB T := by rw [← hnj]; exact le_totB HP.out _ (getD_mem hj1)
            have hnj1 : 1 ≤ nj := by rw [← hnj]; exact HP.out _ (getD_mem hj1)
            have hwr : IntKind.i64.wrap (nj + m) = nj + m := by rw [IntKind.wrap_i64]; omega
            have hj0i : (0 : Int) ≤ (j : Int) := by omega
            have hj1i : (j : Int) < (T.length : Int) := by omega
            have hfz : (wr.alloc (.cells #[.string f, .string t, .int .i64 m] 38)).frozen? ⟨gT, offT + j * 3 + 2, none⟩ = false := by
              obtain ⟨g', off', cap', hv', _, _, _, hfr⟩ := SL.open_ hmap.bl (by omega)
              cases hv'
              exact hfr _
            clear t0 t1 hTj
            go_wp2
            go_region
            have hadd : addB T (f, t, m) = T.set j ((T.getD j blk0).1, (T.getD j blk0).2.1, nj + m) := by
              unfold addB
              dsimp only
              rw [hp]
              show T.set j (_, _, (T.getD j blk0).2.2 + m) = _
              rw [hnj]
            have HT2 := hid ((hmap.bump hj1 (nj + m)).drew)
            rw [← hadd] at HT2
            have hlen : (addB T (f, t, m)).length = T.length := by rw [hadd]; simp
            rw [← HSTEP.out] at HT2 hlen
            rw [← hlen] at HT2
            clear t2 hfz hlk hmap
            go_wp2
            exact ⟨⟨k + 1, _, c', tabL (M.take (k + 1)), by omega, by simp, by rw [hlen], hid rfl, by omega, HT2, HFIN⟩, by simp [intOf]; omega⟩
          | none =>
            rw [hp] at hlk
            dsimp only [Option.map] at hlk
            have hup := update140 hmap.map f t (T.length : Int) (by rw [findT_mapL, hp]; rfl)
            have hsn := mapL_snoc T 0 (f, t, m)
            rw [Nat.zero_add] at hsn
            dsimp only at hsn
            rw [← hsn] at hup
            unfold twoS at hup
            have hadd : addB T (f, t, m) = T ++ [(f, t, m)] := by
              unfold addB
              dsimp only
              rw [hp]
            have hbx : (mapPut (wr.alloc (.cells #[.string f, .string t, .int .i64 m] 38)) mb (mapL 0 (T ++ [(f, t, m)]))).heap[wr.heap.size]? = some (.cells #[.string f, .string t, .int .i64 m] 38 (0, 0)) :=
              (mapPut_other _ (by have := blk_lt HT.out.map; omega)).trans (heap_alloc_new wr _)
            obtain ⟨x0, x1, x2, -, -, -⟩ := row3 hbx
            obtain ⟨i0, hi, hz0, hz1, hz2⟩ := info_parts info38'
            have hone : ∀ u ∈ [Value.string f, Value.string t, Value.int IntKind.i64 m], u.oneCell' = true := by simp [Value.oneCell']
            have h63 : T.length + 1 ≤ maxLen := by simp only [maxLen]; omega
            have hby : (T.length + 1) * 40 ≤ 140737488355328 := by omega
            have HMAP := hid hmap
            clear hsn hmap
            have hbl : SL (mapPut (wr.alloc (.cells #[.string f, .string t, .int .i64 m] 38)) mb (mapL 0 (T ++ [(f, t, m)]))) 38 3 (.slice A' T.length c') T.length (T.flatMap blkC) := SL.keep HMAP.out.bl fun k hk => mapPut_other _ (by have := HMAP.out.own k hk; omega)
            have hlit := SL.lit (mapPut (wr.alloc (.cells #[.string f, .string t, .int .i64 m] 38)) mb (mapL 0 (T ++ [(f, t, m)]))) 38 3 1 #[Value.string f, Value.string t, Value.int IntKind.i64 m] rfl (by simp [maxLen])
            have HBL := hid hbl
            have HLIT := hid hlit
            clear hbl hlit
            go_wp2_with (at_builtin; refine wpList_append_SLs rfl _ _ _ rfl 38 i0 _ 3 40 Tryz.underlying24 hi hz0 hz1 hz2 rfl (by decide) (.slice A' T.length c') T.length (T.flatMap blkC) rfl (HBL.out.alloc _) _ 1 [Value.string f, Value.string t, Value.int IntKind.i64 m] rfl HLIT.out hone (T.length + 1) _ rfl rfl h63 hby ?_; intro A2 c2 w2 hs2 hg2 ho2; have HT2 := hid (TabAt.put (b := (f, t, m)) HMAP.out _ hg2 hs2 ho2); clear hs2 hg2 ho2)
            rw [← hadd, ← HSTEP.out] at HT2
            have hlen : (tabL (M.take (k + 1))).length = T.length + 1 := by rw [HSTEP.out, hadd]; simp
            exact ⟨⟨k + 1, A2, c2, tabL (M.take (k + 1)), by omega, by simp, by rw [hlen], hid rfl, by omega, HT2, HFIN⟩, by simp [intOf]; omega⟩
        · obtain rfl : k = M.length := by omega
          rw [List.take_length] at HTE
          have hkl2 : ¬ (M.length : Int) < (M.length : Int) := by omega
          have hTl2 : T.length ≤ 100000000 := by omega
          have HQN : Hid (sumG 0 M ≠ none) := hid (by rw [HQ.out]; simp)
          by_cases h4 : 4096 < T.length
          · have h4i : (4096 : Int) < (T.length : Int) := by omega
            go_wp2
            go_ret2
            exact ⟨HT.out.below, .inr (.inl ⟨HE0.out, .inr (by rw [← HTE.out]; exact h4), rfl⟩)⟩
          · have h4i : ¬ (4096 : Int) < (T.length : Int) := by omega
            have hso := sortB_c HT.out.bl (by omega)
            have HSO := hid hso
            clear hso
            go_wp2_with (go_at_call 57; refine HSO.out.mono ?_; rintro e w3 ⟨rfl, M', hp, hs, hb, ht⟩; have HPM := hid hp; have HSR := hid hs; have HBM := hid hb; have HTM := hid ht; clear hp hs hb ht)
            go_ret2
            have hlen : M'.length = T.length := HPM.out.length_eq
            refine ⟨HTM.out.below HT.out.below (fun b hb => ?_), .inr (.inr ⟨HE0.out, HQN.out, by rw [← HTE.out]; omega, A', c', M', by rw [hlen]; rfl, by rw [← HTE.out]; exact HPM.out, HSR.out, by rw [hlen]; exact HBM.out, fun b hb => ?_⟩)⟩
            · have := HT.out.own b hb
              have := HT.out.mb
              omega
            · rw [hlen] at hb
              have := HT.out.own b hb
              have := HT.out.mb
              omega
  · obtain ⟨q, hq⟩ : ∃ q, eachB M = q := ⟨_, rfl⟩
    rw [hq] at heach he
    have heb : (q != 0) = true := by rw [bne_iff_ne]; exact he
    have HE := hid hq
    have HN := hid he
    have HEA := hid heach
    clear heach hq
    go_enter Tryz.func25, Tryz.ntmps25
    go_wp2_with (go_at_call 56; refine HEA.out.mono ?_; rintro e w1 ⟨rfl, hb1⟩; have HB1 := hid hb1; clear hb1)
    go_ret2
    exact ⟨HB1.out, .inl ⟨by rw [HE.out]; exact HN.out, by rw [HE.out]; rfl⟩⟩
/- count: Pairs. -/
structure PairAt (W : World) (p : Addr) (x : ByteArray × ByteArray) : Prop where
  c0 : W.cell? p = some (.string x.1)
  c1 : W.cell? ⟨p.block, p.off + 1, none⟩ = some (.string x.2)
/-- v is a slice of pairs: these; wherever it came from -/
def PrS (W : World) (v : Value) (L : List (ByteArray × ByteArray)) : Prop :=
  ∃ a c, v = .slice a L.length c ∧ ∀ k (hk : k < L.length), ∃ x, a = some x ∧ x.block < W.heap.size ∧ PairAt W (x.add (k * 2)) L[k]
theorem add_block (x : Addr) (m : Nat) : (x.add m).block = x.block := by unfold Addr.add; split <;> rfl
theorem PrS.below {w W : World} {v : Value} {L : List (ByteArray × ByteArray)} (h : PrS w v L) (hb : Below w.heap.size w W) : PrS W v L := by
  obtain ⟨a, c, hv, h⟩ := h
  refine ⟨a, c, hv, fun k hk => ?_⟩
  obtain ⟨x, hx, hl, hp⟩ := h k hk
  have hbk := hb.block x.block hl
  have e := add_block x (k * 2)
  refine ⟨x, hx, Nat.lt_of_lt_of_le hl hb.size, ⟨?_, ?_⟩⟩
  · exact (World.cell?_of_block (a := x.add (k * 2)) (by rw [e]; exact hbk)).trans hp.c0
  · exact (World.cell?_of_block (a := ⟨(x.add (k * 2)).block, (x.add (k * 2)).off + 1, none⟩) (by show W.heap[(x.add (k * 2)).block]? = w.heap[(x.add (k * 2)).block]?; rw [e]; exact hbk)).trans hp.c1
def smallP (L : List (ByteArray × ByteArray)) : Prop := ∀ x ∈ L, x.1.size ≤ 1048576 ∧ x.2.size ≤ 1048576
/-- the first error of pairs -/
noncomputable def prE : List (ByteArray × ByteArray) → Int
  | [] => 0
  | x :: r => if pairE x.1 x.2 ≠ 0 then pairE x.1 x.2 else prE r
/-- the blocks of pairs -/
def prM (L : List (ByteArray × ByteArray)) : List Blk := L.flatMap fun x => pairM x.1 x.2
theorem prM_take {L : List (ByteArray × ByteArray)} {k : Nat} (hk : k < L.length) : prM (L.take (k + 1)) = prM (L.take k) ++ pairM L[k].1 L[k].2 := by
  unfold prM
  rw [List.take_add_one, List.getElem?_eq_getElem hk, List.flatMap_append]
  simp
theorem ofF_mem {L : List Stp} (hL : L.length ≤ 128) : ∀ b ∈ ofF L, smallB b := fun b hb => by
  unfold ofF at hb
  obtain ⟨x, hx, hr⟩ := List.mem_filterMap.1 hb
  unfold rowB at hr
  split at hr
  · cases hr
    have h1 := readA_size (rowS L x)
    have h2 := readB_size (rowS L x)
    have h3 : (rowS L x).length ≤ L.length := by simp [rowS]; omega
    exact ⟨by dsimp only; omega, by dsimp only; omega⟩
  · cases hr
theorem ofF_len (L : List Stp) : (ofF L).length ≤ L.length + 1 := by
  unfold ofF
  exact Nat.le_trans (List.length_filterMap_le _ _) (rowsI_len L 0 0)
theorem pairE_ok {a b : ByteArray} (h : pairE a b = 0) : (∀ x ∈ pairM a b, smallB x) ∧ (pairM a b).length ≤ 129 := by
  have h1 : pairErr (bys a) (bys b) = 0 := by
    unfold pairE at h
    split at h
    · next h2 => exact h2
    · next h2 => exact absurd h h2
  have h2 := (stpsOf_ok a b h1).2
  have h3 := ofF_len (stpsOf a b)
  exact ⟨ofF_mem h2, by unfold pairM; omega⟩
theorem TableP.form {M : List Blk} {w w' : World} {e : Ending} (h : TableP M w e w') : ∃ A n c q, e = .returned (.tuple #[.slice A n c, .int .i64 q]) := by
  obtain ⟨_, h⟩ := h
  rcases h with ⟨_, h⟩ | ⟨_, _, h⟩ | ⟨_, _, _, A, c, M', h, _⟩
  · exact ⟨_, _, _, _, h⟩
  · exact ⟨_, _, _, _, h⟩
  · exact ⟨_, _, _, _, h⟩
theorem TableP.from_ {M : List Blk} {w wr w' : World} {e : Ending} (hb : Below w.heap.size w wr) (h : TableP M wr e w') : TableP M w e w' := by
  obtain ⟨h1, h2⟩ := h
  refine ⟨bthen hb h1, ?_⟩
  rcases h2 with h2 | h2 | ⟨a, b, d, A, c, M', f, g, i, j, k⟩
  · exact .inl h2
  · exact .inr (.inl h2)
  · exact .inr (.inr ⟨a, b, d, A, c, M', f, g, i, j, fun x hx => Nat.le_trans hb.size (k x hx)⟩)
/-- what Pairs hands back -/
def PairsP (L : List (ByteArray × ByteArray)) (w : World) (e : Ending) (w' : World) : Prop :=
  (65536 < L.length ∧ e = .returned (.tuple #[.slice none 0 0, .int .i64 6]) ∧ Below w.heap.size w w') ∨
  (L.length ≤ 65536 ∧ prE L ≠ 0 ∧ e = .returned (.tuple #[.slice none 0 0, .int .i64 (prE L)]) ∧ Below w.heap.size w w') ∨
  (L.length ≤ 65536 ∧ prE L = 0 ∧ (∀ b ∈ prM L, smallB b) ∧ TableP (prM L) w e w')
set_option maxRecDepth 100000 in
set_option maxHeartbeats 4000000 in
theorem pairs_c {w : World} {v : Value} {L : List (ByteArray × ByteArray)} (h : PrS w v L) (hs : smallP L) (hT : Tab w) : Calls Tryz.prog 8 #[v] w (PairsP L w) := by
  have HS := hid h
  obtain ⟨a, c, rfl, hp⟩ := h
  by_cases hl : 65536 < L.length
  · have hli : (65536 : Int) < (L.length : Int) := by omega
    go_enter Tryz.func8, Tryz.ntmps8
    go_wp2
    go_ret2
    exact .inl ⟨hl, rfl, Below.refl _ _⟩
  · have hli : ¬ (65536 : Int) < (L.length : Int) := by omega
    have HT := hid hT
    have HP := hid hp
    have HSM := hid hs
    clear hT hp hs
    go_enter Tryz.func8, Tryz.ntmps8
    go_wp2
    go_loopw [4, 14] (fun ov iv wr => ∃ (k : Nat) (A' : Option Addr) (c' : Nat), k ≤ L.length ∧ iv = .int .i64 (k : Int) ∧ ov = .slice A' (prM (L.take k)).length c' ∧ Hid (BlS wr (.slice A' (prM (L.take k)).length c') (prM (L.take k))) ∧ Hid (∀ b, (Value.slice A' (prM (L.take k)).length c').ownBlock = some b → w.heap.size ≤ b) ∧ Hid (Below w.heap.size w wr) ∧ Hid (prE L = prE (L.drop k)) ∧ Hid (∀ b ∈ prM (L.take k), smallB b) ∧ (prM (L.take k)).length ≤ k * 129) (fun ov iv _ => L.length - (intOf iv).toNat)
    case atStart => exact ⟨0, none, 0, Nat.zero_le _, rfl, rfl, hid (SL.nil _ _ _), hid (fun b hb => by simp [Value.ownBlock] at hb), hid (Below.refl _ _), hid rfl, hid (fun b hb => by simp [prM] at hb), by simp [prM]⟩
    case round =>
      obtain ⟨k, A', c', hk, rfl, rfl, HBL, HOW, HB, HE, HMS, hlen⟩ := hrel
      by_cases hkl : k < L.length
      · have hkl2 : (k : Int) < (L.length : Int) := by omega
        obtain ⟨a2, c2, hv, hp2⟩ := HS.out.below HB.out
        cases hv
        obtain ⟨x, rfl, hxl, hpa⟩ := hp2 k hkl
        obtain ⟨q0, q1⟩ := hpa
        obtain ⟨y, hy⟩ : ∃ y, L[k] = y := ⟨_, rfl⟩
        obtain ⟨f, t⟩ := y
        have hsm := HSM.out _ (List.getElem_mem hkl)
        have htk := prM_take hkl
        have hE2 : prE L = if pairE f t ≠ 0 then pairE f t else prE (L.drop (k + 1)) := by rw [HE.out, List.drop_eq_getElem_cons hkl, hy, prE]
        rw [hy] at q0 q1 hsm htk
        dsimp only at q0 q1 hsm htk
        have hpc := pair_c f t hsm.1 hsm.2 (wr.alloc (.cells #[.string f, .string t] 69)) (HT.out.bel (balloc HB.out _))
        have HPC := hid hpc
        have HE2 := hid hE2
        have HTK := hid htk
        obtain ⟨ad, had⟩ : ∃ ad, x.add (k * 2) = ad := ⟨_, rfl⟩
        rw [had] at q0 q1
        clear hpc hE2 htk hy hp2
        obtain ⟨n, hn⟩ : ∃ n, prM (L.take k) = n := ⟨_, rfl⟩
        rw [hn] at HBL HOW HTK HMS hlen ⊢
        by_cases hq : pairE f t = 0
        · have HE3 : Hid (prE L = prE (L.drop (k + 1))) := hid (by rw [HE2.out]; simp [hq])
          obtain ⟨hso, hle⟩ := pairE_ok hq
          have hpc : Calls Tryz.prog 20 #[.string f, .string t] (wr.alloc (.cells #[.string f, .string t] 69)) fun e w' => Below (wr.alloc (.cells #[.string f, .string t] 69)).heap.size (wr.alloc (.cells #[.string f, .string t] 69)) w' ∧
            ∃ A c, e = .returned (.tuple #[.slice A (pairM f t).length c, .int .i64 0]) ∧ BlS w' (.slice A (pairM f t).length c) (pairM f t) := HPC.out.mono fun e w' ⟨h1, h2⟩ => by
            rcases h2 with ⟨h2, _⟩ | ⟨_, A, c, h3, h4, _⟩
            · exact absurd hq h2
            · exact ⟨h1, A, c, h3, h4⟩
          obtain ⟨M, hM⟩ : ∃ M, pairM f t = M := ⟨_, rfl⟩
          rw [hM] at hpc HTK hso hle
          have HPC2 := hid hpc
          have HSO := hid hso
          obtain ⟨i0, hi, hz0, hz1, hz2⟩ := info_parts info38'
          have hone : ∀ u ∈ M.flatMap blkC, u.oneCell' = true := fun u hu => by
            obtain ⟨b, _, hb⟩ := List.mem_flatMap.1 hu
            exact blkC_one b u hb
          have h63 : n.length + M.length ≤ maxLen := by simp only [maxLen]; omega
          have hby : (n.length + M.length) * 40 ≤ 140737488355328 := by omega
          clear HPC hpc hq hso
          go_wp2_with (first
            | (go_at_call 20; refine HPC2.out.mono ?_; rintro e w1 ⟨hb1, A1, c1, rfl, hs1⟩; have HB1 := hid (bthen (balloc (Below.refl _ wr) _) hb1); have HS1 := hid hs1; have HBL1 := hid (HBL.out.below HB1.out); clear hb1 hs1)
            | (at_builtin; refine wpList_append_SLs rfl _ _ _ rfl 38 i0 _ 3 40 Tryz.underlying24 hi hz0 hz1 hz2 rfl (by decide) (.slice A' n.length c') n.length (n.flatMap blkC) rfl HBL1.out _ M.length (M.flatMap blkC) rfl HS1.out hone (n.length + M.length) _ rfl rfl h63 hby ?_; intro A2 c2 w2 hs2 hg2 ho2; have HS2 := hid hs2; have HG2 := hid hg2; have HO2 := hid ho2; clear hs2 hg2 ho2))
          have e1 : (prM (L.take (k + 1))).length = n.length + M.length := by rw [HTK.out, List.length_append]
          refine ⟨⟨k + 1, A2, c2, by omega, by simp, by rw [e1], hid ?_, hid (fun b hb => ?_), hid ?_, HE3, hid (fun b hb => ?_), by omega⟩, by simp [intOf]; omega⟩
          · unfold BlS
            rw [e1, HTK.out, List.flatMap_append]
            exact HS2.out
          · rw [e1] at hb
            rcases HO2.out b hb with h1 | h1
            · exact HOW.out b h1
            · have := HB1.out.size
              have := HB.out.size
              omega
          · exact (Touch.grown (F := fun k => (Value.slice A' n.length c').ownBlock = some k) ((Touch.of_below HB1.out (Nat.le_refl _)).mono (fun _ h => h.elim)) HG2.out (fun k hk => .inl hk)).below HB.out (fun b hb => HOW.out b hb)
          · rw [HTK.out] at hb
            rcases List.mem_append.1 hb with h1 | h1
            · exact HMS.out b h1
            · exact HSO.out b h1
        · obtain ⟨q, hqe⟩ : ∃ q, pairE f t = q := ⟨_, rfl⟩
          have HE3 : Hid (prE L = q) := hid (by rw [HE2.out, if_pos hq, hqe])
          rw [hqe] at hq
          have hqb : (q != 0) = true := by rw [bne_iff_ne]; exact hq
          have hpc : Calls Tryz.prog 20 #[.string f, .string t] (wr.alloc (.cells #[.string f, .string t] 69)) fun e w' => Below (wr.alloc (.cells #[.string f, .string t] 69)).heap.size (wr.alloc (.cells #[.string f, .string t] 69)) w' ∧
            e = .returned (.tuple #[.slice none 0 0, .int .i64 q]) := HPC.out.mono fun e w' ⟨h1, h2⟩ => by
            rcases h2 with ⟨_, h2⟩ | ⟨h2, _⟩
            · exact ⟨h1, by rw [h2, hqe]⟩
            · exact absurd (hqe.symm.trans h2) hq
          have HPC2 := hid hpc
          have HQ := hid hq
          clear HPC hpc hqe HE2
          go_wp2_with (go_at_call 20; refine HPC2.out.mono ?_; rintro e w1 ⟨hb1, rfl⟩; have HB1 := hid (bthen (balloc (Below.refl _ wr) _) hb1); clear hb1)
          go_ret2
          exact .inr (.inl ⟨by omega, by rw [HE3.out]; exact HQ.out, by rw [HE3.out]; rfl, bthen HB.out HB1.out⟩)
      · obtain rfl : k = L.length := by omega
        have hkl2 : ¬ (L.length : Int) < (L.length : Int) := by omega
        have hE0 : prE L = 0 := by rw [HE.out, List.drop_length, prE]
        rw [List.take_length] at HBL HOW HMS hlen ⊢
        have htb := table_c HBL.out HMS.out (HT.out.bel HB.out) (by omega)
        have HTB := hid htb
        have HE0 := hid hE0
        clear htb hE0
        go_wp2_with (go_at_call 25; refine HTB.out.mono ?_; rintro e w1 hq; obtain ⟨A5, n5, c5, q5, rfl⟩ := hq.form; have HQ := hid hq; clear hq)
        go_ret2
        exact .inr (.inr ⟨by omega, HE0.out, HMS.out, TableP.from_ HB.out HQ.out⟩)
end Go.Proofs.YteigplfldhdakaaGreatDoor
/- count, plain: a table is a lawful one. -/
namespace Go.Proofs.YteigplfldhdakaaGreatDoor
def sideOk (f t : ByteArray) : Prop := Lib.validD (bys f) = true ∧ Lib.validD (bys t) = true ∧ max (Lib.runeCount f) (Lib.runeCount t) ≤ 3 ∧ f ≠ t
theorem chkB_iff (b : Blk) : chkB b = 0 ↔ sideOk b.1 b.2.1 ∧ 1 ≤ b.2.2 ∧ b.2.2 ≤ 1073741824 := by
  unfold chkB sideOk
  constructor
  · intro h
    split at h
    · cases h
    · next h1 =>
      split at h
      · cases h
      · next h2 =>
        split at h
        · cases h
        · next h3 =>
          split at h
          · cases h
          · next h4 =>
            refine ⟨⟨?_, ?_, by omega, h3⟩, by omega, by omega⟩
            · cases hq : Lib.validD (bys b.1)
              · exact absurd (.inl hq) h1
              · rfl
            · cases hq : Lib.validD (bys b.2.1)
              · exact absurd (.inr hq) h1
              · rfl
  · rintro ⟨⟨h1, h2, h3, h4⟩, h5, h6⟩
    rw [if_neg (by simp [h1, h2]), if_neg (by omega), if_neg h4, if_neg (by omega)]
def sidesIn (M L : List Blk) : Prop := ∀ x ∈ L, ∃ y ∈ M, x.1 = y.1 ∧ x.2.1 = y.2.1
theorem sidesIn_add {M L : List Blk} {b : Blk} (hL : sidesIn M L) (hb : b ∈ M) : sidesIn M (addB L b) := fun x hx => by
  rcases addB_mem hx with (h | rfl) | ⟨y, hy, rfl⟩
  · exact hL x h
  · exact ⟨_, hb, rfl, rfl⟩
  · obtain ⟨z, hz, h1, h2⟩ := hL y hy
    exact ⟨z, hz, h1, h2⟩
theorem sidesIn_fold (M : List Blk) : ∀ (K L : List Blk), (∀ b ∈ K, b ∈ M) → sidesIn M L → sidesIn M (K.foldl addB L)
  | [], L, _, h => h
  | b :: r, L, hK, h => sidesIn_fold M r (addB L b) (fun x hx => hK x (List.mem_cons_of_mem _ hx)) (sidesIn_add h (hK b (by simp)))
theorem tabL_sides (M : List Blk) : sidesIn M (tabL M) := sidesIn_fold M M [] (fun _ h => h) (fun x hx => by simp at hx)
theorem posC_fold : ∀ (K L : List Blk), posC K → posC L → posC (K.foldl addB L)
  | [], L, _, h => h
  | b :: r, L, hK, h => posC_fold r (addB L b) (fun x hx => hK x (List.mem_cons_of_mem _ hx)) (posC_add h (hK b (by simp)))
def apart (a b : Blk) : Prop := ¬ (a.1 = b.1 ∧ a.2.1 = b.2.1)
theorem apart_symm {a b : Blk} (h : apart a b) : apart b a := fun k => h ⟨k.1.symm, k.2.symm⟩
theorem pairwise_set : ∀ (L : List Blk) (k : Nat) (m : Int), L.Pairwise apart → (L.set k ((L.getD k blk0).1, (L.getD k blk0).2.1, m)).Pairwise apart
  | [], k, m, h => by simp
  | a :: r, 0, m, h => by
    simp only [List.set_cons_zero, List.getD_cons_zero]
    rw [List.pairwise_cons] at h ⊢
    exact ⟨fun x hx => h.1 x hx, h.2⟩
  | a :: r, k + 1, m, h => by
    simp only [List.set_cons_succ, List.getD_cons_succ]
    rw [List.pairwise_cons] at h ⊢
    refine ⟨fun x hx => ?_, pairwise_set r k m h.2⟩
    rcases List.mem_or_eq_of_mem_set hx with hx | rfl
    · exact h.1 x hx
    · rcases Nat.lt_or_ge k r.length with hk | hk
      · have h5 := h.1 (r.getD k blk0) (getD_mem hk)
        exact h5
      · rw [List.set_eq_of_length_le hk] at hx
        exact h.1 _ hx
theorem apart_add {L : List Blk} {b : Blk} (h : L.Pairwise apart) : (addB L b).Pairwise apart := by
  unfold addB
  split
  · exact pairwise_set _ _ _ h
  · next hn =>
    rw [List.pairwise_append]
    refine ⟨h, by simp, fun x hx y hy => ?_⟩
    rw [List.mem_singleton] at hy
    subst hy
    exact fun k => posB_none hn x hx ⟨k.1.symm, k.2.symm⟩
theorem apart_fold : ∀ (K L : List Blk), L.Pairwise apart → (K.foldl addB L).Pairwise apart
  | [], L, h => h
  | b :: r, L, h => apart_fold r (addB L b) (apart_add h)
theorem srt_strict {M : List Blk} (hs : srtd M) (ha : M.Pairwise apart) : srtT M M.length := fun j hj hj0 => by
  have h1 := hs (j - 1) j (by omega) hj
  have h2 := List.pairwise_iff_getElem.1 ha (j - 1) j (by omega) hj (by omega)
  rw [cmpT_neg]
  by_cases h3 : ltP (M.getD (j - 1) blk0) (M.getD j blk0)
  · exact h3
  · have h4 := ltP_total h3 h1
    simp only [List.getD_eq_getElem?_getD, List.getElem?_eq_getElem hj, List.getElem?_eq_getElem (show j - 1 < M.length by omega), Option.getD_some] at h4
    exact absurd h4 h2
/-- **what Table hands back is a lawful table** -/
theorem table_ok {M M' : List Blk} {s : Int} (h1 : eachB M = 0) (h2 : sumG 0 M = some s) (h3 : (tabL M).length ≤ 4096) (hp : M'.Perm (tabL M)) (hs : srtd M') :
    chkC M' = 0 ∧ sumG 0 M' = some s ∧ posC M' ∧ M'.length ≤ 4096 := by
  have hall := eachB_all h1
  have hposM : posC M := fun b hb => ((chkB_iff b).1 (hall b hb)).2.1
  have hpos : posC (tabL M) := posC_fold M [] hposM (fun x hx => by simp at hx)
  have htot : totB (tabL M) = totB M := by unfold tabL; rw [tabL_tot]; simp [totB]
  have hs2 := sumG_some h2
  have hpos' : posC M' := fun x hx => hpos x (hp.mem_iff.1 hx)
  have htot' : totB M' = totB M := (totB_perm hp).trans htot
  have hle : totB M ≤ 1073741824 := by have := hs2.2 (by omega); omega
  have hsum : sumG 0 M' = some s := by rw [sumG_of hpos' (by omega), htot']; congr 1; omega
  refine ⟨chkC_of (eachB_of fun b hb => ?_) (srt_strict hs ?_) hsum (by rw [hp.length_eq]; exact h3), hsum, hpos', by rw [hp.length_eq]; exact h3⟩
  · have hb2 := hp.mem_iff.1 hb
    obtain ⟨y, hy, e1, e2⟩ := tabL_sides M b hb2
    have hy2 := (chkB_iff y).1 (hall y hy)
    have hbl := le_totB hpos b hb2
    rw [chkB_iff, e1, e2]
    exact ⟨hy2.1, hpos b hb2, by omega⟩
  · exact (hp.pairwise_iff (fun {a b} h => apart_symm h)).2 (apart_fold M [] List.Pairwise.nil)
theorem table_small {M M' : List Blk} (h : ∀ b ∈ M, smallB b) (hp : M'.Perm (tabL M)) : ∀ b ∈ M', smallB b := fun b hb => by
  obtain ⟨y, hy, e1, e2⟩ := tabL_sides M b (hp.mem_iff.1 hb)
  have := h y hy
  unfold smallB at this ⊢
  rw [e1, e2]
  exact this
end Go.Proofs.YteigplfldhdakaaGreatDoor
/- Small words for the walks of this seat: a row of whole numbers in memory, read and written as a whole; what is below a block stays. -/
namespace Go.Proofs.YteigplfldhdakaaGreatDoor.Lc
open Go.RowKit
theorem hid {p : Prop} (h : p) : Hid p := h
theorem bdrew {B : Nat} {w W : World} (h : Below B w W) (n : Nat) : Below B w (W.drewN n) := ⟨h.os, h.tape, h.output, h.size, h.block⟩
theorem balloc {w W : World} (h : Below w.heap.size w W) (o : Obj) : Below w.heap.size w (W.alloc o) := h.alloc h.size o
theorem ret_val {v u : Value} (h : v = u) : Ending.returned v = Ending.returned u := by rw [h]
def nums (k : IntKind) (xs : List Int) : List Value := xs.map fun x => .int k x
/-- digit number i of a number -/
def dg (xs : List Int) (i : Nat) : Int := xs.getD i 0
theorem nums_length (k : IntKind) (xs : List Int) : (nums k xs).length = xs.length := by simp [nums]
theorem nums_get (k : IntKind) (xs : List Int) (i : Nat) (h : i < xs.length) : (nums k xs).toArray[i]? = some (.int k (dg xs i)) := by
  simp [nums, dg, h]
theorem nums_set (k : IntKind) (xs : List Int) (i : Nat) (x : Int) : (nums k xs).toArray.setIfInBounds i (.int k x) = (nums k (xs.set i x)).toArray := by
  simp [nums, List.map_set]
theorem dg_set (xs : List Int) (i j : Nat) (x : Int) : dg (xs.set i x) j = if i = j ∧ j < xs.length then x else dg xs j := by
  unfold dg
  simp only [List.getD_eq_getElem?_getD, List.getElem?_set]
  by_cases h : i = j
  · subst h
    by_cases h2 : i < xs.length
    · simp [h2]
    · simp [h2]
  · simp [h]
/-- Block b is a row of whole numbers of kind k, of type t. -/
def Blk (w : World) (b : Nat) (k : IntKind) (t : TypeId) (xs : List Int) : Prop := w.heap[b]? = some (.cells (nums k xs).toArray t (0, 0))
theorem Blk.lt {w : World} {b : Nat} {k : IntKind} {t : TypeId} {xs : List Int} (h : Blk w b k t xs) : b < w.heap.size := (Array.getElem?_eq_some_iff.1 h).1
theorem Blk.new (w : World) (k : IntKind) (t : TypeId) (xs : List Int) : Blk (w.alloc (.cells (nums k xs).toArray t)) w.heap.size k t xs := heap_alloc_new w _
theorem Blk.alloc {w : World} {b : Nat} {k : IntKind} {t : TypeId} {xs : List Int} (h : Blk w b k t xs) (o : Obj) : Blk (w.alloc o) b k t xs := (Below.heap_alloc w o b h.lt).trans h
theorem Blk.drewN {w : World} {b : Nat} {k : IntKind} {t : TypeId} {xs : List Int} (h : Blk w b k t xs) (n : Nat) : Blk (w.drewN n) b k t xs := h
theorem Blk.below {w w1 : World} {b : Nat} {k : IntKind} {t : TypeId} {xs : List Int} (h : Blk w b k t xs) (hb : Below w.heap.size w w1) : Blk w1 b k t xs := (hb.block b h.lt).trans h
theorem Blk.cell {w : World} {b : Nat} {k : IntKind} {t : TypeId} {xs : List Int} (h : Blk w b k t xs) (i : Nat) (hi : i < xs.length) : w.cell? ⟨b, i, none⟩ = some (.int k (dg xs i)) := by
  rw [cell_of_row w b i _ t (0, 0) h, nums_get k xs i hi]
theorem Blk.frozen {w : World} {b : Nat} {k : IntKind} {t : TypeId} {xs : List Int} (h : Blk w b k t xs) (i : Nat) : w.frozen? ⟨b, i, none⟩ = false := frozen_of_row w b i _ t h
theorem Blk.set_ {w : World} {b : Nat} {k : IntKind} {t : TypeId} {xs : List Int} (h : Blk w b k t xs) (i : Nat) (x : Int) : Blk (w.setCell ⟨b, i, none⟩ (.int k x)) b k t (xs.set i x) := by
  have := heap_setCell_same w b i _ t (.int k x) h
  rw [nums_set] at this
  exact this
theorem Blk.far {w : World} {b : Nat} {k : IntKind} {t : TypeId} {xs : List Int} (h : Blk w b k t xs) {p : Addr} (hp : b ≠ p.block) (u : Value) : Blk (w.setCell p u) b k t xs := (heap_setCell_other w p b u hp).trans h
theorem Blk.row {w : World} {b : Nat} {k : IntKind} {t : TypeId} {xs : List Int} (h : Blk w b k t xs) (ys : List Int) : Blk (w.setRow b (nums k ys).toArray) b k t ys := setRow_heap w b _ _ t (0, 0) h
theorem Blk.row_far {w : World} {b g : Nat} {k : IntKind} {t : TypeId} {xs : List Int} (h : Blk w b k t xs) (hg : b ≠ g) (cs : Array Value) : Blk (w.setRow g cs) b k t xs := (setRow_other w g b cs hg).trans h
theorem below_setRow {B g : Nat} {w0 w : World} (hb : Below B w0 w) (hBg : B ≤ g) (cs : Array Value) : Below B w0 (w.setRow g cs) :=
  hb.trans ⟨rfl, rfl, rfl, by simp, fun k hk => setRow_other _ _ _ _ (by omega)⟩
theorem nums_one (k : IntKind) (xs : List Int) : (nums k xs).toArray.all (·.oneCell') = true := by
  simp [nums, Value.oneCell']
section
variable {P : Program} {ops : Array Oper} {rest : List Oper} {o : Oper} {a : Act} {w : World} {Q : Exit → Act → World → Prop}
/-- a whole array of whole numbers, read -/
theorem load_row (hgd : o.guard = none) (ty : TypeId) (x : Operand) (ho : o.op = .load ty x) (g : Nat) (hx : a.eval x = .pointer (some ⟨g, 0, none⟩))
    {k : IntKind} {t : TypeId} {xs : List Int} (hg : Blk w g k t xs) {n : Nat} {el : TypeId} (hu : P.underlying ty = some (.array n el)) (hi : (P.info? ty).map (·.size) = some xs.length)
    (h : wpList P ops Q rest (a.put o.dst (.agg (nums k xs).toArray)) w) : wpList P ops Q (o :: rest) a w :=
  wpList_load_row hgd ty x ho g hx t _ (0, 0) _ hg hu rfl (by rw [hi]; simp [nums]) h
/-- .. and written -/
theorem store_row (hgd : o.guard = none) (ty : TypeId) (x y : Operand) (ho : o.op = .store ty x y) (g : Nat) (hx : a.eval x = .pointer (some ⟨g, 0, none⟩))
    {k : IntKind} {t : TypeId} {xs ys : List Int} (hy : a.eval y = .agg (nums k ys).toArray) (hg : Blk w g k t xs) (hl : xs.length = ys.length) (hi : (P.info? ty).map (·.size) = some ys.length)
    (h : ∀ W', W' = w.setRow g (nums k ys).toArray → wpList P ops Q rest (a.put o.dst undef) W') : wpList P ops Q (o :: rest) a w :=
  wpList_store_row hgd ty x y ho g _ hx hy t _ hg (by rw [hi]; simp [nums]) (by simp [nums, hl]) (nums_one _ _) (h _ rfl)
/-! One operation of a region that draws its order. -/
variable {md : Region.Mode} {fuel : Nat} {listed : Array Bool} {rs : List Nat} {i : Nat}
theorem rdy (hgd : o.guard = none) (hoi : ops[i]? = some o) (h : ∀ K' : Act → World → Prop, (∀ a w, wpAny P md ops Q fuel (listed.setIfInBounds i true) a w → K' a w) → Oper.wp P o a w K' Q)
    (hs : AllReady P md ops Q fuel listed a w rs) : AllReady P md ops Q fuel listed a w (i :: rs) :=
  AllReady.cons hoi (fun K' hK => by rw [if_pos (by simp [Region.wanted, hgd])]; exact h K' hK) hs
theorem rdy_load (hgd : o.guard = none) (hoi : ops[i]? = some o) (ty : TypeId) (x : Operand) (ho : o.op = .load ty x) (g : Nat) (hx : a.eval x = .pointer (some ⟨g, 0, none⟩))
    {k : IntKind} {t : TypeId} {xs : List Int} (hg : Blk w g k t xs) {n : Nat} {el : TypeId} (hu : P.underlying ty = some (.array n el)) (hi : (P.info? ty).map (·.size) = some xs.length)
    (h : wpAny P md ops Q fuel (listed.setIfInBounds i true) (a.put o.dst (.agg (nums k xs).toArray)) w)
    (hs : AllReady P md ops Q fuel listed a w rs) : AllReady P md ops Q fuel listed a w (i :: rs) :=
  rdy hgd hoi (fun _ hK => wp_load_row ty x ho g hx t _ (0, 0) _ hg hu rfl (by rw [hi]; simp [nums]) (hK _ _ h)) hs
theorem rdy_store (hgd : o.guard = none) (hoi : ops[i]? = some o) (ty : TypeId) (x y : Operand) (ho : o.op = .store ty x y) (g : Nat) (hx : a.eval x = .pointer (some ⟨g, 0, none⟩))
    {k : IntKind} {t : TypeId} {xs ys : List Int} (hy : a.eval y = .agg (nums k ys).toArray) (hg : Blk w g k t xs) (hl : xs.length = ys.length) (hi : (P.info? ty).map (·.size) = some ys.length)
    (h : ∀ W', W' = w.setRow g (nums k ys).toArray → wpAny P md ops Q fuel (listed.setIfInBounds i true) (a.put o.dst undef) W')
    (hs : AllReady P md ops Q fuel listed a w rs) : AllReady P md ops Q fuel listed a w (i :: rs) :=
  rdy hgd hoi (fun _ hK => wp_store_row ty x y ho g _ hx hy t _ hg (by rw [hi]; simp [nums]) (by simp [nums, hl]) (nums_one _ _) (hK _ _ (h _ rfl))) hs
end
end Go.Proofs.YteigplfldhdakaaGreatDoor.Lc
/- Plain numbers: a number of nine words, lowest first (B: how many values a word has); what double, less and square of such a number come to. No program in sight. -/
namespace Go.Proofs.YteigplfldhdakaaGreatDoor.Lc
open Go.RowKit
/-- the number that the words below n make -/
def valTo (B : Int) (xs : List Int) : Nat → Int
  | 0 => 0
  | n + 1 => valTo B xs n + dg xs n * B ^ n
theorem valTo_succ (B : Int) (xs : List Int) (n : Nat) : valTo B xs (n + 1) = valTo B xs n + dg xs n * B ^ n := rfl
/-- all words are words -/
def InR (B : Int) (xs : List Int) : Prop := xs.length = 9 ∧ ∀ j, 0 ≤ dg xs j ∧ dg xs j < B
section
variable {B : Int} (hB : 0 < B)
include hB
theorem valTo_nonneg {xs : List Int} (h : InR B xs) : ∀ n, 0 ≤ valTo B xs n
  | 0 => by simp [valTo]
  | n + 1 => by
    have h1 := valTo_nonneg h n
    have h2 := Int.mul_nonneg (h.2 n).1 (Int.le_of_lt (Int.pow_pos hB) : 0 ≤ B ^ n)
    simp only [valTo]; omega
theorem valTo_lt {xs : List Int} (h : InR B xs) : ∀ n, valTo B xs n < B ^ n
  | 0 => by simp [valTo]
  | n + 1 => by
    have h1 := valTo_lt h n
    have h2 : (dg xs n + 1) * B ^ n ≤ B * B ^ n := Int.mul_le_mul_of_nonneg_right (by have := (h.2 n).2; omega) (Int.le_of_lt (Int.pow_pos hB))
    simp only [valTo, Int.pow_succ]
    rw [Int.mul_comm B, Int.add_mul] at h2
    generalize B ^ n = p at *
    omega
end
theorem valTo_congr {B : Int} {xs ys : List Int} : ∀ n, (∀ j, j < n → dg xs j = dg ys j) → valTo B xs n = valTo B ys n
  | 0, _ => rfl
  | n + 1, h => by simp only [valTo]; rw [valTo_congr n (fun j hj => h j (by omega)), h n (by omega)]
theorem valTo_set {B : Int} (xs : List Int) (i : Nat) (v : Int) (hi : i < xs.length) : ∀ n, n ≤ xs.length → valTo B (xs.set i v) n = if i < n then valTo B xs n + (v - dg xs i) * B ^ i else valTo B xs n
  | 0, _ => by simp [valTo]
  | n + 1, hn => by
    have ih := valTo_set (B := B) xs i v hi n (by omega)
    simp only [valTo, ih, dg_set]
    by_cases h1 : i < n
    · rw [if_pos h1, if_neg (by omega), if_pos (by omega)]; generalize (v - dg xs i) * B ^ i = p; omega
    · by_cases h2 : i = n
      · subst h2
        rw [if_neg h1, if_pos ⟨rfl, hi⟩, if_pos (by omega), Int.sub_mul]; omega
      · rw [if_neg h1, if_neg (by omega), if_neg (by omega)]
theorem valTo_high {B : Int} (xs : List Int) (m : Nat) : ∀ n, ∃ r, valTo B xs (m + n) = valTo B xs m + r * B ^ m
  | 0 => ⟨0, by simp⟩
  | n + 1 => by
    obtain ⟨r, hr⟩ := valTo_high (B := B) xs m n
    refine ⟨r + dg xs (m + n) * B ^ n, ?_⟩
    rw [← Nat.add_assoc]
    simp only [valTo, hr, Int.pow_add, Int.add_mul, Int.mul_assoc]
    rw [Int.mul_comm (B ^ m) (B ^ n), Int.add_assoc]
/-! ### less -/
def lessTo (xs ys : List Int) : Nat → Bool
  | 0 => false
  | k + 1 => if dg xs k = dg ys k then lessTo xs ys k else decide (dg xs k < dg ys k)
theorem less_step {p vx vy a b : Int} (hp : 0 < p) (lx : vx < p) (ly : vy < p) (nx : 0 ≤ vx) (ny : 0 ≤ vy) : (if a = b then decide (vx < vy) else decide (a < b)) = decide (vx + a * p < vy + b * p) := by
  by_cases h : a = b
  · rw [if_pos h, h]
    by_cases h2 : vx < vy
    · rw [decide_eq_true h2, decide_eq_true (by omega)]
    · rw [decide_eq_false h2, decide_eq_false (by omega)]
  · rw [if_neg h]
    by_cases h2 : a < b
    · have h3 : (a + 1) * p ≤ b * p := Int.mul_le_mul_of_nonneg_right (by omega) (Int.le_of_lt hp)
      rw [Int.add_mul] at h3
      rw [decide_eq_true h2, decide_eq_true (by omega)]
    · have h3 : (b + 1) * p ≤ a * p := Int.mul_le_mul_of_nonneg_right (by omega) (Int.le_of_lt hp)
      rw [Int.add_mul] at h3
      rw [decide_eq_false h2, decide_eq_false (by omega)]
theorem lessTo_iff {B : Int} (hB : 0 < B) {xs ys : List Int} (hx : InR B xs) (hy : InR B ys) : ∀ n, lessTo xs ys n = decide (valTo B xs n < valTo B ys n)
  | 0 => by simp [lessTo, valTo]
  | n + 1 => by
    have ih := lessTo_iff hB hx hy n
    have lx := valTo_lt hB hx n
    have ly := valTo_lt hB hy n
    have nx := valTo_nonneg hB hx n
    have ny := valTo_nonneg hB hy n
    have hp : 0 < B ^ n := Int.pow_pos hB
    simp only [lessTo, valTo]
    rw [ih]
    exact less_step hp lx ly nx ny
/-! ### double -/
def dblC (xs : List Int) : Nat → Int
  | 0 => 0
  | k + 1 => dg xs k / 9223372036854775808
def dblD (xs : List Int) (k : Nat) : Int := bits BinOp.or IntKind.u64 (IntKind.u64.wrap (dg xs k * 2)) (dblC xs k)
abbrev B64 : Int := 18446744073709551616
theorem dblC_bit {xs : List Int} (h : InR B64 xs) (k : Nat) : dblC xs k = 0 ∨ dblC xs k = 1 := by
  cases k with
  | zero => exact .inl rfl
  | succ k =>
    have := h.2 k
    simp only [B64] at this
    simp only [dblC]; omega
theorem dblD_eq {xs : List Int} (h : InR B64 xs) (k : Nat) : dblD xs k = dg xs k * 2 % B64 + dblC xs k := by
  have hk := h.2 k
  unfold dblD
  have hw : IntKind.u64.wrap (dg xs k * 2) = dg xs k * 2 % 18446744073709551616 := by rfl
  rw [hw]
  have hc := dblC_bit h k
  simp only [B64]
  exact bits_join .u64 64 (by decide) (fun n h0 h1 => by show n % 18446744073709551616 = n; omega) 1 _ _ (by omega) (by omega) (by omega) (by omega) (by omega) (by omega)
theorem dbl_val {xs ys : List Int} (h : InR B64 xs) (hd : ∀ j, j < 9 → dg ys j = dblD xs j) : ∀ n, n ≤ 9 → valTo B64 ys n + dblC xs n * B64 ^ n = 2 * valTo B64 xs n
  | 0, _ => by simp [valTo, dblC]
  | n + 1, hn => by
    have ih := dbl_val h hd n (by omega)
    have e := dblD_eq h n
    have hk := h.2 n
    have e2 : dg xs n * 2 = dg xs n * 2 % B64 + dblC xs (n + 1) * B64 := by
      simp only [dblC, B64] at hk ⊢; omega
    simp only [valTo, hd n (by omega), e, Int.pow_succ]
    generalize dg xs n * 2 % B64 = m at *
    generalize dblC xs (n + 1) = c1 at *
    generalize B64 = B at *
    generalize B ^ n = p at *
    generalize dg xs n = a at *
    generalize dblC xs n = c0 at *
    generalize valTo B ys n = vy at *
    generalize valTo B xs n = vx at *
    have h3 : a * 2 * p = (m + c1 * B) * p := by rw [e2]
    grind
/-! ### square -/
def hiP (x y : Int) : Int := x * y / 18446744073709551616
def loP (x y : Int) : Int := x * y % 18446744073709551616
def sumL (x y : Int) : Int := (x + y) % 18446744073709551616
def sumH (x y : Int) : Int := (x + y) / 18446744073709551616
/-- what a step of the inner round leaves in the word, and carries -/
def sqNew (o lo c : Int) : Int := sumL o (sumL lo c)
def sqCarry (o hi lo c : Int) : Int := IntKind.u64.wrap (IntKind.u64.wrap (hi + sumH lo c) + sumH o (sumL lo c))
/-- the inner round's relation -/
def SqIn (xs : List Int) (i k : Nat) (out : List Int) (c : Int) : Prop :=
  InR B64 out ∧ 0 ≤ c ∧ c < B64 ∧ ∃ q, valTo B64 out 9 + c * B64 ^ (i + k) = valTo B64 xs i * valTo B64 xs 9 + dg xs i * B64 ^ i * valTo B64 xs k + q * B64 ^ 9
def SqOut (xs : List Int) (i : Nat) (out : List Int) : Prop :=
  InR B64 out ∧ ∃ q, valTo B64 out 9 = valTo B64 xs i * valTo B64 xs 9 + q * B64 ^ 9
theorem sqOut_zero (xs : List Int) : SqOut xs 0 (List.replicate 9 0) := by
  have hz : ∀ j, dg (List.replicate 9 0) j = 0 := fun j => by
    unfold dg
    rw [List.getD_eq_getElem?_getD, List.getElem?_replicate]
    split <;> rfl
  have hv : ∀ n, valTo B64 (List.replicate 9 0) n = 0 := fun n => by
    induction n with
    | zero => rfl
    | succ n ih => simp only [valTo, ih, hz]; omega
  exact ⟨⟨by simp, fun j => by rw [hz]; simp only [B64]; omega⟩, 0, by rw [hv]; simp [valTo]⟩
theorem sqIn_zero {xs out : List Int} {i : Nat} (h : SqOut xs i out) : SqIn xs i 0 out 0 := by
  obtain ⟨hr, q, hq⟩ := h
  exact ⟨hr, by omega, by simp only [B64]; omega, q, by rw [hq]; simp [valTo]⟩
theorem sqOut_next {xs out : List Int} {i : Nat} {c : Int} (hi : i < 9) (h : SqIn xs i (9 - i) out c) : SqOut xs (i + 1) out := by
  obtain ⟨hr, -, -, q, hq⟩ := h
  obtain ⟨r, hh⟩ := valTo_high (B := B64) xs (9 - i) i
  rw [show 9 - i + i = 9 by omega] at hh
  rw [show i + (9 - i) = 9 by omega] at hq
  have hp : B64 ^ i * B64 ^ (9 - i) = B64 ^ 9 := by rw [← Int.pow_add, show i + (9 - i) = 9 by omega]
  refine ⟨hr, q - c - dg xs i * r, ?_⟩
  rw [valTo_succ B64 xs i]
  generalize B64 ^ (9 - i) = p2 at *
  generalize B64 ^ i = p1 at *
  generalize B64 ^ 9 = p at *
  generalize valTo B64 xs 9 = X at *
  generalize valTo B64 xs i = Xi at *
  generalize valTo B64 xs (9 - i) = Y at *
  generalize valTo B64 out 9 = O at *
  generalize dg xs i = a at *
  subst hh
  subst hp
  grind
theorem sq_arith {x y o c : Int} (hx : 0 ≤ x ∧ x < B64) (hy : 0 ≤ y ∧ y < B64) (ho : 0 ≤ o ∧ o < B64) (hc : 0 ≤ c ∧ c < B64) :
    sqNew o (loP x y) c + B64 * sqCarry o (hiP x y) (loP x y) c = o + c + x * y ∧ 0 ≤ sqNew o (loP x y) c ∧ sqNew o (loP x y) c < B64 ∧ 0 ≤ sqCarry o (hiP x y) (loP x y) c ∧ sqCarry o (hiP x y) (loP x y) c < B64 := by
  have h1 : 0 ≤ x * y := Int.mul_nonneg hx.1 hy.1
  have h2 : x * y ≤ (B64 - 1) * (B64 - 1) := Int.mul_le_mul (by omega) (by omega) hy.1 (by simp only [B64]; omega)
  unfold sqNew sqCarry sumL sumH hiP loP
  have hw : ∀ z : Int, IntKind.u64.wrap z = z % 18446744073709551616 := fun _ => rfl
  simp only [hw, B64] at *
  generalize x * y = m at *
  omega
theorem sqIn_next {xs out : List Int} {i k : Nat} {c : Int} (hxs : InR B64 xs) (hk : i + k < 9) (h : SqIn xs i k out c) :
    SqIn xs i (k + 1) (out.set (i + k) (sqNew (dg out (i + k)) (loP (dg xs i) (dg xs k)) c)) (sqCarry (dg out (i + k)) (hiP (dg xs i) (dg xs k)) (loP (dg xs i) (dg xs k)) c) := by
  obtain ⟨hr, hc0, hc1, q, hq⟩ := h
  obtain ⟨e, n0, n1, c0, c1⟩ := sq_arith (hxs.2 i) (hxs.2 k) (hr.2 (i + k)) ⟨hc0, hc1⟩
  refine ⟨⟨by simp [hr.1], fun j => ?_⟩, c0, c1, q, ?_⟩
  · rw [dg_set]
    split
    · exact ⟨n0, n1⟩
    · exact hr.2 j
  · rw [valTo_set _ _ _ (by rw [hr.1]; omega) 9 (by rw [hr.1]; omega), if_pos hk, ← Nat.add_assoc, Int.pow_succ]
    rw [valTo_succ B64 xs k]
    have hp : B64 ^ (i + k) = B64 ^ i * B64 ^ k := Int.pow_add _ _ _
    generalize sqNew (dg out (i + k)) (loP (dg xs i) (dg xs k)) c = nw at *
    generalize sqCarry (dg out (i + k)) (hiP (dg xs i) (dg xs k)) (loP (dg xs i) (dg xs k)) c = cr at *
    generalize B64 ^ (i + k) = p at *
    generalize B64 ^ i = p1 at *
    generalize B64 ^ k = p2 at *
    generalize B64 ^ 9 = p9 at *
    generalize valTo B64 xs 9 = X at *
    generalize valTo B64 xs i = Xi at *
    generalize valTo B64 xs k = Xk at *
    generalize valTo B64 out 9 = O at *
    generalize dg xs i = a at *
    generalize dg xs k = b at *
    generalize dg out (i + k) = o at *
    generalize B64 = B at *
    have e3 : (nw + B * cr) * p = (o + c + a * b) * p := by rw [e]
    clear hr hxs
    subst hp
    grind
theorem sq_val {xs out : List Int} (hxs : InR B64 xs) (h : SqOut xs 9 out) (hb : valTo B64 xs 9 * valTo B64 xs 9 < B64 ^ 9) : valTo B64 out 9 = valTo B64 xs 9 * valTo B64 xs 9 := by
  obtain ⟨hr, q, hq⟩ := h
  have h1 := valTo_lt (B := B64) (by simp only [B64]; omega) hr 9
  have h2 := valTo_nonneg (B := B64) (by simp only [B64]; omega) hr 9
  have h3 := valTo_nonneg (B := B64) (by simp only [B64]; omega) hxs 9
  have h4 : 0 ≤ valTo B64 xs 9 * valTo B64 xs 9 := Int.mul_nonneg h3 h3
  have hp : (0 : Int) < B64 ^ 9 := Int.pow_pos (by simp only [B64]; omega)
  generalize valTo B64 xs 9 * valTo B64 xs 9 = s at *
  generalize valTo B64 out 9 = t at *
  generalize B64 ^ 9 = p at *
  have : q = 0 := by
    rcases Int.lt_trichotomy q 0 with hq0 | hq0 | hq0
    · have : q * p ≤ (-1) * p := Int.mul_le_mul_of_nonneg_right (by omega) (by omega)
      omega
    · exact hq0
    · have : 1 * p ≤ q * p := Int.mul_le_mul_of_nonneg_right (by omega) (by omega)
      omega
  subst this
  omega
end Go.Proofs.YteigplfldhdakaaGreatDoor.Lc
/- The walks of logcost's wide numbers: less, double. -/
namespace Go.Proofs.YteigplfldhdakaaGreatDoor.Lc
open Go.RowKit
set_option maxRecDepth 100000 in
set_option maxHeartbeats 400000 in
theorem less_any (xs ys : List Int) (hx : xs.length = 9) (hy : ys.length = 9) (w : World) :
    Calls Tryz.prog 30 #[.agg (nums .u64 xs).toArray, .agg (nums .u64 ys).toArray] w fun e w' => e = .returned (.bool (lessTo xs ys 9)) ∧ Below w.heap.size w w' := by
  obtain ⟨W, hW⟩ : ∃ W, (w.alloc (Obj.cells (nums IntKind.u64 xs).toArray 88)).alloc (Obj.cells (nums IntKind.u64 ys).toArray 88) = W := ⟨_, rfl⟩
  have hB : Below w.heap.size w W := by rw [← hW]; exact balloc (balloc (Below.refl _ w) _) _
  have bx : Blk W w.heap.size .u64 88 xs := by rw [← hW]; exact (Blk.new w _ _ _).alloc _
  have by_ : Blk W (w.heap.size + 1) .u64 88 ys := by rw [← hW]; have := Blk.new (w.alloc (Obj.cells (nums IntKind.u64 xs).toArray 88)) .u64 88 ys; rwa [World.size_alloc] at this
  have HW := hid hW
  have hx9 : 9 ≤ xs.length := by omega
  have hy9 : 9 ≤ ys.length := by omega
  clear hW hx hy
  go_enter Tryz.func30, Tryz.ntmps30
  go_wp2
  rw [HW.out]
  go_loopw [5] (fun i wr => ∃ k : Nat, k ≤ 9 ∧ i = .int .i64 ((k : Int) - 1) ∧ Hid (lessTo xs ys 9 = lessTo xs ys k) ∧ Hid (∃ n, wr = W.drewN n)) (fun i _ => (intOf i + 1).toNat)
  case atStart => exact ⟨9, Nat.le_refl _, rfl, hid rfl, hid ⟨0, rfl⟩⟩
  case round =>
    obtain ⟨k, hk, rfl, hl, hd⟩ := hrel
    obtain ⟨n, rfl⟩ := hd.out
    clear hd
    cases k with
    | zero =>
      go_wp2
      go_ret
      exact ⟨by rw [hl.out]; rfl, bdrew hB n⟩
    | succ k =>
      have hk9 : (k : Int) < 9 := by omega
      have x1 := bx.cell k (by omega)
      have y1 := by_.cell k (by omega)
      by_cases hne : dg xs k = dg ys k
      · have hb : (dg xs k != dg ys k) = false := by simp [hne]
        have hl2 : Hid (lessTo xs ys 9 = lessTo xs ys k) := by rw [hl.out]; simp only [lessTo]; rw [if_pos hne]; exact hid rfl
        clear hne hl
        go_wp2
        go_quiet (fail)
        go_wp2
        go_roundw
        case rel => exact ⟨k, by omega, rfl, hl2, hid ⟨_, rfl⟩⟩
        case measure => simp [intOf]
      · have hb : (dg xs k != dg ys k) = true := by simp [hne]
        have hl2 : Hid (lessTo xs ys 9 = decide (dg xs k < dg ys k)) := by rw [hl.out]; simp only [lessTo]; rw [if_neg hne]; exact hid rfl
        clear hne hl
        go_wp2
        go_quiet (fail)
        go_wp2
        go_quiet (fail)
        go_wp2
        go_ret
        exact ⟨ret_val (by rw [hl2.out]; rfl), bdrew (bdrew (bdrew hB _) _) _⟩

theorem dg_zeros (j : Nat) : dg (List.replicate 9 0) j = 0 := by
  unfold dg
  rw [List.getD_eq_getElem?_getD, List.getElem?_replicate]
  split <;> rfl
theorem run_index_row (xs : List Int) (hx : xs.length = 9) (k : Nat) (hk : k < 9) (w : World) : (Instr.index 88 (.agg (nums .u64 xs).toArray) (.int .i64 k)).run Tryz.prog w = .ok (.int .u64 (dg xs k)) w := by
  have h1 : Tryz.prog.underlying 88 = some (.array 9 86) := Tryz.underlying88
  have h2 : (nums .u64 xs)[k]? = some (.int .u64 (dg xs k)) := by have := nums_get .u64 xs k (by omega); simpa using this
  simp only [Instr.index]
  go_simp
set_option maxRecDepth 100000 in
set_option maxHeartbeats 400000 in
theorem double_any (xs : List Int) (hx : xs.length = 9) (w : World) :
    Calls Tryz.prog 29 #[.agg (nums .u64 xs).toArray] w fun e w' => ∃ ys : List Int, e = .returned (.agg (nums .u64 ys).toArray) ∧ ys.length = 9 ∧ (∀ j, j < 9 → dg ys j = dblD xs j) ∧ Below w.heap.size w w' := by
  obtain ⟨W, hW⟩ : ∃ W, (w.alloc (Obj.cells (nums IntKind.u64 xs).toArray 88)).alloc (Obj.cells #[.int .u64 0, .int .u64 0, .int .u64 0, .int .u64 0, .int .u64 0, .int .u64 0, .int .u64 0, .int .u64 0, .int .u64 0] 88) = W := ⟨_, rfl⟩
  have hB : Below w.heap.size w W := by rw [← hW]; exact balloc (balloc (Below.refl _ w) _) _
  have bx : Blk W w.heap.size .u64 88 xs := by rw [← hW]; exact (Blk.new w _ _ _).alloc _
  have by_ : Blk W (w.heap.size + 1) .u64 88 (List.replicate 9 0) := by rw [← hW]; have := Blk.new (w.alloc (Obj.cells (nums IntKind.u64 xs).toArray 88)) .u64 88 (List.replicate 9 0); rwa [World.size_alloc] at this
  have HW := hid hW
  have bx0 : Hid (Blk ((w.alloc (Obj.cells (nums IntKind.u64 xs).toArray 88)).alloc (Obj.cells #[.int .u64 0, .int .u64 0, .int .u64 0, .int .u64 0, .int .u64 0, .int .u64 0, .int .u64 0, .int .u64 0, .int .u64 0] 88)) w.heap.size .u64 88 xs) := by rw [hW]; exact bx
  have hx9 : 9 ≤ xs.length := by omega
  have HX := hid hx
  have hinf : (Tryz.prog.info? 88).map (·.size) = some xs.length := by rw [hx]; kernel_rfl
  have hidx := run_index_row xs hx
  clear hW hx
  go_enter Tryz.func29, Tryz.ntmps29
  go_wp2_with (refine load_row rfl 88 _ rfl _ rfl bx0.out Tryz.underlying88 hinf ?_)
  rw [HW.out]
  clear HW bx0
  go_loopw [3, 7] (fun c i wr => ∃ (k : Nat) (ys : List Int), k ≤ 9 ∧ i = .int .i64 (k : Int) ∧ c = .int .u64 (dblC xs k) ∧ ys.length = 9 ∧ Hid (∀ j, dg ys j = if j < k then dblD xs j else 0) ∧ Blk wr (w.heap.size + 1) .u64 88 ys ∧ Below w.heap.size w wr) (fun _ i _ => 9 - (intOf i).toNat)
  case atStart => exact ⟨0, List.replicate 9 0, by omega, rfl, rfl, rfl, hid (fun j => by rw [dg_zeros]; simp), by_, hB⟩
  case round =>
    obtain ⟨k, ys, hk, rfl, rfl, hl, hd, hb, hBw⟩ := hrel
    clear by_ hB
    have hinf2 : Hid ((Tryz.prog.info? 88).map (·.size) = some ys.length) := by rw [hl]; exact hid (by kernel_rfl)
    by_cases h9 : k < 9
    · have hidk := hidx k h9
      have hc := hb.cell k (by omega)
      have hf := hb.frozen k
      have HB := hid hb
      have HL := hid hl
      clear hidx hb hl
      go_wp2
      go_roundw
      case rel => exact ⟨k + 1, ys.set k (dblD xs k), by omega, by go_num, rfl, by simp [HL.out], hid (fun j => by rw [dg_set, hd.out j, HL.out]; grind), HB.out.set_ k _, hBw.setCell (by simp) _⟩
      case measure => simp [intOf]; omega
    · obtain rfl : k = 9 := by omega
      have HB := hid hb
      have HL := hid hl
      clear hidx hb hl
      go_wp2_with (first | (refine load_row rfl 88 _ rfl _ rfl HB.out Tryz.underlying88 hinf2.out ?_) | (refine store_row rfl 88 _ _ rfl _ rfl rfl HB.out rfl hinf2.out ?_; rintro W' hW'; have HW' := hid hW'; clear hW'))
      have hb2 : Blk W' (w.heap.size + 1) .u64 88 ys := by rw [HW'.out]; exact HB.out.row ys
      have hB2 : Below w.heap.size w W' := by rw [HW'.out]; exact below_setRow hBw (by omega) _
      refine bodyPost_ret (v := .agg (nums .u64 ys).toArray) (results_cell_row rfl _ _ _ 88 _ (0, 0) _ rfl hb2 Tryz.underlying88 rfl (by rw [hinf2.out]; simp [nums])) rfl ?_
      exact ⟨ys, rfl, HL.out, fun j hj => by rw [hd.out, if_pos hj], hB2⟩
end Go.Proofs.YteigplfldhdakaaGreatDoor.Lc
