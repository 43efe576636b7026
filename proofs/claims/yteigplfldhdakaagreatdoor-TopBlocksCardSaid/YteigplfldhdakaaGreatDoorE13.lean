/- TopPowers, where awake is true. -/
import Derived.Test.YteigplfldhdakaaGreatDoorE12
import Derived.Deep.Slices
import Derived.Deep.Fields
import Derived.ChangeSame
import Derived.Test.YteigplfldhdakaaGreatDoorCards
import Derived.Test.YteigplfldhdakaaGreatDoorTie
import Derived.WalkKit
import Derived.ProofKit
import Derived.OpenShut
import Derived.Below
import Derived.Carry
import Derived.Lib.SmallJoins
import Derived.Lib.LaidIn
import Derived.Lib.LaidU8T
import Derived.Deep.DeepHandedRow
import Derived.Deep.DeepWitnessRowRef
import Derived.SizedLaws
set_option linter.unusedVariables false
set_option linter.unusedSimpArgs false
namespace Go.Proofs.YteigplfldhdakaaGreatDoor
open Go.RowKit Go.Shelf
attribute [local go_sem ↓] Go.wp_at_zero Go.wp_at_succ
/-- what is learnt corrects -/
def AwakeC : Prop := ∀ w : World, Tab w → Calls Tryz.prog 7 #[] w fun e w' => e = .returned (.bool true) ∧ Below w.heap.size w w'
theorem RuS.at3 {w : World} {A : Option Addr} {c : Nat} {L : List Blk} (h : RuS w (.slice A L.length c) L) {k : Nat} (hk : k < L.length) :
    ∃ g off, A = some ⟨g, off, none⟩ ∧ g < w.heap.size ∧ w.cell? ⟨g, off + k * 3, none⟩ = some (.string L[k].1) ∧ w.cell? ⟨g, off + k * 3 + 1, none⟩ = some (.string L[k].2.1) ∧ w.cell? ⟨g, off + k * 3 + 2, none⟩ = some (.int .i64 L[k].2.2) := by
  obtain ⟨g, off, cap, hv, _, _, _, _⟩ := SL.open_ h (by omega)
  obtain ⟨rfl, -, rfl⟩ := Value.slice.inj hv
  have hc := SL.cellsK (enc := blkC) blkC_len h k hk
  rw [getElem!_pos L k hk] at hc
  exact ⟨g, off, rfl, SL.lt h g rfl, hc 0 _ rfl, hc 1 _ rfl, hc 2 _ rfl⟩
theorem makeR_one {M : List Blk} (h : posC M) : makeR M 1 = M.map (ruleOf (totB M) M.length) := by
  unfold makeR makeG
  rw [List.filter_eq_self.2 (fun b hb => decide_eq_true (h b hb))]
theorem make_one {w : World} {v : Value} {M : List Blk} (h : BlS w v M) (hc : chkC M = 0) (hpos : posC M) (hM : ∀ b ∈ M, smallB b) (hT : Tab w) (hl : M.length ≤ 4096) : Calls Tryz.prog 10 #[v, .int .i64 1] w fun e w' =>
    Below w.heap.size w w' ∧ ∃ A c, e = .returned (.tuple #[.slice A (M.map (ruleOf (totB M) M.length)).length c, .int .i64 0]) ∧ RuS w' (.slice A (M.map (ruleOf (totB M) M.length)).length c) (M.map (ruleOf (totB M) M.length)) :=
  (make_c h hM hT (by omega) 1 (by omega)).mono fun e w' ⟨h1, h2⟩ => by
    rcases h2 with ⟨h2, _⟩ | ⟨_, h2, _⟩ | ⟨_, _, _, A, c, h3, h4, _⟩
    · exact absurd hc h2
    · omega
    · rw [makeR_one hpos] at h3 h4
      exact ⟨h1, A, c, h3, h4⟩
theorem total_one {w : World} {v : Value} {M : List Blk} (h : BlS w v M) (hc : chkC M = 0) (hM : ∀ b ∈ M, smallB b) (hT : Tab w) (hl : M.length ≤ 4096) : Calls Tryz.prog 11 #[v] w fun e w' =>
    e = .returned (.tuple #[.int .i64 (totB M), .int .i64 0]) ∧ Below w.heap.size w w' := by
  obtain ⟨_, _, ⟨s, hs⟩, _⟩ := chkC_zero hc
  have hE : totE M = (totB M, 0) := by
    have := (sumG_some hs).1
    rw [totE, if_pos hc, hs]
    show (s, (0 : Int)) = _
    rw [this, Int.zero_add]
  have := total_c h hM hT (by omega)
  rw [hE] at this
  exact this
set_option maxRecDepth 100000 in
set_option maxHeartbeats 4000000 in
theorem powers_law (hA : AwakeC) {w : World} {v : Value} {L : List (ByteArray × ByteArray)} (h : PrS w v L) (hs : smallP L) (hT : Tab w) (hl : L.length ≤ 1000000000) : Calls Tryz.prog 3 #[v] w fun e w' => e = .returned (.bool true) ∧ Below w.heap.size w w' := by
  have haw := hA w hT
  have hpr := fun W (hb : Below w.heap.size w W) => pairs_c (h.below hb) hs (hT.bel hb)
  have hgr := fun W (hb : Below w.heap.size w W) => great_c (h.below hb) hs (TxS.nil W) (fun s h => by simp at h) hl (by simp)
  have HAW := hid haw
  have HT := hid hT
  obtain ⟨a, c, rfl, -⟩ := h
  by_cases hg : greatB L [] = true
  · rw [hg] at hgr
    have hpr2 : ∀ W, Below w.heap.size w W → Calls Tryz.prog 8 #[.slice a L.length c] W fun e w' => (∃ A n c q, e = .returned (.tuple #[.slice A n c, .int .i64 q])) ∧ Below W.heap.size W w' := fun W hb => (hpr W hb).mono fun e w' hq => by
      rcases hq with ⟨_, h1, h2⟩ | ⟨_, _, h1, h2⟩ | ⟨_, _, _, h1⟩
      · exact ⟨⟨_, _, _, _, h1⟩, h2⟩
      · exact ⟨⟨_, _, _, _, h1⟩, h2⟩
      · exact ⟨h1.form, h1.1⟩
    have HPR := hid hpr2
    have HGR := hid hgr
    clear haw hpr hgr hpr2
    go_enter Tryz.func3, Tryz.ntmps3
    go_wp2_with (first
      | (go_at_call 7; refine HAW.out.mono ?_; rintro e w1 ⟨rfl, hb1⟩; have HB1 := hid hb1; clear hb1)
      | (go_at_call 8; refine (HPR.out _ HB1.out).mono ?_; rintro e w2 ⟨⟨A2, n2, c2, q2, rfl⟩, hb2⟩; have HB2 := hid (bthen HB1.out hb2); clear hb2)
      | (go_at_call 9; refine (HGR.out _ HB2.out).mono ?_; rintro e w3 ⟨rfl, hb3⟩; have HB3 := hid (bthen HB2.out hb3); clear hb3))
    go_ret
    exact ⟨rfl, HB3.out⟩
  · have hg2 : greatB L [] = false := by simpa using hg
    rw [hg2] at hgr
    have HGR := hid hgr
    have hcase : ∀ W, Below w.heap.size w W → Calls Tryz.prog 8 #[.slice a L.length c] W fun e w' => Below W.heap.size W w' ∧ ((∃ q, q ≠ 0 ∧ e = .returned (.tuple #[.slice none 0 0, .int .i64 q])) ∨
        ∃ A c M, e = .returned (.tuple #[.slice A M.length c, .int .i64 0]) ∧ BlS w' (.slice A M.length c) M ∧ chkC M = 0 ∧ posC M ∧ M.length ≤ 4096 ∧ (∀ b ∈ M, smallB b) ∧ ∃ s, sumG 0 M = some s) := fun W hb => (hpr W hb).mono fun e w' hq => by
      rcases hq with ⟨_, h1, h2⟩ | ⟨_, h0, h1, h2⟩ | ⟨_, _, hsm, h1, h2⟩
      · exact ⟨h2, .inl ⟨6, by decide, h1⟩⟩
      · exact ⟨h2, .inl ⟨_, h0, h1⟩⟩
      · rcases h2 with ⟨h2, h3⟩ | ⟨_, _, h3⟩ | ⟨h2, h3, h4, A, c, M', h5, h6, h7, h8, _⟩
        · exact ⟨h1, .inl ⟨_, h2, h3⟩⟩
        · exact ⟨h1, .inl ⟨6, by decide, h3⟩⟩
        · obtain ⟨s, hs⟩ : ∃ s, sumG 0 (prM L) = some s := by
            cases hq : sumG 0 (prM L) with
            | none => exact absurd hq h3
            | some s => exact ⟨s, rfl⟩
          obtain ⟨k1, k2, k3, k4⟩ := table_ok h2 hs h4 h6 h7
          exact ⟨h1, .inr ⟨A, c, M', h5, h8, k1, k3, k4, table_small hsm h6, s, k2⟩⟩
    have HPR := hid hcase
    clear haw hpr hgr hcase hg hg2
    go_enter Tryz.func3, Tryz.ntmps3
    go_wp2_with (first
      | (go_at_call 7; refine HAW.out.mono ?_; rintro e w1 ⟨rfl, hb1⟩; have HB1 := hid hb1; clear hb1)
      | (go_at_call 8; refine (HPR.out _ HB1.out).mono ?_; rintro e w2 ⟨hb2, ⟨q, hq, rfl⟩ | ⟨A, c2, M, rfl, hm1, hm2, hm3, hm4, hm5, s, hm6⟩⟩)
      | (go_at_call 9; refine (HGR.out _ (bthen HB1.out hb2)).mono ?_; rintro e w3 ⟨rfl, hb3⟩; have HB3 := hid (bthen (bthen HB1.out hb2) hb3))
      | (go_at_call 10; have HM3 := hid (hm1.below hb3); refine (make_one HM3.out hm2 hm3 hm5 (HT.out.bel HB3.out) hm4).mono ?_; rintro e w4 ⟨hb4, A4, c4, rfl, hr4⟩; have HB4 := hid (bthen HB3.out hb4); have HM4 := hid (HM3.out.below hb4); have HR4 := hid hr4; clear hb4 hr4)
      | (go_at_call 11; refine (total_one HM4.out hm2 hm5 (HT.out.bel HB4.out) hm4).mono ?_; rintro e w5 ⟨rfl, hb5⟩; have HB5 := hid (bthen HB4.out hb5); have HM5 := hid (HM4.out.below hb5); have HR5 := hid (HR4.out.below hb5); clear hb5))
    · go_ret
      exact ⟨rfl, HB3.out⟩
    · have hle : totB M ≤ 1073741824 ∧ 0 ≤ totB M := by
        have h1 := sumG_some hm6
        have := h1.2 (by omega)
        exact ⟨by omega, totB_nonneg hm3⟩
      have hR : ∀ k (hk : k < M.length), (M.map (ruleOf (totB M) M.length)).getD k blk0 = (M[k].1, M[k].2.1, Lc.costV (totB M) M.length M[k].2.2) := fun k hk => by
        rw [List.getD_eq_getElem?_getD, List.getElem?_map, List.getElem?_eq_getElem hk]; rfl
      have hRl : (M.map (ruleOf (totB M) M.length)).length = M.length := List.length_map _
      have HPOS := hid hm3
      have hlt := fun b hb => le_totB hm3 b hb
      have HLT := hid hlt
      obtain ⟨R, hRR⟩ : ∃ R, M.map (ruleOf (totB M) M.length) = R := ⟨_, rfl⟩
      rw [hRR] at HR5 hR hRl
      have HRG := hid hR
      rw [hRl] at HR5
      obtain ⟨tt, htt⟩ : ∃ tt, totB M = tt := ⟨_, rfl⟩
      rw [htt] at hle HLT HRG ⊢
      clear hm1 hm2 hm3 hm5 hm6 HR4 HM3 HM4 hlt hR hRR htt
      go_loopw [51] (fun iv wr => ∃ i : Nat, i ≤ M.length ∧ iv = .int .i64 (i : Int) ∧ Hid (Below w.heap.size w wr) ∧ Hid (BlS wr (.slice A M.length c2) M) ∧ Hid (SL wr 35 3 (.slice A4 M.length c4) M.length (R.flatMap blkC))) (fun iv _ => M.length - (intOf iv).toNat)
      case atStart =>
        refine ⟨0, Nat.zero_le _, rfl, HB5, HM5, hid ?_⟩
        have := HR5.out
        unfold RuS at this
        rw [hRl] at this
        exact this
      case round =>
        obtain ⟨i, hi, rfl, HB, HM, HR⟩ := hrel
        by_cases hil : i < M.length
        · have hil2 : (i : Int) < (M.length : Int) := by omega
          obtain ⟨g, off, rfl, hgl, k0, k1, k2⟩ := BlS.at3 HM.out hil
          have hrus : RuS wr (.slice A4 R.length c4) R := by unfold RuS; rw [hRl]; exact HR.out
          obtain ⟨g4, off4, rfl, hgl4, r0, r1, r2⟩ := RuS.at3 hrus (k := i) (by omega)
          have hg := HRG.out i hil
          rw [List.getD_eq_getElem?_getD, List.getElem?_eq_getElem (by omega), Option.getD_some] at hg
          have hmem := List.getElem_mem hil
          obtain ⟨b, hbb⟩ : ∃ b, M[i] = b := ⟨_, rfl⟩
          obtain ⟨f, t, m⟩ := b
          rw [hbb] at k0 k1 k2 hg hmem
          rw [hg] at r0 r1 r2
          have hm1 : 1 ≤ m := HPOS.out _ hmem
          have hm2 : m ≤ tt := HLT.out _ hmem
          dsimp only at k0 k1 k2 r0 r1 r2
          have hra := fun W => Lc.ratio_any (tt + M.length) (m + 1) W
          have hno : ¬ Lc.NoRatio (tt + M.length) (m + 1) := by unfold Lc.NoRatio; omega
          have hnc : ¬ Lc.NoCost tt M.length m := by unfold Lc.NoCost; omega
          rw [Lc.costV_yes hnc] at r2
          rw [Lc.ratioE_yes hno] at hra
          obtain ⟨kk, hkk⟩ : ∃ kk, Lc.ratioK (tt + M.length) (m + 1) = kk := ⟨_, rfl⟩
          rw [hkk] at hra r2
          have HRA := hid hra
          have hw1 : IntKind.i64.wrap (tt + (M.length : Int)) = tt + (M.length : Int) := by rw [IntKind.wrap_i64]; omega
          have hw2 : IntKind.i64.wrap (m + 1) = m + 1 := by rw [IntKind.wrap_i64]; omega
          clear hra hno hnc hkk hg hmem hbb hrus
          have hcl : ∀ W, Below wr.heap.size wr W → W.cell? ⟨g, off + i * 3, none⟩ = some (.string f) ∧ W.cell? ⟨g, off + i * 3 + 1, none⟩ = some (.string t) := fun W hb => ⟨(World.cell?_of_block (hb.block g hgl)).trans k0, (World.cell?_of_block (hb.block g hgl)).trans k1⟩
          have HCL := hid hcl
          clear hcl
          go_wp2_with (go_at_call 12; refine (HRA.out _).mono ?_; rintro e w6 ⟨rfl, hb6⟩; have HBX := hid (bthen (balloc (Below.refl _ wr) _) hb6); have hxb := (hb6.block wr.heap.size (by simp)).trans (heap_alloc_new wr _); obtain ⟨x0, x1, x2, -, -, -⟩ := row3 hxb; obtain ⟨y0, y1⟩ := HCL.out _ HBX.out; clear hb6 hxb)
          go_quiet (fail)
          go_wp2
          exact ⟨⟨i + 1, by omega, by simp, hid (Below.drewN' (bthen HB.out HBX.out) nq), hid ((HM.out.below HBX.out).drewN nq), hid (SL.drewN (SL.keep HR.out fun k hk => HBX.out.block k (SL.lt HR.out k hk)) nq)⟩, by simp [intOf]; omega⟩
        · obtain rfl : i = M.length := by omega
          have hil2 : ¬ (M.length : Int) < (M.length : Int) := by omega
          go_wp2
          go_ret
          exact ⟨rfl, HB.out⟩
end Go.Proofs.YteigplfldhdakaaGreatDoor
/- A slice of structs of one-cell fields, handed in: every field's cell and its reading. -/
namespace Go.Proofs.YteigplfldhdakaaGreatDoor
open Go.ChangeShapes Go.WideShapes Go.Deep
section
variable {H : Type} {enc : TypeId × Value → H} {P : Program} {w : World} {base : Nat} {spare : Nat → Bool} {held : Bool}
theorem open_slice_fields {t e : TypeId} {fs : Array Field} {fuel : Nat} {cs : List Value} {x : DataW H × List MemPlace} (ht : P.underlying t = some (.slice e)) (he : P.underlying e = some (.struct fs))
    (hone : oneCellFields P fs = true) (hC : P.cellsOf e = fs.size) (h : DataW.trod enc P w base spare held fuel t cs = some x) :
    (cs = [.slice none 0 0] ∧ x = (.nil, [])) ∨
    ∃ (a : Addr) (len cap m : Nat) (D : Nat → DataW H) (Pl : Nat → List MemPlace), cs = [.slice (some a) len cap] ∧ base ≤ a.block ∧ len ≤ cap ∧ cap ≤ maxLen ∧ m = (if spare a.block then cap else len) ∧
      x = (.slice ((List.range len).map D) ((List.range (m - len)).map fun j => D (len + j)), MemPlace.row a (m * fs.size) ++ (List.range m).flatMap Pl) ∧
      ∀ i, i < m → ∃ (ys : List (DataW H × List MemPlace)) (n : Nat), D i = .agg (ys.map (·.1)) ∧ Pl i = ys.flatMap (·.2) ∧ ys.length = fs.size ∧
        ∀ (j : Nat) (f : Field), fs[j]? = some f → ∃ (v : Value) (y : DataW H × List MemPlace), w.cell? (a.add (i * fs.size + j)) = some v ∧ ys[j]? = some y ∧ DataW.trod enc P w base spare held n f.type [v] = some y := by
  rcases open_slice ht h with h0 | ⟨a, len, cap, m, n, D, Pl, hcs, hb, hl, hm, hmm, hx, hi⟩
  · exact .inl h0
  · refine .inr ⟨a, len, cap, m, D, Pl, hcs, hb, hl, hm, hmm, by rw [hC] at hx; exact hx, fun i him => ?_⟩
    obtain ⟨cs', hc, ht'⟩ := hi i him
    rw [hC] at hc
    obtain ⟨ys, n', hn', hy, hlen, hyl, hf⟩ := DataW.trod_struct he ht'
    obtain ⟨_, hcl, hat⟩ := World.cells?_some hc
    simp only [Prod.mk.injEq] at hy
    refine ⟨ys, n', hy.1, hy.2, hyl, fun j f hj => ?_⟩
    obtain ⟨ho, hk⟩ := hone_of hone j f hj
    have hjl : j < fs.size := (Array.getElem?_eq_some_iff.1 hj).1
    have hcell := hat j hjl
    have hv : cs'[j]? = some (cs'[j]'(by omega)) := List.getElem?_eq_getElem (by omega)
    have h1 := hf j f hj
    rw [ho, hk] at h1
    have hone' : (cs'.drop j).take 1 = [cs'[j]'(by omega)] := by
      rw [List.drop_eq_getElem_cons (by omega)]
      rfl
    rw [hone'] at h1
    have hys : ys[j]? = some (ys[j]'(by omega)) := List.getElem?_eq_getElem (by omega)
    refine ⟨_, _, ?_, hys, h1.trans hys⟩
    rw [← Go.Deep.add_add, hcell, hv]
theorem add_fld (ad : Addr) (m j : Nat) (hj : 0 < j) : ad.add (m + j) = ⟨(ad.add m).block, (ad.add m).off + j, none⟩ := by
  unfold Addr.add
  by_cases hm : m = 0
  · subst hm
    simp [Nat.ne_of_gt hj]
  · simp [hm, Nat.add_assoc]
end
end Go.Proofs.YteigplfldhdakaaGreatDoor
/- What the rows of erratatop share: the bound, part by part; pairs handed in; the two tables. -/
namespace Go.Proofs.YteigplfldhdakaaGreatDoor
open Go.ChangeShapes Go.WideShapes Go.ChangeAt Go.RowKit Go.Joins
/-- THE BOUND, part by part. -/
theorem bulk_le {H : Type} {d : DataW H} {l : List (DataW H)} (h : d ∈ l) : Rows.uptoBulk d ≤ Rows.uptoBulkAll l := by
  induction l with
  | nil => cases h
  | cons x r ih =>
    simp only [Rows.uptoBulkAll]
    cases List.mem_cons.1 h with
    | inl e => subst e; omega
    | inr e => have := ih e; omega
theorem bulk_one {H : Type} (d : DataW H) : 1 ≤ Rows.uptoBulk d := by
  cases d with
  | lit l => cases l <;> simp [Rows.uptoBulk]
  | nil => simp [Rows.uptoBulk]
  | ptr d => simp [Rows.uptoBulk]
  | slice elems spare => simp [Rows.uptoBulk]
  | agg parts => simp [Rows.uptoBulk]
  | iface t d => simp [Rows.uptoBulk]
  | map entries => simp [Rows.uptoBulk]
  | held h => simp [Rows.uptoBulk]
theorem bulk_len {H : Type} (l : List (DataW H)) : l.length ≤ Rows.uptoBulkAll l := by
  induction l with
  | nil => simp [Rows.uptoBulkAll]
  | cons x r ih => have := bulk_one x; simp only [Rows.uptoBulkAll, List.length_cons]; omega
theorem bulk_str {H : Type} (bytes : List UInt8) : Rows.uptoBulk (DataW.lit (H := H) (.string bytes)) = bytes.length + 1 := by
  simp [Rows.uptoBulk]
theorem bulk_slice {H : Type} {elems spare : List (DataW H)} {n : Nat} (h : Rows.uptoBulk (DataW.slice elems spare) ≤ n) : Rows.uptoBulkAll elems ≤ n := by
  simp only [Rows.uptoBulk] at h
  omega
theorem bulk_agg {H : Type} {parts : List (DataW H)} {n : Nat} (h : Rows.uptoBulk (DataW.agg parts) ≤ n) : Rows.uptoBulkAll parts ≤ n := by
  simp only [Rows.uptoBulk] at h
  omega
theorem bulk_fst {H : Type} {d : DataW H} {l : List (DataW H)} {n : Nat} (h : Rows.uptoBulkAll (d :: l) ≤ n) : Rows.uptoBulk d ≤ n ∧ Rows.uptoBulkAll l ≤ n := by
  simp only [Rows.uptoBulkAll] at h
  omega
theorem ownT : ownKnob Tryz.prog.godebug = none := by kernel_rfl
theorem laidOutT : laidOutB Tryz.prog = true := by kernel_rfl
theorem cells69 : Tryz.prog.cellsOf 69 = 2 := by kernel_rfl
/-- **pairs, handed in** -/
theorem pairs_open {H : Type} {enc : TypeId × Value → H} {W : World} {sp : Nat → Bool} {held : Bool} {fuel : Nat} {a : Option Addr} {len cap : Nat} {d : DataW H} {ps : List MemPlace}
    (h : DataW.trod enc Tryz.prog W 0 sp held fuel 22 (Value.slice a len cap).cells.toList = some (d, ps)) (hb : Rows.uptoBulk d ≤ 1048576) : ∃ L, PrS W (.slice a len cap) L ∧ smallP L ∧ L.length ≤ 1048576 := by
  rcases open_slice_fields Tryz.underlying22 Tryz.underlying69 (by kernel_rfl) (by kernel_rfl) h with ⟨hcs, _⟩ | ⟨x, l, c, m, D, Pl, hcs, _, hl, hm, hmm, hx, hi⟩
  · simp [Value.cells] at hcs
    obtain ⟨rfl, rfl, rfl⟩ := hcs
    exact ⟨[], ⟨none, 0, rfl, fun k hk => absurd hk (Nat.not_lt_zero k)⟩, fun x hx => by (cases hx), Nat.zero_le _⟩
  · simp [Value.cells] at hcs
    obtain ⟨rfl, rfl, rfl⟩ := hcs
    simp only [Prod.mk.injEq] at hx
    obtain ⟨rfl, _⟩ := hx
    have hlm : len ≤ m := by rw [hmm]; split <;> omega
    have hel := bulk_slice hb
    have hlen : len ≤ 1048576 := by
      have := bulk_len ((List.range len).map D)
      rw [List.length_map, List.length_range] at this
      omega
    have key : ∀ i, ∃ t : ByteArray × ByteArray, i < len → PairAt W (x.add (i * 2)) t ∧ t.1.size ≤ 1048576 ∧ t.2.size ≤ 1048576 := fun i => by
      by_cases hil : i < len
      · obtain ⟨ys, n, hD, _, hyl, hg⟩ := hi i (by omega)
        obtain ⟨u0, y0, hc0, he0, ht0⟩ := hg 0 _ rfl
        obtain ⟨u1, y1, hc1, he1, ht1⟩ := hg 1 _ rfl
        obtain ⟨f, hf, hf2, _⟩ := DataW.trod_string Tryz.underlying9 ht0
        obtain ⟨t, htt, ht2, _⟩ := DataW.trod_string Tryz.underlying9 ht1
        obtain rfl := (List.cons.inj hf).1
        obtain rfl := (List.cons.inj htt).1
        have hmem : D i ∈ (List.range len).map D := List.mem_map.2 ⟨i, List.mem_range.2 hil, rfl⟩
        have hDi : Rows.uptoBulk (D i) ≤ 1048576 := Nat.le_trans (bulk_le hmem) hel
        rw [hD] at hDi
        have hps := bulk_agg hDi
        have hm0 : (DataW.lit (H := H) (.string f.data.toList)) ∈ ys.map (·.1) := List.mem_map.2 ⟨y0, List.mem_of_getElem? he0, by rw [hf2]⟩
        have hm1 : (DataW.lit (H := H) (.string t.data.toList)) ∈ ys.map (·.1) := List.mem_map.2 ⟨y1, List.mem_of_getElem? he1, by rw [ht2]⟩
        have b0 := Nat.le_trans (bulk_le hm0) hps
        have b1 := Nat.le_trans (bulk_le hm1) hps
        rw [bulk_str] at b0 b1
        have s0 : f.data.toList.length = f.size := Array.length_toList
        have s1 : t.data.toList.length = t.size := Array.length_toList
        exact ⟨(f, t), fun _ => ⟨⟨hc0, by rw [← add_fld _ _ 1 (by omega)]; exact hc1⟩, by show f.size ≤ _; omega, by show t.size ≤ _; omega⟩⟩
      · exact ⟨(⟨#[]⟩, ⟨#[]⟩), fun h => absurd h hil⟩
    obtain ⟨g, hg⟩ := Classical.axiomOfChoice key
    have hL : ((List.range len).map g).length = len := by simp
    refine ⟨(List.range len).map g, ⟨some x, cap, by rw [hL], fun k hk => ?_⟩, fun y hy => ?_, by rw [hL]; exact hlen⟩
    · have hk' : k < len := by rwa [hL] at hk
      have hp := (hg k hk').1
      refine ⟨x, rfl, ?_, ?_⟩
      · have := World.block_lt_of_cell? W _ hp.c0
        rw [add_block] at this
        exact this
      · rw [List.getElem_map, List.getElem_range]
        exact hp
    · obtain ⟨k, hk, rfl⟩ := List.mem_map.1 hy
      exact (hg k (List.mem_range.1 hk)).2
theorem firstSame : (Rows.laid_unicode_utf8_first : DataW Unit) = Lib.firstData := by kernel_rfl
theorem acceptSame : (Rows.laid_unicode_utf8_acceptRanges : DataW Unit) = Lib.acceptData := by kernel_rfl
abbrev laidL : List (String × DataW Unit) := [("unicode/utf8.acceptRanges", Rows.laid_unicode_utf8_acceptRanges), ("unicode/utf8.first", Rows.laid_unicode_utf8_first)]
theorem laidSame : laidL = [("unicode/utf8.acceptRanges", Lib.acceptData), ("unicode/utf8.first", Lib.firstData)] := by
  unfold laidL
  rw [firstSame, acceptSame]
/-- WHAT THE ROW's LIST GIVES: the two tables. -/
theorem tab_of {W : World} (h : laidMetH Tryz.prog laidL W) : Tab W := by
  rw [MakeChecks.laidMetH_plain _ _ _ (by kernel_rfl)] at h
  rw [laidSame] at h
  exact utf8Tabs_of_readsT (U8Types.of196 Tryz.lays196) ⟨by kernel_rfl, by kernel_rfl, by kernel_rfl, by kernel_rfl, by kernel_rfl, by kernel_rfl, by kernel_rfl⟩ (Lib.laidMet.reads h (.tail _ (.head _))) (Lib.laidMet.reads h (.head _))
/-- A WORLD FOR THE WITNESS: the settled one, the two tables holding what their initialisers lay. -/
noncomputable def laidWorld (os : Os) : World :=
  let w0 := World.holding Tryz.prog os ⟨#[], #[], []⟩
  let put (h : Array Obj) (g : Nat) (cs : Array Value) : Array Obj := h.modify g fun
    | .cells _ t frozen => .cells cs t frozen
    | o => o
  let h1 := put w0.heap 0 (Lib.firstTab.map fun z => Value.int .u8 z).toArray
  let h2 := put h1 1 ((List.range 16).flatMap fun i => [Value.int .u8 (Lib.accLo i), Value.int .u8 (Lib.accHi i)]).toArray
  { w0 with heap := h2 }
theorem laid_met (os : Os) (args : Array Value) : laidMet Tryz.prog laidL ((laidWorld os).forCall (fun _ _ => 0) ⟨#[], args, []⟩).memory := by
  rw [laidSame]
  exact (LaidIn.of_run (l := [("unicode/utf8.acceptRanges", Lib.acceptData), ("unicode/utf8.first", Lib.firstData)]) [0, 1] 8 (by kernel_rfl) (by kernel_rfl) (by kernel_rfl) (by kernel_rfl)).met
end Go.Proofs.YteigplfldhdakaaGreatDoor
/- erratatop: great, whatever the sizes are. -/
namespace Go.Proofs.YteigplfldhdakaaGreatDoor
open Go.RowKit Go.Shelf
attribute [local go_sem ↓] Go.wp_at_zero Go.wp_at_succ
/-- texts that may be handed in -/
def bigP (L : List (ByteArray × ByteArray)) : Prop := ∀ x ∈ L, x.1.size ≤ 140737488355328 ∧ x.2.size ≤ 140737488355328
theorem wrap_add (a b : Int) : wrap64 (wrap64 a + b) = wrap64 (a + b) := by unfold wrap64; omega
theorem wrap_small {a : Int} (h0 : 0 ≤ a) (h1 : a ≤ 9223372036854775807) : wrap64 a = a := by unfold wrap64; omega
theorem wrap_zero (L : List (ByteArray × ByteArray)) : (0 : Int) = wrap64 (lenP (L.take 0)) := by rw [List.take_zero, lenP, wrap_small (Int.le_refl 0) (by omega)]
def greatW (L : List (ByteArray × ByteArray)) (l2 : List ByteArray) : Bool := decide (1000 < wrap64 (lenP L + lenS l2)) || decide (30 < L.length)
theorem lenP_nonneg : ∀ L : List (ByteArray × ByteArray), 0 ≤ lenP L
  | [] => by simp [lenP]
  | x :: r => by have := lenP_nonneg r; unfold lenP; omega
theorem lenP_le : ∀ {L : List (ByteArray × ByteArray)}, bigP L → lenP L ≤ (L.length : Int) * 281474976710656
  | [], _ => by simp [lenP]
  | x :: r, h => by
    have h1 := lenP_le (L := r) (fun y hy => h y (List.mem_cons_of_mem _ hy))
    have h2 := h x (List.mem_cons_self ..)
    unfold lenP
    rw [List.length_cons]
    omega
theorem lenP_mem : ∀ {L : List (ByteArray × ByteArray)} {x : ByteArray × ByteArray}, x ∈ L → (x.1.size : Int) + (x.2.size : Int) ≤ lenP L
  | y :: r, x, h => by
    unfold lenP
    have h2 := lenP_nonneg r
    rcases List.mem_cons.1 h with rfl | h
    · omega
    · have := lenP_mem h; omega
/-- **not great: small** -/
theorem greatW_small {L : List (ByteArray × ByteArray)} {l2 : List ByteArray} (h : bigP L) (hS0 : 0 ≤ lenS l2) (hS : lenS l2 ≤ 140737488355328) (hg : greatW L l2 = false) : L.length ≤ 30 ∧ lenP L + lenS l2 ≤ 1000 := by
  unfold greatW at hg
  simp only [Bool.or_eq_false_iff, decide_eq_false_iff_not] at hg
  obtain ⟨h1, h2⟩ := hg
  have h3 := lenP_le h
  have h4 := lenP_nonneg L
  rw [wrap_small (by omega) (by omega)] at h1
  omega
theorem small_of {L : List (ByteArray × ByteArray)} (h : lenP L ≤ 1000) : smallP L := fun x hx => by
  have := lenP_mem hx
  omega
set_option maxRecDepth 100000 in
set_option maxHeartbeats 4000000 in
theorem great_big {w : World} {v v2 : Value} {L : List (ByteArray × ByteArray)} {l2 : List ByteArray} (h : PrS w v L) (hs : bigP L) (h2 : TxS w v2 l2) (hl : L.length ≤ 140737488355328) (hl2 : l2.length ≤ 1000000000) :
    Calls Tryz.prog 9 #[v, .slice none 0 0, v2] w fun e w' => e = .returned (.bool (greatW L l2)) ∧ Below w.heap.size w w' := by
  have HS := hid h
  have HS2 := hid h2
  have HSM := hid hs
  obtain ⟨a, c, rfl, -⟩ := h
  obtain ⟨a2, c2, rfl, -⟩ := h2
  clear hs
  go_enter Tryz.func9, Tryz.ntmps9
  go_wp2
  go_loopw [7, 16] (fun nv iv wr => ∃ (k : Nat) (n : Int), k ≤ L.length ∧ iv = .int .i64 (k : Int) ∧ nv = .int .i64 n ∧ Hid (n = wrap64 (lenP (L.take k))) ∧ Hid (Below w.heap.size w wr)) (fun nv iv _ => L.length - (intOf iv).toNat)
  case atStart => exact ⟨0, 0, Nat.zero_le _, rfl, rfl, hid (wrap_zero L), hid (Below.refl _ _)⟩
  case round =>
    obtain ⟨k, n, hk, rfl, rfl, HN, HB⟩ := hrel
    by_cases hkl : k < L.length
    · have hkl2 : (k : Int) < (L.length : Int) := by omega
      obtain ⟨a', c', hv, hp2⟩ := HS.out.below HB.out
      cases hv
      obtain ⟨x, rfl, hxl, q0, q1⟩ := hp2 k hkl
      have hsm := HSM.out _ (List.getElem_mem hkl)
      have htk := lenP_take hkl
      obtain ⟨y, hy⟩ : ∃ y, L[k] = y := ⟨_, rfl⟩
      obtain ⟨f, t⟩ := y
      rw [hy] at q0 q1 hsm htk
      dsimp only at q0 q1 hsm htk
      obtain ⟨ad, had⟩ : ∃ ad, x.add (k * 2) = ad := ⟨_, rfl⟩
      rw [had] at q0 q1
      have HTK : Hid (wrap64 (n + ((f.size : Int) + (t.size : Int))) = wrap64 (lenP (L.take (k + 1)))) := hid (by rw [htk, HN.out, wrap_add])
      have hw1 : IntKind.i64.wrap ((f.size : Int) + (t.size : Int)) = (f.size : Int) + (t.size : Int) := by rw [IntKind.wrap_i64]; omega
      clear hp2 hy htk
      go_wp2
      refine ⟨⟨k + 1, wrap64 (n + ((f.size : Int) + (t.size : Int))), by omega, by simp, ?_, HTK, hid (balloc HB.out _)⟩, by simp [intOf]; omega⟩
      first | rfl | simp
    · obtain rfl : k = L.length := by omega
      have hkl2 : ¬ (L.length : Int) < (L.length : Int) := by omega
      rw [List.take_length] at HN
      go_wp2
      go_loopw [7, 32] (fun nv iv wq => nv = .int .i64 n ∧ iv = .int .i64 0 ∧ Hid (Below w.heap.size w wq)) (fun _ _ _ => 0)
      case atStart => exact ⟨rfl, rfl, HB⟩
      case round =>
        obtain ⟨rfl, rfl, HB2⟩ := hrel
        clear HB
        go_wp2
        go_loopw [7, 44] (fun nv iv wq => ∃ (k : Nat) (m : Int), k ≤ l2.length ∧ iv = .int .i64 (k : Int) ∧ nv = .int .i64 m ∧ Hid (m = wrap64 (lenP L + lenS (l2.take k))) ∧ Hid (Below w.heap.size w wq)) (fun nv iv _ => l2.length - (intOf iv).toNat)
        case atStart => exact ⟨0, n, Nat.zero_le _, rfl, rfl, hid (by rw [HN.out]; simp [lenS]), HB2⟩
        case round =>
          obtain ⟨j, m, hj, rfl, rfl, HM, HB3⟩ := hrel
          clear HB2
          by_cases hjl : j < l2.length
          · have hjl2 : (j : Int) < (l2.length : Int) := by omega
            obtain ⟨a', c', hv, hp2⟩ := HS2.out.below HB3.out
            cases hv
            obtain ⟨x, rfl, hxl, q0⟩ := hp2 j hjl
            have htk := lenS_take hjl
            obtain ⟨y, hy⟩ : ∃ y, l2[j] = y := ⟨_, rfl⟩
            rw [hy] at q0 htk
            obtain ⟨ad, had⟩ : ∃ ad, x.add j = ad := ⟨_, rfl⟩
            rw [had] at q0
            have HTK : Hid (wrap64 (m + (y.size : Int)) = wrap64 (lenP L + lenS (l2.take (j + 1)))) := hid (by rw [htk, HM.out, wrap_add, Int.add_assoc])
            clear hp2 hy htk
            go_wp2
            refine ⟨⟨j + 1, wrap64 (m + (y.size : Int)), by omega, by simp, ?_, HTK, HB3⟩, by simp [intOf]; omega⟩
            first | rfl | simp
          · obtain rfl : j = l2.length := by omega
            have hjl2 : ¬ (l2.length : Int) < (l2.length : Int) := by omega
            have hE : greatW L l2 = (decide (1000 < m) || decide (30 < L.length)) := by
              have := HM.out
              rw [List.take_length] at this
              rw [greatW, ← this]
            have HE := hid hE
            clear hE
            by_cases h1 : 1000 < m
            · have HE2 : Hid (greatW L l2 = true) := hid (by rw [HE.out]; simp [h1])
              go_wp2
              go_ret
              exact ⟨by rw [HE2.out]; rfl, HB3.out⟩
            · by_cases h3 : 30 < L.length
              · have h3i : (30 : Int) < (L.length : Int) := by omega
                have HE2 : Hid (greatW L l2 = true) := hid (by rw [HE.out]; simp [h3])
                go_wp2
                go_ret
                exact ⟨by rw [HE2.out]; rfl, HB3.out⟩
              · have h3i : ¬ (30 : Int) < (L.length : Int) := by omega
                have HE2 : Hid (greatW L l2 = false) := hid (by rw [HE.out]; simp [h1, h3])
                go_wp2
                go_ret
                exact ⟨by rw [HE2.out]; rfl, HB3.out⟩
end Go.Proofs.YteigplfldhdakaaGreatDoor
/- Pairs that are handed in, whatever their sizes are: what the reach says of them. -/
namespace Go.Proofs.YteigplfldhdakaaGreatDoor
open Go.ChangeShapes Go.WideShapes Go.ChangeAt Go.RowKit Go.Joins
theorem weightsAll_mem {H : Type} {P : Program} {e : TypeId} : ∀ {l : List (DataW H)} {d : DataW H}, d ∈ l → ∀ n ∈ d.weights P e, n ∈ DataW.weightsAll P e l
  | x :: r, d, h, n, hn => by
    simp only [DataW.weightsAll, List.mem_append]
    rcases List.mem_cons.1 h with rfl | h
    · exact .inl hn
    · exact .inr (weightsAll_mem h n hn)
theorem bytes69 : Tryz.prog.bytesOf 69 = 32 := by kernel_rfl
/-- **pairs, handed in** -/
theorem pairs_open_big {H : Type} {enc : TypeId × Value → H} {W : World} {sp : Nat → Bool} {held : Bool} {fuel : Nat} {a : Option Addr} {len cap : Nat} {d : DataW H} {ps : List MemPlace}
    (h : DataW.trod enc Tryz.prog W 0 sp held fuel 22 (Value.slice a len cap).cells.toList = some (d, ps)) (hb : ∀ n ∈ d.weights Tryz.prog 22, n ≤ 140737488355328) : ∃ L, PrS W (.slice a len cap) L ∧ bigP L ∧ L.length ≤ 140737488355328 := by
  rcases open_slice_fields Tryz.underlying22 Tryz.underlying69 (by kernel_rfl) (by kernel_rfl) h with ⟨hcs, _⟩ | ⟨x, l, c, m, D, Pl, hcs, _, hl, hm, hmm, hx, hi⟩
  · simp [Value.cells] at hcs
    obtain ⟨rfl, rfl, rfl⟩ := hcs
    exact ⟨[], ⟨none, 0, rfl, fun k hk => absurd hk (Nat.not_lt_zero k)⟩, fun x hx => by (cases hx), Nat.zero_le _⟩
  · simp [Value.cells] at hcs
    obtain ⟨rfl, rfl, rfl⟩ := hcs
    simp only [Prod.mk.injEq] at hx
    obtain ⟨rfl, _⟩ := hx
    have hlm : len ≤ m := by rw [hmm]; split <;> omega
    simp only [DataW.weights, Tryz.underlying22, List.mem_cons, List.mem_append, bytes69] at hb
    have hlen : len ≤ 140737488355328 := by
      have := hb _ (.inl rfl)
      rw [List.length_map, List.length_range] at this
      omega
    have key : ∀ i, ∃ t : ByteArray × ByteArray, i < len → PairAt W (x.add (i * 2)) t ∧ t.1.size ≤ 140737488355328 ∧ t.2.size ≤ 140737488355328 := fun i => by
      by_cases hil : i < len
      · obtain ⟨ys, n, hD, _, hyl, hg⟩ := hi i (by omega)
        obtain ⟨u0, y0, hc0, he0, ht0⟩ := hg 0 _ rfl
        obtain ⟨u1, y1, hc1, he1, ht1⟩ := hg 1 _ rfl
        obtain ⟨f, hf, hf2, _⟩ := DataW.trod_string Tryz.underlying9 ht0
        obtain ⟨t, htt, ht2, _⟩ := DataW.trod_string Tryz.underlying9 ht1
        obtain rfl := (List.cons.inj hf).1
        obtain rfl := (List.cons.inj htt).1
        have hmem : D i ∈ (List.range len).map D := List.mem_map.2 ⟨i, List.mem_range.2 hil, rfl⟩
        have hDi : ∀ n ∈ (D i).weights Tryz.prog 69, n ≤ 140737488355328 := fun n hn => hb n (.inr (.inl (weightsAll_mem hmem n hn)))
        rw [hD] at hDi
        simp only [DataW.weights, Tryz.underlying69] at hDi
        have b0 := hDi f.data.toList.length (DataW.weights_mem_each (j := 0) (t := 9) (d := .lit (.string f.data.toList)) rfl (by rw [List.getElem?_map, he0]; simp [hf2]) _ (by simp [DataW.weights]))
        have b1 := hDi t.data.toList.length (DataW.weights_mem_each (j := 1) (t := 9) (d := .lit (.string t.data.toList)) rfl (by rw [List.getElem?_map, he1]; simp [ht2]) _ (by simp [DataW.weights]))
        have s0 : f.data.toList.length = f.size := Array.length_toList
        have s1 : t.data.toList.length = t.size := Array.length_toList
        exact ⟨(f, t), fun _ => ⟨⟨hc0, by rw [← add_fld _ _ 1 (by omega)]; exact hc1⟩, by show f.size ≤ _; omega, by show t.size ≤ _; omega⟩⟩
      · exact ⟨(⟨#[]⟩, ⟨#[]⟩), fun h => absurd h hil⟩
    obtain ⟨g, hg⟩ := Classical.axiomOfChoice key
    have hL : ((List.range len).map g).length = len := by simp
    refine ⟨(List.range len).map g, ⟨some x, cap, by rw [hL], fun k hk => ?_⟩, fun y hy => ?_, by rw [hL]; exact hlen⟩
    · have hk' : k < len := by rwa [hL] at hk
      have hp := (hg k hk').1
      refine ⟨x, rfl, ?_, ?_⟩
      · have := World.block_lt_of_cell? W _ hp.c0
        rw [add_block] at this
        exact this
      · rw [List.getElem_map, List.getElem_range]
        exact hp
    · obtain ⟨k, hk, rfl⟩ := List.mem_map.1 hy
      exact (hg k (List.mem_range.1 hk)).2
end Go.Proofs.YteigplfldhdakaaGreatDoor
/- rule: compare, Less, Check. -/
namespace Go.Proofs.YteigplfldhdakaaGreatDoor
open Go.RowKit Go.Shelf
attribute [local go_sem ↓] Go.wp_at_zero Go.wp_at_succ
set_option maxRecDepth 100000 in
set_option maxHeartbeats 2000000 in
theorem cmpR_c (a b : Blk) (w : World) : Calls Tryz.prog 54 #[blkV a, blkV b] w fun e w' => e = .returned (.int .i64 (cmpB a b)) ∧ Below w.heap.size w w' := by
  obtain ⟨af, at_, an⟩ := a
  obtain ⟨bf, bt, bn⟩ := b
  unfold blkV
  dsimp only
  obtain ⟨x, hx⟩ : ∃ x, cmpS af bf = x := ⟨_, rfl⟩
  obtain ⟨y, hy⟩ : ∃ y, cmpS at_ bt = y := ⟨_, rfl⟩
  have c1 : ∀ W, Calls Tryz.prog 95 #[.string af, .string bf] W fun e w' => e = .returned (.int .i64 x) ∧ w' = W := fun W => by rw [← hx]; exact cmps_c af bf W
  have c2 : ∀ W, Calls Tryz.prog 95 #[.string at_, .string bt] W fun e w' => e = .returned (.int .i64 y) ∧ w' = W := fun W => by rw [← hy]; exact cmps_c at_ bt W
  have HE : Hid (cmpB (af, at_, an) (bf, bt, bn) = orF [x, y]) := hid (by rw [cmpB, hx, hy])
  have C1 := hid c1
  have C2 := hid c2
  clear c1 c2 hx hy
  go_enter Tryz.func54, Tryz.ntmps54
  go_wp2
  obtain ⟨W, hW⟩ : ∃ W, (w.alloc (Obj.cells #[Value.string af, Value.string at_, Value.int IntKind.i64 an] 35)).alloc (Obj.cells #[Value.string bf, Value.string bt, Value.int IntKind.i64 bn] 35) = W := ⟨_, rfl⟩
  have hbW : Below w.heap.size w W := by rw [← hW]; exact balloc (balloc (Below.refl _ w) _) _
  have g0 := al2_0 w (Obj.cells #[Value.string af, Value.string at_, Value.int IntKind.i64 an] 35) (Obj.cells #[Value.string bf, Value.string bt, Value.int IntKind.i64 bn] 35)
  have g1 := al2_1 w (Obj.cells #[Value.string af, Value.string at_, Value.int IntKind.i64 an] 35) (Obj.cells #[Value.string bf, Value.string bt, Value.int IntKind.i64 bn] 35)
  rw [hW] at g0 g1 ⊢
  have a0 : W.cell? ⟨w.heap.size, 0, none⟩ = some (.string af) := by rw [cell_of_row W _ 0 _ _ _ g0]; rfl
  have a1 : W.cell? ⟨w.heap.size, 1, none⟩ = some (.string at_) := by rw [cell_of_row W _ 1 _ _ _ g0]; rfl
  have b0 : W.cell? ⟨w.heap.size + 1, 0, none⟩ = some (.string bf) := by rw [cell_of_row W _ 0 _ _ _ g1]; rfl
  have b1 : W.cell? ⟨w.heap.size + 1, 1, none⟩ = some (.string bt) := by rw [cell_of_row W _ 1 _ _ _ g1]; rfl
  have HB := hid hbW
  clear hbW g0 g1 hW
  refine wp_region_still_tail 10 (by kernel_rfl) (by kernel_rfl) ?_
  simp only [List.take_succ_cons, List.take_zero, List.drop_succ_cons, List.drop_zero]
  repeat still_step
  still_call (C1.out _)
  repeat still_step
  still_call (C2.out _)
  repeat still_step
  refine wpStill_nil ?_
  change wpList _ _ _ _ _ W.drew
  have HL := hid (SL.lit W.drew 3 1 2 #[.int .i64 x, .int .i64 y] rfl (by simp [maxLen]))
  have hor : Calls Tryz.prog 94 #[.slice (some ⟨W.heap.size, 0, none⟩) 2 2] (W.drew.alloc (.cells #[.int .i64 x, .int .i64 y] 3)) fun e w' => e = .returned (.int .i64 (orF [x, y])) ∧ w' = W.drew.alloc (.cells #[.int .i64 x, .int .i64 y] 3) := or_c (xs := [x, y]) HL.out
  have HOR := hid hor
  obtain ⟨z, hz⟩ : ∃ z, orF [x, y] = z := ⟨_, rfl⟩
  rw [hz] at HOR HE
  clear hor hz
  go_wp2_with (go_at_call 94; refine HOR.out.mono ?_; rintro e w1 ⟨rfl, rfl⟩)
  all_goals
    go_ret
    exact ⟨by rw [HE.out]; rfl, balloc HB.out.drew _⟩
set_option maxRecDepth 100000 in
set_option maxHeartbeats 2000000 in
theorem rless_c (a b : Blk) (w : World) : Calls Tryz.prog 93 #[blkV a, blkV b] w fun e w' => e = .returned (.bool (decide (cmpB a b < 0))) ∧ Below w.heap.size w w' := by
  obtain ⟨af, at_, an⟩ := a
  obtain ⟨bf, bt, bn⟩ := b
  have c1 := fun W => cmpR_c (af, at_, an) (bf, bt, bn) W
  obtain ⟨x, hx⟩ : ∃ x, cmpB (af, at_, an) (bf, bt, bn) = x := ⟨_, rfl⟩
  rw [hx] at c1 ⊢
  unfold blkV at c1 ⊢
  dsimp only at c1 ⊢
  have C1 := hid c1
  clear c1 hx
  have HB0 := hid (balloc (balloc (Below.refl _ w) (.cells #[.string af, .string at_, .int .i64 an] 35)) (.cells #[.string bf, .string bt, .int .i64 bn] 35))
  go_enter Tryz.func93, Tryz.ntmps93
  go_wp2_with (go_at_call 54; refine (C1.out _).mono ?_; rintro e w1 ⟨rfl, hb1⟩; have HB1 := hid (bthen HB0.out hb1); clear hb1)
  go_ret
  exact ⟨by simp, HB1.out⟩
/-- a lawful rule -/
def rokB (b : Blk) : Prop := chkB (b.1, b.2.1, 1) = 0 ∧ 1 ≤ b.2.2 ∧ b.2.2 ≤ 255 ∧ smallB b
set_option maxRecDepth 100000 in
set_option maxHeartbeats 2000000 in
theorem chkR_c (b : Blk) (hb : rokB b) (w : World) (hT : Tab w) : Calls Tryz.prog 139 #[blkV b] w fun e w' => e = .returned (.int .i64 0) ∧ Below w.heap.size w w' := by
  obtain ⟨f, t, n⟩ := b
  obtain ⟨h1, h2, h3, h4⟩ := hb
  dsimp only at h1 h2 h3
  have hc := fun W (hW : Below w.heap.size w W) => checkB_c (f, t, 1) h4 W (hT.bel hW)
  rw [h1] at hc
  unfold blkV at hc ⊢
  dsimp only at hc ⊢
  have HC := hid hc
  have hn1 : ¬ n < 1 := by omega
  have hn2 : ¬ n > 255 := by omega
  have hn3 : ¬ (255 : Int) < n := by omega
  clear hc h1
  have g0 := heap_alloc_new w (.cells #[.string f, .string t, .int .i64 n] 35)
  have HB0 := hid (balloc (Below.refl _ w) (.cells #[.string f, .string t, .int .i64 n] 35))
  have HG0 := hid g0
  clear g0
  go_enter Tryz.func139, Tryz.ntmps139
  go_wp2_with (go_at_call 97; refine (HC.out _ HB0.out).mono ?_; rintro e w1 ⟨rfl, hb1⟩; have HB1 := hid (bthen HB0.out hb1); obtain ⟨a0, a1, a2, -, -, -⟩ := row3 ((hb1.block _ (blk_lt HG0.out)).trans HG0.out); clear hb1)
  go_ret
  exact ⟨by simp, HB1.out⟩
end Go.Proofs.YteigplfldhdakaaGreatDoor
/- rule: wrong, Is, of lawful rules. -/
namespace Go.Proofs.YteigplfldhdakaaGreatDoor
open Go.RowKit Go.Shelf
attribute [local go_sem] Oper.semAt_some
/-- each lies behind all before it -/
def srtR (R : List Blk) : Prop := ∀ i j, i < j → j < R.length → cmpB (R.getD i blk0) (R.getD j blk0) < 0
set_option maxRecDepth 100000 in
set_option maxHeartbeats 2000000 in
theorem wrong1_in (n : Nat) (hn : 1 ≤ n) (lp Bn : Nat) (A : Option Addr) (c : Nat) (R : List Blk) (hl : R.length ≤ 1000000) (hR : ∀ b ∈ R, rokB b) (J : World → Prop) (hJ : ∀ A B, J A → Touch (fun _ => False) A B → J B)
    (W : World) (hT : Tab W) (hBn : W.heap[Bn]? = some (.cells #[.slice A R.length c] 29 (0, 0))) (hS : RuS W (.slice A R.length c) R) (h0 : J W) :
    CallsIn Fence.wide n Tryz.prog 138 #[.func (.yield lp) #[] #[], .pointer (some ⟨Bn, 0, none⟩)] W fun e W' => (∃ v, e = .returned v) ∧ J W' := by
  have HS := hid hS
  have HT := hid hT
  have HRO := hid hR
  have HB := hid hBn
  obtain ⟨b0, -⟩ := box_cell HB.out
  clear hS hT hR hBn
  refine callsIn_of_wp Tryz.func138 rfl trivial ?_ rfl
  simp only [Tryz.ntmps138, List.size_toArray, List.length_cons, List.length_nil, Nat.reduceAdd, Nat.reduceSub, Array.replicate_succ, Array.replicate_zero, List.push_toArray, List.append_toArray, List.nil_append, List.cons_append]
  gi_wp2
  refine wpIn_scope_straight ?_
  gi_wp2
  refine wpIn_label ?_
  gi_wp2
  gi_loopw [8] (fun iv wr => ∃ k : Nat, k ≤ R.length ∧ iv = .int .i64 (k : Int) ∧ Hid (Below W.heap.size W wr) ∧ J wr) (fun iv _ => R.length - (intOf iv).toNat)
  case atStart => exact ⟨0, Nat.zero_le _, rfl, hid (Below.refl _ _), h0⟩
  case round =>
    obtain ⟨k, hk, rfl, HBr, hJr⟩ := hrel
    clear b0 h0
    by_cases hkl : k < R.length
    · have hkl2 : (k : Int) < (R.length : Int) := by omega
      obtain ⟨g, off, rfl, hgl, k0, k1, k2⟩ := RuS.at3 (HS.out.below HBr.out) hkl
      obtain ⟨b, hb⟩ : ∃ b, R[k] = b := ⟨_, rfl⟩
      have hcc := fun W2 (hW : Below W.heap.size W W2) => chkR_c b (HRO.out b (by rw [← hb]; exact List.getElem_mem hkl)) W2 (HT.out.bel hW)
      rw [hb] at k0 k1 k2
      obtain ⟨f, t, m⟩ := b
      unfold blkV at hcc
      dsimp only at hcc k0 k1 k2
      have HC := hid hcc
      clear hcc hb
      gi_wp2_with (refine ⟨trivial, ?_⟩; gi_at_call 139; refine (callsIn_wide.2 (HC.out _ (balloc HBr.out _))).mono ?_; rintro e w1 ⟨rfl, hb1⟩; have HB1 := hid (bthen (balloc HBr.out _) hb1); have HJ1 := hJ _ _ hJr (Touch.of_below (n := wr.heap.size) (bthen (balloc (Below.refl _ wr) _) hb1) (Nat.le_refl _) |>.mono (fun _ h => h.elim)); clear hb1)
      refine ⟨fun f h => (by cases h), ?_⟩
      gi_wp2
      exact ⟨⟨k + 1, by omega, by simp, HB1, HJ1⟩, by simp [intOf]; omega⟩
    · have hkl2 : ¬ (k : Int) < (R.length : Int) := by omega
      gi_wp2
      go_end0
      exact ⟨⟨_, rfl⟩, hJr⟩
theorem wrong_seq (n : Nat) (hn : 1 ≤ n) (Bn : Nat) (A : Option Addr) (c : Nat) (R : List Blk) (hl : R.length ≤ 1000000) (hR : ∀ b ∈ R, rokB b) (w : World) (hT : Tab w) (hBn : w.heap[Bn]? = some (.cells #[.slice A R.length c] 29 (0, 0))) (hS : RuS w (.slice A R.length c) R) :
    SeqL Fence.wide n Tryz.prog 138 #[.pointer (some ⟨Bn, 0, none⟩)] (fun _ => #[.int .i64 0]) 0 (fun _ _ => False) (fun _ _ => False) w := fun l J Jx W hW hJ hJx hY h0 =>
  (wrong1_in n hn l Bn A c R hl hR (J 0) (fun A B => hJ 0 A B) W (hT.bel hW) ((hW.block Bn (blk_lt hBn)).trans hBn) (hS.below hW) h0).mono fun e W' ⟨h1, h2⟩ => ⟨h1, .inl h2⟩
set_option maxRecDepth 100000 in
set_option maxHeartbeats 1000000 in
theorem wrong_c (A : Option Addr) (n c : Nat) (w : World) : Calls Tryz.prog 92 #[.slice A n c] w fun e w' => e = .returned (.func (.func 138) #[] #[.pointer (some ⟨w.heap.size, 0, none⟩)]) ∧ w' = w.alloc (.cells #[.slice A n c] 29) := by
  go_enter Tryz.func92, Tryz.ntmps92
  go_wp2
  go_ret
  exact ⟨rfl, rfl⟩
def IsI (w : World) (_ : Nat) (W : World) : Prop := W.heap[w.heap.size]? = some (.cells #[.int .i64 0] 25 (0, 0)) ∧ Below w.heap.size w W
set_option maxRecDepth 100000 in
set_option maxHeartbeats 4000000 in
theorem is_c {w : World} {v : Value} {R : List Blk} (h : RuS w v R) (hR : ∀ b ∈ R, rokB b) (hs : srtR R) (hl : R.length ≤ 4096) (hT : Tab w) : Calls Tryz.prog 52 #[v] w fun e w' => e = .returned (.int .i64 0) ∧ Below w.heap.size w w' := by
  obtain ⟨A, c, rfl, hc⟩ := SL.form h
  have HS := hid h
  have HSR := hid hs
  refine (callsIn_wide (n := 6)).1 ?_
  refine callsIn_of_wp_marks Tryz.func52 rfl trivial ?_ rfl
  simp only [Tryz.ntmps52, List.size_toArray, List.length_cons, List.length_nil, Nat.reduceAdd, Nat.reduceSub, Array.replicate_succ, Array.replicate_zero, List.push_toArray, List.append_toArray, List.nil_append, List.cons_append]
  gi_wp2_with (refine ⟨trivial, ?_⟩; gi_at_call 92; refine (callsIn_wide.2 (wrong_c _ _ _ _)).mono ?_; rintro e w2 ⟨rfl, rfl⟩)
  obtain ⟨w3, hw3⟩ : ∃ w3, (w.alloc (.cells #[.int .i64 0] 25)).alloc (Obj.cells #[Value.slice A R.length c] 29) = w3 := ⟨_, rfl⟩
  have hb3 : Below w.heap.size w w3 := by rw [← hw3]; exact balloc (balloc (Below.refl _ w) _) _
  have hsz3 : w3.heap.size = w.heap.size + 2 := by rw [← hw3]; simp
  have h0c : w3.heap[w.heap.size]? = some (.cells #[.int .i64 0] 25 (0, 0)) := by rw [← hw3]; exact al2_0 _ _ _
  have hBn : w3.heap[w.heap.size + 1]? = some (.cells #[.slice A R.length c] 29 (0, 0)) := by rw [← hw3]; exact al2_1 _ _ _
  have e1 : (w.alloc (.cells #[.int .i64 0] 25)).heap.size = w.heap.size + 1 := by simp
  try rw [e1]
  try rw [hw3]
  refine wpIn_rangeL rfl (by omega) (gf := 138) (lb := #[.pointer (some ⟨w.heap.size + 1, 0, none⟩)]) rfl trivial (enters_of Tryz.func138 (by kernel_rfl) rfl)
    (wrong_seq 5 (by omega) (w.heap.size + 1) A c R (by omega) hR w3 (hT.bel hb3) hBn (HS.out.below hb3)) (Below.refl _ _) (fun _ => rfl) (fun k hk => hk.elim) (fun k hk => hk.elim)
    (IsI w) (fun _ _ _ => False) ?hI ?hIx ?h0 ?round ?done ?stop
  case hI =>
    rintro k X Y ⟨h1, h2⟩ hcs
    exact ⟨hcs.cells h1 (fun h => h), hcs.below h2 (by omega) (fun b hb h => h)⟩
  case hIx => exact fun _ _ _ _ h _ => h
  case h0 => exact ⟨h0c, hb3⟩
  case round => exact fun l k W hk => absurd hk (Nat.not_lt_zero _)
  case stop => exact fun _ _ _ _ _ _ h _ => h.elim
  case done =>
    rintro D W hD ⟨h1, h2⟩ hK
    have H1 := hid h1
    have H2 := hid h2
    have HK := hid hK
    have HD : w.heap.size + 2 ≤ D := by omega
    clear h1 h2 hK hD hBn h0c hb3 hsz3 hw3
    gi_wp2
    refine wpIn_wide.2 ?_
    go_loopw [11] (fun iv wr => ∃ (k : Nat), k ≤ R.length ∧ iv = .int .i64 (k : Int) ∧ Hid (Below w.heap.size w wr) ∧ Hid (wr.heap[w.heap.size]? = some (.cells #[.int .i64 0] 25 (0, 0))) ∧ Hid (wr.heap[D]? = some (.deferred (some [])))) (fun iv _ => R.length - (intOf iv).toNat)
    case atStart => exact ⟨0, Nat.zero_le _, rfl, H2, H1, HK⟩
    case round =>
      obtain ⟨k, hk, rfl, HB, HC, HKr⟩ := hrel
      by_cases hkl : k < R.length
      · have hkl2 : (k : Int) < (R.length : Int) := by omega
        by_cases hk0 : k = 0
        · subst hk0
          go_wp2
          go_quiet (fail)
          go_wp2
          exact ⟨⟨1, by omega, by simp, hid (Below.drewN' HB.out nq), hid HC.out, hid HKr.out⟩, by simp [intOf]; omega⟩
        · have hk1 : 0 < k := by omega
          have hk1b : decide (0 < k) = true := decide_eq_true hk1
          obtain ⟨g, off, rfl, hgl, k0, k1, k2⟩ := RuS.at3 (HS.out.below HB.out) hkl
          obtain ⟨p, hp⟩ : ∃ p, p + 1 = k := ⟨k - 1, by omega⟩
          have hpl : p < R.length := by omega
          obtain ⟨g', off', hA', hgl', j0, j1, j2⟩ := RuS.at3 (HS.out.below HB.out) (k := p) hpl
          cases hA'
          have hwr : IntKind.i64.wrap ((k : Int) - 1) = (p : Int) := by rw [IntKind.wrap_i64]; omega
          have hkl3 : (p : Int) < (R.length : Int) := by omega
          have hk00 : (0 : Int) ≤ (p : Int) := by omega
          have hcc := fun W => rless_c R[p] R[k] W
          have hlt := HSR.out p k (by omega) hkl
          rw [List.getD_eq_getElem?_getD, List.getD_eq_getElem?_getD, List.getElem?_eq_getElem hpl, List.getElem?_eq_getElem hkl] at hlt
          rw [decide_eq_true (show cmpB R[p] R[k] < 0 from hlt)] at hcc
          obtain ⟨x, hx⟩ : ∃ x, R[p] = x := ⟨_, rfl⟩
          obtain ⟨y, hy⟩ : ∃ x, R[k] = x := ⟨_, rfl⟩
          rw [hy] at k0 k1 k2
          rw [hx] at j0 j1 j2
          rw [hx, hy] at hcc
          unfold blkV at hcc
          have HCC := hid hcc
          obtain ⟨xf, xt, xn⟩ := x
          obtain ⟨yf, yt, yn⟩ := y
          dsimp only at k0 k1 k2 j0 j1 j2 HCC
          clear hcc hx hy hlt hp
          go_wp2
          go_region_held3 (fun w' => w'.cell? ⟨g, off + k * 3, none⟩ = some (.string yf) ∧ w'.cell? ⟨g, off + k * 3 + 1, none⟩ = some (.string yt) ∧ w'.cell? ⟨g, off + k * 3 + 2, none⟩ = some (.int .i64 yn) ∧ w'.cell? ⟨g, off + p * 3, none⟩ = some (.string xf) ∧ w'.cell? ⟨g, off + p * 3 + 1, none⟩ = some (.string xt) ∧ w'.cell? ⟨g, off + p * 3 + 2, none⟩ = some (.int .i64 xn))
            (first | exact ⟨k0, k1, k2, j0, j1, j2⟩ | exact ⟨p0, p1, p2, p3, p4, p5⟩ | go_keep)
            ((go_at_call 93; refine (HCC.out _).mono ?_; rintro e w1 ⟨rfl, hb1⟩; have HB2 := hid (bthen HB.out.drew hb1); have HC2 := hid ((hb1.block w.heap.size (blk_lt HC.out)).trans HC.out); have HK2 := hid ((hb1.block D (blk_lt HKr.out)).trans HKr.out); have p0 := (World.cell?_of_block (hb1.block g hgl)).trans k0; have p1 := (World.cell?_of_block (hb1.block g hgl)).trans k1; have p2 := (World.cell?_of_block (hb1.block g hgl)).trans k2; have p3 := (World.cell?_of_block (hb1.block g hgl)).trans j0; have p4 := (World.cell?_of_block (hb1.block g hgl)).trans j1; have p5 := (World.cell?_of_block (hb1.block g hgl)).trans j2; clear hb1))
          all_goals
            clear k0 k1 k2 j0 j1 j2 p0 p1 p2 p3 p4 p5
            go_wp2
            exact ⟨⟨k + 1, by omega, by simp, HB2, HC2, HK2⟩, by simp [intOf]; omega⟩
      · obtain rfl : k = R.length := by omega
        have h4i : ¬ (4096 : Int) < (R.length : Int) := by omega
        obtain ⟨e0, f0⟩ := box_cell HC.out
        go_wp2
        gi_wp2
        obtain ⟨X, hX⟩ : ∃ X, wr.setCell ⟨w.heap.size, 0, none⟩ (.int .i64 0) = X := ⟨_, rfl⟩
        have hK' : X.heap[D]? = some (Obj.deferred (some [])) := by rw [← hX]; exact set_other HKr.out (by omega) _ _
        have g0 : X.heap[w.heap.size]? = some (.cells #[.int .i64 0] 25 (0, 0)) := by rw [← hX]; exact box_set HC.out _
        have hbX : Below w.heap.size w X := by rw [← hX]; exact HB.out.setCell (by simp) _
        rw [hX]
        refine ⟨by simp, .inl ⟨_, _, rfl, run_takeDeferred hK', ?_⟩⟩
        refine ⟨_, results_cell1 (fn := Tryz.f52) rfl _ _ w.heap.size _ rfl (load25 (put_other g0 (by omega))), ?_⟩
        exact ⟨rfl, fin_below hbX (by omega)⟩
end Go.Proofs.YteigplfldhdakaaGreatDoor
