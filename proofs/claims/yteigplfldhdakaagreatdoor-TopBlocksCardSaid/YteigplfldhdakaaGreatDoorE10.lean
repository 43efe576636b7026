/- count: compare, each, sum. -/
import Derived.Test.YteigplfldhdakaaGreatDoorE09
import Derived.Laws.StructEq
import Derived.MapViews
set_option linter.unusedVariables false
set_option linter.unusedSimpArgs false
namespace Go.Proofs.YteigplfldhdakaaGreatDoor
open Go.RowKit Go.Shelf
attribute [local go_sem ↓] Go.wp_at_zero Go.wp_at_succ
theorem blkC_len (b : Blk) : (blkC b).length = 3 := rfl
theorem BlS.below {w W : World} {v : Value} {L : List Blk} (h : BlS w v L) (hb : Below w.heap.size w W) : BlS W v L := SL.keep h fun k hk => hb.block k (SL.lt h k hk)
theorem BlS.at3 {w : World} {A : Option Addr} {c : Nat} {L : List Blk} (h : BlS w (.slice A L.length c) L) {k : Nat} (hk : k < L.length) :
    ∃ g off, A = some ⟨g, off, none⟩ ∧ g < w.heap.size ∧ w.cell? ⟨g, off + k * 3, none⟩ = some (.string L[k].1) ∧ w.cell? ⟨g, off + k * 3 + 1, none⟩ = some (.string L[k].2.1) ∧ w.cell? ⟨g, off + k * 3 + 2, none⟩ = some (.int .i64 L[k].2.2) := by
  obtain ⟨g, off, cap, hv, _, _, _, _⟩ := SL.open_ h (by omega)
  obtain ⟨rfl, -, rfl⟩ := Value.slice.inj hv
  have hc := SL.cellsK (enc := blkC) blkC_len h k hk
  rw [getElem!_pos L k hk] at hc
  exact ⟨g, off, rfl, SL.lt h g rfl, hc 0 _ rfl, hc 1 _ rfl, hc 2 _ rfl⟩
/-- three ways -/
def cmpT (a b : Blk) : Int := if cmpB a b < 0 then -1 else if cmpB b a < 0 then 1 else 0
set_option maxRecDepth 100000 in
set_option maxHeartbeats 2000000 in
theorem cmpT_c (a b : Blk) (w : World) : Calls Tryz.prog 58 #[blkV a, blkV b] w fun e w' => e = .returned (.int .i64 (cmpT a b)) ∧ Below w.heap.size w w' := by
  obtain ⟨af, at_, an⟩ := a
  obtain ⟨bf, bt, bn⟩ := b
  have c1 := fun W => less_c (af, at_, an) (bf, bt, bn) W
  have c2 := fun W => less_c (bf, bt, bn) (af, at_, an) W
  obtain ⟨x, hx⟩ : ∃ x, decide (cmpB (af, at_, an) (bf, bt, bn) < 0) = x := ⟨_, rfl⟩
  obtain ⟨y, hy⟩ : ∃ x, decide (cmpB (bf, bt, bn) (af, at_, an) < 0) = x := ⟨_, rfl⟩
  have HE : Hid (cmpT (af, at_, an) (bf, bt, bn) = if x = true then -1 else if y = true then 1 else 0) := hid (by rw [cmpT, ← hx, ← hy]; simp)
  rw [hx] at c1
  rw [hy] at c2
  unfold blkV at c1 c2 ⊢
  dsimp only at c1 c2 ⊢
  have C1 := hid c1
  have C2 := hid c2
  clear c1 c2 hx hy
  have hb0 := balloc (balloc (Below.refl _ w) (.cells #[.string af, .string at_, .int .i64 an] 38)) (.cells #[.string bf, .string bt, .int .i64 bn] 38)
  have hg0 := al2_0 w (.cells #[.string af, .string at_, .int .i64 an] 38) (.cells #[.string bf, .string bt, .int .i64 bn] 38)
  have hg1 := al2_1 w (.cells #[.string af, .string at_, .int .i64 an] 38) (.cells #[.string bf, .string bt, .int .i64 bn] 38)
  have hcl : ∀ W1, Below ((w.alloc (.cells #[.string af, .string at_, .int .i64 an] 38)).alloc (.cells #[.string bf, .string bt, .int .i64 bn] 38)).heap.size ((w.alloc (.cells #[.string af, .string at_, .int .i64 an] 38)).alloc (.cells #[.string bf, .string bt, .int .i64 bn] 38)) W1 →
      W1.heap[w.heap.size]? = some (.cells #[.string af, .string at_, .int .i64 an] 38 (0, 0)) ∧ W1.heap[w.heap.size + 1]? = some (.cells #[.string bf, .string bt, .int .i64 bn] 38 (0, 0)) := fun W1 hb => ⟨(hb.block _ (blk_lt hg0)).trans hg0, (hb.block _ (blk_lt hg1)).trans hg1⟩
  have HB0 := hid hb0
  have HCL := hid hcl
  clear hb0 hg0 hg1 hcl
  cases x
  case true =>
    go_enter Tryz.func58, Tryz.ntmps58
    go_wp2_with (go_at_call 100; refine (C1.out _).mono ?_; rintro e w1 ⟨rfl, hb1⟩; have HB1 := hid (bthen HB0.out hb1); clear hb1)
    go_ret
    exact ⟨by rw [HE.out]; rfl, HB1.out⟩
  case false =>
    cases y <;>
    · go_enter Tryz.func58, Tryz.ntmps58
      go_wp2_with (first
        | (have _h := HB1; go_at_call 100; refine (C2.out _).mono ?_; rintro e w2 ⟨rfl, hb2⟩; have HB2 := hid (bthen HB1.out hb2); clear hb2)
        | (go_at_call 100; refine (C1.out _).mono ?_; rintro e w1 ⟨rfl, hb1⟩; have HB1 := hid (bthen HB0.out hb1); obtain ⟨h0, h1⟩ := HCL.out w1 hb1; obtain ⟨a0, a1, a2, -, -, -⟩ := row3 h0; obtain ⟨b0, b1, b2, -, -, -⟩ := row3 h1; clear hb1 h0 h1))
      go_ret
      exact ⟨by rw [HE.out]; rfl, HB2.out⟩
/-- the first fault of a block -/
def eachB : List Blk → Int
  | [] => 0
  | b :: r => if chkB b ≠ 0 then chkB b else eachB r
set_option maxRecDepth 100000 in
set_option maxHeartbeats 2000000 in
theorem each_c {w : World} {v : Value} {M : List Blk} (h : BlS w v M) (hM : ∀ b ∈ M, smallB b) (hT : Tab w) (hl : M.length ≤ 1000000000) : Calls Tryz.prog 56 #[v] w fun e w' => e = .returned (.int .i64 (eachB M)) ∧ Below w.heap.size w w' := by
  obtain ⟨A, c, rfl, hc⟩ := SL.form h
  have HS := hid h
  have HM := hid hM
  have HT := hid hT
  clear hT hM
  go_enter Tryz.func56, Tryz.ntmps56
  go_wp2
  go_loopw [8] (fun iv wr => ∃ k : Nat, k ≤ M.length ∧ iv = .int .i64 (k : Int) ∧ Hid (Below w.heap.size w wr) ∧ Hid (eachB M = eachB (M.drop k))) (fun iv _ => M.length - (intOf iv).toNat)
  case atStart => exact ⟨0, Nat.zero_le _, rfl, hid (Below.refl _ _), hid rfl⟩
  case round =>
    obtain ⟨k, hk, rfl, HB, HE⟩ := hrel
    by_cases hkl : k < M.length
    · have hkl2 : (k : Int) < (M.length : Int) := by omega
      obtain ⟨g, off, rfl, hgl, k0, k1, k2⟩ := BlS.at3 (HS.out.below HB.out) hkl
      obtain ⟨b, hb⟩ : ∃ b, M[k] = b := ⟨_, rfl⟩
      have hcc := fun W (hW : Below w.heap.size w W) => checkB_c b (HM.out b (by rw [← hb]; exact List.getElem_mem hkl)) W (HT.out.bel hW)
      rw [hb] at k0 k1 k2
      have hE2 : eachB M = if chkB b ≠ 0 then chkB b else eachB (M.drop (k + 1)) := by rw [HE.out, List.drop_eq_getElem_cons hkl, hb, eachB]
      obtain ⟨q, hq⟩ : ∃ q, chkB b = q := ⟨_, rfl⟩
      rw [hq] at hcc hE2
      unfold blkV at hcc
      have HC := hid hcc
      have HE2 := hid hE2
      clear hcc hE2 hb hq
      by_cases hq0 : q = 0
      · subst hq0
        have HE3 : Hid (eachB M = eachB (M.drop (k + 1))) := hid (by rw [HE2.out]; simp)
        go_wp2_with (go_at_call 97; refine (HC.out _ (balloc HB.out _)).mono ?_; rintro e w1 ⟨rfl, hb1⟩; have HB1 := hid (bthen (balloc HB.out _) hb1); clear hb1)
        exact ⟨⟨k + 1, by omega, by simp, HB1, HE3⟩, by simp [intOf]; omega⟩
      · have hqb : (q != 0) = true := by rw [bne_iff_ne]; exact hq0
        have HE3 : Hid (eachB M = q) := hid (by rw [HE2.out, if_pos hq0])
        go_wp2_with (go_at_call 97; refine (HC.out _ (balloc HB.out _)).mono ?_; rintro e w1 ⟨rfl, hb1⟩; have HB1 := hid (bthen (balloc HB.out _) hb1); clear hb1)
        go_ret
        exact ⟨by rw [HE3.out]; rfl, HB1.out⟩
    · have hkl2 : ¬ (k : Int) < (M.length : Int) := by omega
      have HE3 : Hid (eachB M = 0) := hid (by rw [HE.out, List.drop_of_length_le (by omega), eachB])
      go_wp2
      go_ret
      exact ⟨by rw [HE3.out]; rfl, HB.out⟩
theorem eachB_all : ∀ {M : List Blk}, eachB M = 0 → ∀ b ∈ M, chkB b = 0
  | [], _, b, hb => by simp at hb
  | a :: r, h, b, hb => by
    unfold eachB at h
    by_cases h0 : chkB a = 0
    · rw [if_neg (by simp [h0])] at h
      rcases List.mem_cons.1 hb with rfl | hb
      · exact h0
      · exact eachB_all h b hb
    · rw [if_pos h0] at h
      exact absurd h h0
theorem eachB_of : ∀ {M : List Blk}, (∀ b ∈ M, chkB b = 0) → eachB M = 0
  | [], _ => rfl
  | a :: r, h => by
    unfold eachB
    rw [if_neg (by simp [h a (by simp)])]
    exact eachB_of fun b hb => h b (List.mem_cons_of_mem _ hb)
def cntOk (M : List Blk) : Prop := ∀ b ∈ M, 1 ≤ b.2.2 ∧ b.2.2 ≤ 1073741824
theorem chkB_cnt {b : Blk} (h : chkB b = 0) : 1 ≤ b.2.2 ∧ b.2.2 ≤ 1073741824 := by
  unfold chkB at h
  split at h
  · cases h
  · split at h
    · cases h
    · split at h
      · cases h
      · split at h
        · cases h
        · omega
/-- how many in all; none: too many -/
def sumG : Int → List Blk → Option Int
  | n, [] => some n
  | n, b :: r => if 1073741824 < n + b.2.2 then none else sumG (n + b.2.2) r
def sumR : Option Int → Value
  | none => .tuple #[.int .i64 0, .bool false]
  | some n => .tuple #[.int .i64 n, .bool true]
set_option maxRecDepth 100000 in
set_option maxHeartbeats 2000000 in
theorem sum_c {w : World} {v : Value} {M : List Blk} (h : BlS w v M) (hM : cntOk M) (hl : M.length ≤ 1000000000) : Calls Tryz.prog 28 #[v] w fun e w' => e = .returned (sumR (sumG 0 M)) ∧ Below w.heap.size w w' := by
  obtain ⟨A, c, rfl, hc⟩ := SL.form h
  have HS := hid h
  have HM := hid hM
  clear hM
  go_enter Tryz.func28, Tryz.ntmps28
  go_wp2
  go_loopw [2, 8] (fun nv iv wr => ∃ (k : Nat) (n : Int), k ≤ M.length ∧ iv = .int .i64 (k : Int) ∧ nv = .int .i64 n ∧ 0 ≤ n ∧ n ≤ 1073741824 ∧ Hid (Below w.heap.size w wr) ∧ Hid (sumG 0 M = sumG n (M.drop k))) (fun nv iv _ => M.length - (intOf iv).toNat)
  case atStart => exact ⟨0, 0, Nat.zero_le _, rfl, rfl, by omega, by omega, hid (Below.refl _ _), hid rfl⟩
  case round =>
    obtain ⟨k, n, hk, rfl, rfl, hn0, hn1, HB, HE⟩ := hrel
    by_cases hkl : k < M.length
    · have hkl2 : (k : Int) < (M.length : Int) := by omega
      obtain ⟨g, off, rfl, hgl, k0, k1, k2⟩ := BlS.at3 (HS.out.below HB.out) hkl
      have hm := HM.out _ (List.getElem_mem hkl)
      have hE2 : sumG 0 M = if 1073741824 < n + M[k].2.2 then none else sumG (n + M[k].2.2) (M.drop (k + 1)) := by rw [HE.out, List.drop_eq_getElem_cons hkl, sumG]
      obtain ⟨b, hbb⟩ : ∃ b, M[k] = b := ⟨_, rfl⟩
      obtain ⟨f, t, m⟩ := b
      rw [hbb] at k0 k1 k2 hm hE2
      dsimp only at k0 k1 k2 hm hE2
      have HE2 := hid hE2
      have hwr : IntKind.i64.wrap (n + m) = n + m := by rw [IntKind.wrap_i64]; omega
      clear hE2 hbb
      by_cases hq : 1073741824 < n + m
      · have HE3 : Hid (sumG 0 M = none) := hid (HE2.out.trans (if_pos hq))
        go_wp2
        go_ret2
        exact ⟨by rw [HE3.out]; rfl, balloc HB.out _⟩
      · have HE3 : Hid (sumG 0 M = sumG (n + m) (M.drop (k + 1))) := hid (HE2.out.trans (if_neg hq))
        go_wp2
        exact ⟨⟨k + 1, n + m, by omega, by simp, by simp, by omega, by omega, hid (balloc HB.out _), HE3⟩, by simp [intOf]; omega⟩
    · have hkl2 : ¬ (k : Int) < (M.length : Int) := by omega
      have HE3 : Hid (sumG 0 M = some n) := hid (by rw [HE.out, List.drop_of_length_le (by omega), sumG])
      go_wp2
      go_ret2
      exact ⟨by rw [HE3.out]; rfl, HB.out⟩
/- count: Check, Total. -/
theorem Below.drewN' {n : Nat} {w W : World} (h : Below n w W) (m : Nat) : Below n w (W.drewN m) := ⟨h.os, h.tape, h.output, h.size, h.block⟩
def blk0 : Blk := (⟨#[]⟩, ⟨#[]⟩, 0)
/-- each block before k lies behind the one before it -/
def srtT (M : List Blk) (k : Nat) : Prop := ∀ j, j < k → 0 < j → cmpT (M.getD (j - 1) blk0) (M.getD j blk0) < 0
instance (M : List Blk) (k : Nat) : Decidable (srtT M k) := inferInstanceAs (Decidable (∀ j, j < k → 0 < j → cmpT (M.getD (j - 1) blk0) (M.getD j blk0) < 0))
def chkC (M : List Blk) : Int :=
  if eachB M ≠ 0 then eachB M else if ¬ srtT M M.length then 7 else if sumG 0 M = none ∨ 4096 < M.length then 6 else 0
set_option maxRecDepth 100000 in
set_option maxHeartbeats 4000000 in
theorem chkC_c {w : World} {v : Value} {M : List Blk} (h : BlS w v M) (hM : ∀ b ∈ M, smallB b) (hT : Tab w) (hl : M.length ≤ 1000000000) : Calls Tryz.prog 27 #[v] w fun e w' => e = .returned (.int .i64 (chkC M)) ∧ Below w.heap.size w w' := by
  have heach := each_c h hM hT hl
  obtain ⟨A, c, rfl, hc⟩ := SL.form h
  have HS := hid h
  by_cases he : eachB M = 0
  · rw [he] at heach
    have hcnt : cntOk M := fun b hb => chkB_cnt (eachB_all he b hb)
    have HEA := hid heach
    have hsum := fun W (hb : Below w.heap.size w W) => sum_c (h.below hb) hcnt hl
    obtain ⟨q, hq⟩ : ∃ q, sumG 0 M = q := ⟨_, rfl⟩
    rw [hq] at hsum
    have HSU := hid hsum
    have HE : Hid (chkC M = if ¬ srtT M M.length then 7 else if q = none ∨ 4096 < M.length then 6 else 0) := hid (by rw [chkC, if_neg (by simp [he]), hq])
    clear heach hsum hq he hcnt
    go_enter Tryz.func27, Tryz.ntmps27
    go_wp2_with (first
      | (go_at_call 56; refine HEA.out.mono ?_; rintro e w1 ⟨rfl, hb1⟩; have HB1 := hid hb1; clear hb1))
    go_loopw [14] (fun iv wr => ∃ (k : Nat), k ≤ M.length ∧ iv = .int .i64 (k : Int) ∧ Hid (Below w.heap.size w wr) ∧ Hid (srtT M k)) (fun iv _ => M.length - (intOf iv).toNat)
    case atStart => exact ⟨0, Nat.zero_le _, rfl, HB1, hid (fun j hj => by omega)⟩
    case round =>
      obtain ⟨k, hk, rfl, HB, HR⟩ := hrel
      by_cases hkl : k < M.length
      · have hkl2 : (k : Int) < (M.length : Int) := by omega
        by_cases hk0 : k = 0
        · subst hk0
          have HR2 : Hid (srtT M (0 + 1)) := hid (fun j hj hj0 => by omega)
          go_wp2
          go_quiet (fail)
          go_wp2
          exact ⟨⟨1, by omega, by simp, hid (Below.drewN' HB.out nq), HR2⟩, by simp [intOf]; omega⟩
        · have hk1 : 0 < k := by omega
          have hk1b : decide (0 < k) = true := decide_eq_true hk1
          obtain ⟨g, off, rfl, hgl, k0, k1, k2⟩ := BlS.at3 (HS.out.below HB.out) hkl
          obtain ⟨p, hp⟩ : ∃ p, p + 1 = k := ⟨k - 1, by omega⟩
          have hpl : p < M.length := by omega
          obtain ⟨g', off', hA', hgl', j0, j1, j2⟩ := BlS.at3 (HS.out.below HB.out) (k := p) hpl
          cases hA'
          have hwr : IntKind.i64.wrap ((k : Int) - 1) = (p : Int) := by rw [IntKind.wrap_i64]; omega
          have hkl3 : (p : Int) < (M.length : Int) := by omega
          have hk00 : (0 : Int) ≤ (p : Int) := by omega
          have hcc := fun W => cmpT_c M[p] M[k] W
          obtain ⟨x, hx⟩ : ∃ x, M[p] = x := ⟨_, rfl⟩
          obtain ⟨y, hy⟩ : ∃ x, M[k] = x := ⟨_, rfl⟩
          have hkp : k - 1 = p := by omega
          have hxx : M.getD (k - 1) blk0 = x := by rw [hkp, ← hx, List.getD_eq_getElem?_getD, List.getElem?_eq_getElem hpl]; rfl
          have hyy : M.getD k blk0 = y := by rw [← hy, List.getD_eq_getElem?_getD, List.getElem?_eq_getElem (by omega)]; rfl
          rw [hy] at k0 k1 k2
          rw [hx] at j0 j1 j2
          rw [hx, hy] at hcc
          have hnext : cmpT x y < 0 → srtT M (k + 1) := fun h j hj hj0 => by
            rcases Nat.lt_or_ge j k with h1 | h1
            · exact HR.out j h1 hj0
            · obtain rfl : j = k := by omega
              rw [hxx, hyy]; exact h
          have hbad : 0 ≤ cmpT x y → ¬ srtT M M.length := fun h hs => by
            have := hs k hkl (by omega)
            rw [hxx, hyy] at this
            omega
          obtain ⟨z, hz⟩ : ∃ z, cmpT x y = z := ⟨_, rfl⟩
          rw [hz] at hcc hnext hbad
          unfold blkV at hcc
          have HC := hid hcc
          have HN := hid hnext
          have HBD := hid hbad
          obtain ⟨xf, xt, xn⟩ := x
          obtain ⟨yf, yt, yn⟩ := y
          dsimp only at k0 k1 k2 j0 j1 j2 HC
          clear hcc hnext hbad hz hxx hyy hx hy hkp hp
          go_wp2
          go_region_held3 (fun w' => w'.cell? ⟨g, off + k * 3, none⟩ = some (.string yf) ∧ w'.cell? ⟨g, off + k * 3 + 1, none⟩ = some (.string yt) ∧ w'.cell? ⟨g, off + k * 3 + 2, none⟩ = some (.int .i64 yn) ∧ w'.cell? ⟨g, off + p * 3, none⟩ = some (.string xf) ∧ w'.cell? ⟨g, off + p * 3 + 1, none⟩ = some (.string xt) ∧ w'.cell? ⟨g, off + p * 3 + 2, none⟩ = some (.int .i64 xn))
            (first | exact ⟨k0, k1, k2, j0, j1, j2⟩ | exact ⟨p0, p1, p2, p3, p4, p5⟩ | go_keep)
            ((go_at_call 58; refine (HC.out _).mono ?_; rintro e w1 ⟨rfl, hb1⟩; have HB2 := hid (bthen HB.out.drew hb1); have p0 := (World.cell?_of_block (hb1.block g hgl)).trans k0; have p1 := (World.cell?_of_block (hb1.block g hgl)).trans k1; have p2 := (World.cell?_of_block (hb1.block g hgl)).trans k2; have p3 := (World.cell?_of_block (hb1.block g hgl)).trans j0; have p4 := (World.cell?_of_block (hb1.block g hgl)).trans j1; have p5 := (World.cell?_of_block (hb1.block g hgl)).trans j2; clear hb1))
          all_goals
            clear k0 k1 k2 j0 j1 j2 p0 p1 p2 p3 p4 p5
            by_cases hz0 : 0 ≤ z
            · have HE2 := hid (HE.out.trans (if_pos (HBD.out hz0)))
              go_wp2
              go_ret
              exact ⟨by rw [HE2.out]; rfl, HB2.out⟩
            · have HR2 := hid (HN.out (by omega))
              go_wp2
              exact ⟨⟨k + 1, by omega, by simp, HB2, HR2⟩, by simp [intOf]; omega⟩
      · obtain rfl : k = M.length := by omega
        have HE2 := hid (HE.out.trans (if_neg (by simpa using HR.out)))
        cases q with
        | none =>
          have HE3 : Hid (chkC M = 6) := hid (by rw [HE2.out]; simp)
          unfold sumR at HSU
          dsimp only at HSU
          go_wp2_with (go_at_call 28; refine (HSU.out _ HB.out).mono ?_; rintro e w2 ⟨rfl, hb2⟩; have HB2 := hid (bthen HB.out hb2); clear hb2)
          go_ret
          exact ⟨by rw [HE3.out]; rfl, HB2.out⟩
        | some n =>
          unfold sumR at HSU
          dsimp only at HSU
          by_cases h4 : 4096 < M.length
          · have h4i : (4096 : Int) < (M.length : Int) := by omega
            have HE3 : Hid (chkC M = 6) := hid (by rw [HE2.out]; simp [h4])
            go_wp2_with (go_at_call 28; refine (HSU.out _ HB.out).mono ?_; rintro e w2 ⟨rfl, hb2⟩; have HB2 := hid (bthen HB.out hb2); clear hb2)
            go_ret
            exact ⟨by rw [HE3.out]; rfl, HB2.out⟩
          · have h4i : ¬ (4096 : Int) < (M.length : Int) := by omega
            have HE3 : Hid (chkC M = 0) := hid (by rw [HE2.out]; simp [h4])
            go_wp2_with (go_at_call 28; refine (HSU.out _ HB.out).mono ?_; rintro e w2 ⟨rfl, hb2⟩; have HB2 := hid (bthen HB.out hb2); clear hb2)
            go_ret
            exact ⟨by rw [HE3.out]; rfl, HB2.out⟩
  · obtain ⟨q, hq⟩ : ∃ q, eachB M = q := ⟨_, rfl⟩
    have HE : Hid (chkC M = q) := hid (by rw [chkC, if_pos he, hq])
    rw [hq] at heach he
    have heb : (q != 0) = true := by rw [bne_iff_ne]; exact he
    have HEA := hid heach
    clear heach hq
    go_enter Tryz.func27, Tryz.ntmps27
    go_wp2_with (go_at_call 56; refine HEA.out.mono ?_; rintro e w1 ⟨rfl, hb1⟩; have HB1 := hid hb1; clear hb1)
    go_ret
    exact ⟨by rw [HE.out]; rfl, HB1.out⟩
/- count: Total. -/
theorem chkC_zero {M : List Blk} (h : chkC M = 0) : eachB M = 0 ∧ srtT M M.length ∧ (∃ n, sumG 0 M = some n) ∧ M.length ≤ 4096 := by
  unfold chkC at h
  split at h
  · next h1 => exact absurd h h1
  · next h1 =>
    split at h
    · cases h
    · next h2 =>
      split at h
      · cases h
      · next h3 =>
        refine ⟨by simpa using h1, by simpa using h2, ?_, by omega⟩
        cases hs : sumG 0 M with
        | none => exact absurd (.inl hs) h3
        | some n => exact ⟨n, rfl⟩
theorem chkC_of {M : List Blk} {n : Int} (h1 : eachB M = 0) (h2 : srtT M M.length) (h3 : sumG 0 M = some n) (h4 : M.length ≤ 4096) : chkC M = 0 := by
  unfold chkC
  rw [if_neg (by simp [h1]), if_neg (by simpa using h2), if_neg (by rw [h3]; simp; omega)]
/-- what Total hands back -/
def totE (M : List Blk) : Int × Int := if chkC M = 0 then ((sumG 0 M).getD 0, 0) else (0, chkC M)
set_option maxRecDepth 100000 in
set_option maxHeartbeats 2000000 in
theorem total_c {w : World} {v : Value} {M : List Blk} (h : BlS w v M) (hM : ∀ b ∈ M, smallB b) (hT : Tab w) (hl : M.length ≤ 1000000000) : Calls Tryz.prog 11 #[v] w fun e w' => e = .returned (.tuple #[.int .i64 (totE M).1, .int .i64 (totE M).2]) ∧ Below w.heap.size w w' := by
  have hchk := chkC_c h hM hT hl
  by_cases hq : chkC M = 0
  · obtain ⟨h1, h2, ⟨n, hn⟩, h4⟩ := chkC_zero hq
    have hcnt : cntOk M := fun b hb => chkB_cnt (eachB_all h1 b hb)
    have hsum := fun W (hb : Below w.heap.size w W) => sum_c (BlS.below h hb) hcnt hl
    rw [hq] at hchk
    rw [hn] at hsum
    unfold sumR at hsum
    dsimp only at hsum
    have hE : totE M = (n, 0) := by rw [totE, if_pos hq, hn]; rfl
    rw [hE]
    obtain ⟨A, c, rfl, hc⟩ := SL.form h
    have HC := hid hchk
    have HS := hid hsum
    clear hchk hsum hE h1 h2 hn h4 hcnt hq
    go_enter Tryz.func11, Tryz.ntmps11
    go_wp2_with (first
      | (go_at_call 27; refine HC.out.mono ?_; rintro e w1 ⟨rfl, hb1⟩; have HB1 := hid hb1; clear hb1)
      | (go_at_call 28; refine (HS.out _ HB1.out).mono ?_; rintro e w2 ⟨rfl, hb2⟩; have HB2 := hid (bthen HB1.out hb2); clear hb2))
    go_ret2
    exact ⟨rfl, HB2.out⟩
  · have hE : totE M = (0, chkC M) := by rw [totE, if_neg hq]
    rw [hE]
    obtain ⟨q, hqq⟩ : ∃ q, chkC M = q := ⟨_, rfl⟩
    rw [hqq] at hchk hq ⊢
    have hqb : (q != 0) = true := by rw [bne_iff_ne]; exact hq
    obtain ⟨A, c, rfl, hc⟩ := SL.form h
    have HC := hid hchk
    clear hchk hE hqq
    go_enter Tryz.func11, Tryz.ntmps11
    go_wp2_with (go_at_call 27; refine HC.out.mono ?_; rintro e w1 ⟨rfl, hb1⟩; have HB1 := hid hb1; clear hb1)
    go_ret2
    exact ⟨rfl, HB1.out⟩
end Go.Proofs.YteigplfldhdakaaGreatDoor
/- maps whose keys are two texts: laws said of the entries themselves. -/
namespace Go.Proofs.YteigplfldhdakaaGreatDoor
open Go.RowKit Go.Shelf
def twoS (f t : ByteArray) : Value := .agg #[.string f, .string t]
theorem stood140 : Tryz.prog.stoodInHeld 140 = false := by kernel_rfl
theorem eq140 (f t f' t' : ByteArray) (w : World) : (Op.equal 140 (twoS f t) (twoS f' t')).run Tryz.prog w = .ok (decide (f = f' ∧ t = t')) w := by
  have h140 := Tryz.underlying140
  have hf : Tryz.prog.underlying 140 = some (.struct (Tryz.prog.fieldsOf 140)) := by simp [Program.fieldsOf, h140]
  show (Op.equalIn (9998 + 1 + 1) 140 (.agg #[.string f, .string t]) (.agg #[.string f', .string t'])).run Tryz.prog w = _
  rw [run_equalIn_struct (P := Tryz.prog) w (9998 + 1) 140 _ _ hf stood140]
  have h9 := Tryz.underlying9
  simp only [Program.fieldsOf, h140]
  by_cases hff : f = f'
  · subst hff
    by_cases htt : t = t'
    · subst htt
      go_simp
    · have h2 : ¬ t.toList = t'.toList := fun h => htt (bytesEq h)
      go_simp
  · have h2 : ¬ f.toList = f'.toList := fun h => hff (bytesEq h)
    go_simp
theorem check9 (em : Bool) (n : Nat) (f : ByteArray) (w : World) : (Instr.checkKey em (n + 1) 9 (.string f)).run Tryz.prog w = .ok () w := by
  have h9 := Tryz.underlying9
  rw [Instr.checkKey]
  go_simp
theorem check140 (em : Bool) (f t : ByteArray) (w : World) : (Instr.checkKey em 10000 140 (twoS f t)).run Tryz.prog w = .ok () w := by
  show (Instr.checkKey em (9998 + 1 + 1) 140 (.agg #[.string f, .string t])).run Tryz.prog w = _
  have h9 := Tryz.underlying9
  have h140 := Tryz.underlying140
  have e1 := check9 em 9998 f w
  have e2 := check9 em 9998 t w
  rw [Instr.checkKey]
  go_simp
/-- entry number i of a map from two texts to numbers -/
def ent (x : ByteArray × ByteArray × Int) (born : Nat) : MapEntry := ⟨twoS x.1 x.2.1, .int .i64 x.2.2, born⟩
def entsF : Nat → List (ByteArray × ByteArray × Int) → List MapEntry
  | _, [] => []
  | n, x :: r => ent x n :: entsF (n + 1) r
/-- the number at (f, t), and where -/
def findT (f t : ByteArray) : Nat → List (ByteArray × ByteArray × Int) → Option (Nat × Int)
  | _, [] => none
  | n, x :: r => if f = x.1 ∧ t = x.2.1 then some (n, x.2.2) else findT f t (n + 1) r
theorem asking140 (f t : ByteArray) (w : World) : ∀ (l : List (ByteArray × ByteArray × Int)) (n i : Nat),
    (Instr.findAsking 140 (twoS f t) (entsF n l) i).run Tryz.prog w = .ok ((findT f t i l).map fun x => (x.1, Value.int .i64 x.2)) w
  | [], n, i => by simp [entsF, Instr.findAsking, findT]
  | x :: r, n, i => by
    have h := asking140 f t w r (n + 1) (i + 1)
    have he := eq140 f t x.1 x.2.1 w
    rw [entsF, Instr.findAsking, findT]
    by_cases hq : f = x.1 ∧ t = x.2.1
    · rw [if_pos hq]; rw [decide_eq_true hq] at he; simp [ent, he]
    · rw [if_neg hq]; rw [decide_eq_false hq] at he; simp [ent, he, h]
theorem find140 (f t : ByteArray) (w : World) (l : List (ByteArray × ByteArray × Int)) (n : Nat) :
    (Instr.findKey 140 (twoS f t) (entsF n l)).run Tryz.prog w = .ok ((findT f t 0 l).map fun x => (x.1, Value.int .i64 x.2)) w := by
  have h := asking140 f t w l n 0
  cases l with
  | nil => simp [Instr.findKey, run_underlying Tryz.underlying140, entsF, Instr.findNow, findT]
  | cons x r =>
    rw [entsF] at h ⊢
    simp [Instr.findKey, run_underlying Tryz.underlying140, Instr.findNow, Instr.sameNow, h]
/-- block b is such a map -/
def MapAt (w : World) (b : Nat) (l : List (ByteArray × ByteArray × Int)) : Prop := w.heap[b]? = some (.map (entsF 0 l).toArray l.length)
theorem lookup140 {w : World} {b : Nat} {l : List (ByteArray × ByteArray × Int)} (h : MapAt w b l) (f t : ByteArray) :
    (Instr.lookup 138 (.map (some b)) (twoS f t) true).run Tryz.prog w = .ok (match findT f t 0 l with
      | some x => .tuple #[.int .i64 x.2, .bool true]
      | none => .tuple #[.int .i64 0, .bool false]) w := by
  have hz : (zeroValue 3).run Tryz.prog w = .ok (.int .i64 0) w := by kernel_rfl
  have hf := find140 f t w l 0
  have hc := check140 (entsF 0 l).isEmpty f t w
  cases hq : findT f t 0 l with
  | none => rw [hq] at hf; simp [Instr.lookup, run_underlying Tryz.underlying138, MapKept.run_getObj_map h, hc, hf, hz, Result.andThen]
  | some x => rw [hq] at hf; simp [Instr.lookup, run_underlying Tryz.underlying138, MapKept.run_getObj_map h, hc, hf, Result.andThen]
theorem entsF_snoc : ∀ (l : List (ByteArray × ByteArray × Int)) (n : Nat) (x : ByteArray × ByteArray × Int), entsF n l ++ [ent x (n + l.length)] = entsF n (l ++ [x])
  | [], n, x => by simp [entsF]
  | a :: r, n, x => by
    have := entsF_snoc r (n + 1) x
    simp only [List.cons_append, entsF, List.length_cons]
    rw [← this, show n + (r.length + 1) = n + 1 + r.length by omega]
def mapPut (w : World) (b : Nat) (l : List (ByteArray × ByteArray × Int)) : World := w.putObj b (.map (entsF 0 l).toArray l.length)
theorem mapPut_at {w : World} {b : Nat} {l : List (ByteArray × ByteArray × Int)} (h : MapAt w b l) (l' : List (ByteArray × ByteArray × Int)) : MapAt (mapPut w b l') b l' := World.putObj_heap_same (blk_lt h)
theorem mapPut_other {w : World} {b k : Nat} (l : List (ByteArray × ByteArray × Int)) (h : k ≠ b) : (mapPut w b l).heap[k]? = w.heap[k]? := World.putObj_heap_other h
theorem update140 {w : World} {b : Nat} {l : List (ByteArray × ByteArray × Int)} (h : MapAt w b l) (f t : ByteArray) (v : Int) (hn : findT f t 0 l = none) :
    (Instr.mapUpdate 138 (.map (some b)) (twoS f t) (.int .i64 v)).run Tryz.prog w = .ok () (mapPut w b (l ++ [(f, t, v)])) := by
  have hf := find140 f t w l 0
  have hc := check140 false f t w
  have hs := entsF_snoc l 0 (f, t, v)
  rw [hn] at hf
  simp [Instr.mapUpdate, run_underlying Tryz.underlying138, MapKept.run_getObj_map h, hc, hf, MapKept.run_setObj_map _ h, Result.andThen, mapPut, World.putObj]
  rw [← hs]
  simp [ent]
end Go.Proofs.YteigplfldhdakaaGreatDoor
/- blocks in order; compare, for the sort: what it lays. -/
namespace Go.Proofs.YteigplfldhdakaaGreatDoor
open Go.RowKit Go.Shelf Go.Sort
attribute [local go_sem ↓] Go.wp_at_zero Go.wp_at_succ
/-- blocks were laid, orders drawn; nothing else -/
def Laid (w w' : World) : Prop := ∃ q os, w' = Sort.grow (w.drewN q) os
theorem Laid.refl (w : World) : Laid w w := ⟨0, #[], by rw [Sort.grow_empty]; rfl⟩
theorem Laid.alloc {w w' : World} (h : Laid w w') (o : Obj) : Laid w (w'.alloc o) := by
  obtain ⟨q, os, rfl⟩ := h
  exact ⟨q, os ++ #[o], by rw [Sort.alloc_eq_grow, Sort.grow_grow]⟩
theorem Laid.drewN {w w' : World} (h : Laid w w') (n : Nat) : Laid w (w'.drewN n) := by
  obtain ⟨q, os, rfl⟩ := h
  exact ⟨q + n, os, by simp [Sort.grow, World.drewN, Nat.add_assoc]⟩
theorem Laid.drew {w w' : World} (h : Laid w w') : Laid w w'.drew := by
  obtain ⟨q, os, rfl⟩ := h
  exact ⟨q + 1, os, by simp [Sort.grow, World.drewN, World.drew, Nat.add_assoc]⟩
theorem Laid.trans {a b c : World} (h : Laid a b) (k : Laid b c) : Laid a c := by
  obtain ⟨q, os, rfl⟩ := h
  obtain ⟨q', os', rfl⟩ := k
  exact ⟨q + q', os ++ os', by simp [Sort.grow, World.drewN, Nat.add_assoc, Array.append_assoc]⟩
theorem Laid.below {w w' : World} (h : Laid w w') : Below w.heap.size w w' := by
  obtain ⟨q, os, rfl⟩ := h
  exact ⟨rfl, rfl, rfl, by simp [Sort.grow, World.drewN], fun k hk => by
    show (w.heap ++ os)[k]? = w.heap[k]?
    rw [Array.getElem?_append_left hk]⟩
set_option maxRecDepth 100000 in
set_option maxHeartbeats 2000000 in
theorem less_l (a b : Blk) (w : World) : Calls Tryz.prog 100 #[blkV a, blkV b] w fun e w' => e = .returned (.bool (decide (cmpB a b < 0))) ∧ Laid w w' := by
  obtain ⟨af, at_, an⟩ := a
  obtain ⟨bf, bt, bn⟩ := b
  unfold blkV
  dsimp only
  obtain ⟨x, hx⟩ : ∃ x, cmpS af bf = x := ⟨_, rfl⟩
  obtain ⟨y, hy⟩ : ∃ y, cmpS at_ bt = y := ⟨_, rfl⟩
  have c1 : ∀ W, Calls Tryz.prog 95 #[.string af, .string bf] W fun e w' => e = .returned (.int .i64 x) ∧ w' = W := fun W => by rw [← hx]; exact cmps_c af bf W
  have c2 : ∀ W, Calls Tryz.prog 95 #[.string at_, .string bt] W fun e w' => e = .returned (.int .i64 y) ∧ w' = W := fun W => by rw [← hy]; exact cmps_c at_ bt W
  have HE : Hid (cmpB (af, at_, an) (bf, bt, bn) = orF [x, y]) := hid (by rw [cmpB, hx, hy])
  have C1 := hid c1
  have C2 := hid c2
  clear c1 c2 hx hy
  go_enter Tryz.func100, Tryz.ntmps100
  go_wp2
  obtain ⟨W, hW⟩ : ∃ W, (w.alloc (Obj.cells #[Value.string af, Value.string at_, Value.int IntKind.i64 an] 38)).alloc (Obj.cells #[Value.string bf, Value.string bt, Value.int IntKind.i64 bn] 38) = W := ⟨_, rfl⟩
  have hbW : Laid w W := by rw [← hW]; exact ((Laid.refl w).alloc _).alloc _
  have g0 := al2_0 w (Obj.cells #[Value.string af, Value.string at_, Value.int IntKind.i64 an] 38) (Obj.cells #[Value.string bf, Value.string bt, Value.int IntKind.i64 bn] 38)
  have g1 := al2_1 w (Obj.cells #[Value.string af, Value.string at_, Value.int IntKind.i64 an] 38) (Obj.cells #[Value.string bf, Value.string bt, Value.int IntKind.i64 bn] 38)
  rw [hW] at g0 g1 ⊢
  have a0 : W.cell? ⟨w.heap.size, 0, none⟩ = some (.string af) := by rw [cell_of_row W _ 0 _ _ _ g0]; rfl
  have a1 : W.cell? ⟨w.heap.size, 1, none⟩ = some (.string at_) := by rw [cell_of_row W _ 1 _ _ _ g0]; rfl
  have b0 : W.cell? ⟨w.heap.size + 1, 0, none⟩ = some (.string bf) := by rw [cell_of_row W _ 0 _ _ _ g1]; rfl
  have b1 : W.cell? ⟨w.heap.size + 1, 1, none⟩ = some (.string bt) := by rw [cell_of_row W _ 1 _ _ _ g1]; rfl
  have HB := hid hbW
  clear hbW g0 g1 hW
  refine wp_region_still_tail 10 (by kernel_rfl) (by kernel_rfl) ?_
  simp only [List.take_succ_cons, List.take_zero, List.drop_succ_cons, List.drop_zero]
  repeat still_step
  still_call (C1.out _)
  repeat still_step
  still_call (C2.out _)
  repeat still_step
  refine wpStill_nil ?_
  change wpList _ _ _ _ _ W.drew
  have HL := hid (SL.lit W.drew 3 1 2 #[.int .i64 x, .int .i64 y] rfl (by simp [maxLen]))
  have hor : Calls Tryz.prog 94 #[.slice (some ⟨W.heap.size, 0, none⟩) 2 2] (W.drew.alloc (.cells #[.int .i64 x, .int .i64 y] 3)) fun e w' => e = .returned (.int .i64 (orF [x, y])) ∧ w' = W.drew.alloc (.cells #[.int .i64 x, .int .i64 y] 3) := or_c (xs := [x, y]) HL.out
  have HOR := hid hor
  obtain ⟨z, hz⟩ : ∃ z, orF [x, y] = z := ⟨_, rfl⟩
  rw [hz] at HOR HE
  clear hor hz
  go_wp2_with (go_at_call 94; refine HOR.out.mono ?_; rintro e w1 ⟨rfl, rfl⟩)
  all_goals
    go_ret
    exact ⟨by rw [HE.out]; simp, HB.out.drew.alloc _⟩
set_option maxRecDepth 100000 in
set_option maxHeartbeats 2000000 in
theorem cmpT_l (a b : Blk) (w : World) : Calls Tryz.prog 58 #[blkV a, blkV b] w fun e w' => e = .returned (.int .i64 (cmpT a b)) ∧ Laid w w' := by
  obtain ⟨af, at_, an⟩ := a
  obtain ⟨bf, bt, bn⟩ := b
  have c1 := fun W => less_l (af, at_, an) (bf, bt, bn) W
  have c2 := fun W => less_l (bf, bt, bn) (af, at_, an) W
  obtain ⟨x, hx⟩ : ∃ x, decide (cmpB (af, at_, an) (bf, bt, bn) < 0) = x := ⟨_, rfl⟩
  obtain ⟨y, hy⟩ : ∃ x, decide (cmpB (bf, bt, bn) (af, at_, an) < 0) = x := ⟨_, rfl⟩
  have HE : Hid (cmpT (af, at_, an) (bf, bt, bn) = if x = true then -1 else if y = true then 1 else 0) := hid (by rw [cmpT, ← hx, ← hy]; simp)
  rw [hx] at c1
  rw [hy] at c2
  unfold blkV at c1 c2 ⊢
  dsimp only at c1 c2 ⊢
  have C1 := hid c1
  have C2 := hid c2
  clear c1 c2 hx hy
  have hb0 := ((Laid.refl w).alloc (.cells #[.string af, .string at_, .int .i64 an] 38)).alloc (.cells #[.string bf, .string bt, .int .i64 bn] 38)
  have hg0 := al2_0 w (.cells #[.string af, .string at_, .int .i64 an] 38) (.cells #[.string bf, .string bt, .int .i64 bn] 38)
  have hg1 := al2_1 w (.cells #[.string af, .string at_, .int .i64 an] 38) (.cells #[.string bf, .string bt, .int .i64 bn] 38)
  have hcl : ∀ W1, Below ((w.alloc (.cells #[.string af, .string at_, .int .i64 an] 38)).alloc (.cells #[.string bf, .string bt, .int .i64 bn] 38)).heap.size ((w.alloc (.cells #[.string af, .string at_, .int .i64 an] 38)).alloc (.cells #[.string bf, .string bt, .int .i64 bn] 38)) W1 →
      W1.heap[w.heap.size]? = some (.cells #[.string af, .string at_, .int .i64 an] 38 (0, 0)) ∧ W1.heap[w.heap.size + 1]? = some (.cells #[.string bf, .string bt, .int .i64 bn] 38 (0, 0)) := fun W1 hb => ⟨(hb.block _ (blk_lt hg0)).trans hg0, (hb.block _ (blk_lt hg1)).trans hg1⟩
  have HB0 := hid hb0
  have HCL := hid hcl
  clear hb0 hg0 hg1 hcl
  cases x
  case true =>
    go_enter Tryz.func58, Tryz.ntmps58
    go_wp2_with (go_at_call 100; refine (C1.out _).mono ?_; rintro e w1 ⟨rfl, hb1⟩; have HB1 := hid (HB0.out.trans hb1); clear hb1)
    go_ret
    exact ⟨by rw [HE.out]; rfl, HB1.out⟩
  case false =>
    cases y <;>
    · go_enter Tryz.func58, Tryz.ntmps58
      go_wp2_with (first
        | (have _h := HB1; go_at_call 100; refine (C2.out _).mono ?_; rintro e w2 ⟨rfl, hb2⟩; have HB2 := hid (HB1.out.trans hb2); clear hb2)
        | (go_at_call 100; refine (C1.out _).mono ?_; rintro e w1 ⟨rfl, hb1⟩; have HB1 := hid (HB0.out.trans hb1); obtain ⟨h0, h1⟩ := HCL.out w1 hb1.below; obtain ⟨a0, a1, a2, -, -, -⟩ := row3 h0; obtain ⟨b0, b1, b2, -, -, -⟩ := row3 h1; clear hb1 h0 h1))
      go_ret
      exact ⟨by rw [HE.out]; rfl, HB2.out⟩
/-- the order of sides -/
def ltP (a b : Blk) : Prop := ltS a.1 b.1 = true ∨ (a.1 = b.1 ∧ ltS a.2.1 b.2.1 = true)
theorem cmpB_neg (a b : Blk) : cmpB a b < 0 ↔ ltP a b := by
  unfold cmpB ltP
  have e : ∀ x y : Int, orF [x, y] = if x = 0 then (if y = 0 then 0 else y) else x := fun x y => by unfold orF; split <;> simp_all [orF]
  rw [e]
  unfold cmpS
  cases h1 : ltS a.1 b.1
  · cases h2 : ltS b.1 a.1
    · have e1 := ltS_total h1 h2
      cases h3 : ltS a.2.1 b.2.1
      · cases h4 : ltS b.2.1 a.2.1 <;> simp [e1]
      · simp [e1]
    · have hne : a.1 ≠ b.1 := fun h => by rw [h, ltS_irrefl] at h2; cases h2
      simp [hne]
  · simp
theorem cmpT_neg (a b : Blk) : cmpT a b < 0 ↔ ltP a b := by
  rw [← cmpB_neg, cmpT]
  split
  · simp_all
  · split <;> simp_all
theorem ltP_irrefl (a : Blk) : ¬ ltP a a := fun h => by
  rcases h with h | ⟨_, h⟩ <;> (rw [ltS_irrefl] at h; cases h)
theorem ltP_trans {a b c : Blk} (h : ltP a b) (k : ltP b c) : ltP a c := by
  rcases h with h | ⟨h, h'⟩
  · rcases k with k | ⟨k, _⟩
    · exact .inl (ltS_trans h k)
    · exact .inl (by rw [← k]; exact h)
  · rcases k with k | ⟨k, k'⟩
    · exact .inl (by rw [h]; exact k)
    · exact .inr ⟨h.trans k, ltS_trans h' k'⟩
theorem ltP_total {a b : Blk} (h : ¬ ltP a b) (k : ¬ ltP b a) : a.1 = b.1 ∧ a.2.1 = b.2.1 := by
  have h1 : ltS a.1 b.1 = false := by cases q : ltS a.1 b.1; rfl; exact absurd (.inl q) h
  have k1 : ltS b.1 a.1 = false := by cases q : ltS b.1 a.1; rfl; exact absurd (.inl q) k
  have e := ltS_total h1 k1
  have h2 : ltS a.2.1 b.2.1 = false := by cases q : ltS a.2.1 b.2.1; rfl; exact absurd (.inr ⟨e, q⟩) h
  have k2 : ltS b.2.1 a.2.1 = false := by cases q : ltS b.2.1 a.2.1; rfl; exact absurd (.inr ⟨e.symm, q⟩) k
  exact ⟨e, ltS_total h2 k2⟩
theorem cmpT_swo : SWO (ltOf cmpT) where
  irrefl x := by
    show decide (cmpT x x < 0) = false
    rw [decide_eq_false_iff_not, cmpT_neg]
    exact ltP_irrefl x
  trans x y z h k := by
    have h' : cmpT x y < 0 := of_decide_eq_true h
    have k' : cmpT y z < 0 := of_decide_eq_true k
    exact decide_eq_true ((cmpT_neg _ _).2 (ltP_trans ((cmpT_neg _ _).1 h') ((cmpT_neg _ _).1 k')))
  ntrans x y z h k := by
    have h' : ¬ cmpT x y < 0 := of_decide_eq_false h
    have k' : ¬ cmpT y z < 0 := of_decide_eq_false k
    rw [cmpT_neg] at h' k'
    refine decide_eq_false (fun q => ?_)
    rw [cmpT_neg] at q
    by_cases hyx : ltP y x
    · exact k' (ltP_trans hyx q)
    · obtain ⟨e1, e2⟩ := ltP_total h' hyx
      apply k'
      unfold ltP at q ⊢
      rw [← e1, ← e2]
      exact q
/- count: the sort of a table. -/
theorem blkC_one (b : Blk) : ∀ v ∈ blkC b, v.oneCell' = true := fun v hv => by
  simp only [blkC, List.mem_cons, List.mem_nil_iff, or_false] at hv
  rcases hv with rfl | rfl | rfl <;> rfl
/-- sorted: none lies behind a later one -/
def srtd (M : List Blk) : Prop := ∀ i j, i < j → j < M.length → ¬ ltP (M.getD j blk0) (M.getD i blk0)
theorem sortB_c {w : World} {v : Value} {M : List Blk} (h : BlS w v M) (hl : M.length ≤ 1000000000) : Calls Tryz.prog 57 #[v, .func (.func 58) #[] #[]] w fun e w' =>
    e = .returned (.tuple #[]) ∧ ∃ M', M'.Perm M ∧ srtd M' ∧ BlS w' v M' ∧ Touch (fun b => v.ownBlock = some b) w w' := by
  obtain ⟨A, c, rfl, hc⟩ := SL.form h
  rcases Nat.eq_zero_or_pos M.length with h0 | h0
  · obtain rfl : M = [] := List.eq_nil_of_length_eq_zero h0
    exact (AnyF.slices_SortFunc_none Tryz.sortBlock A c _ w).mono fun e w' ⟨h1, h2⟩ => by
      rw [h2]
      exact ⟨h1, [], List.Perm.refl _, fun i j _ hj => by simp at hj, h, Touch.refl _ _⟩
  · obtain ⟨g, off, cap, hv, _, _, _, _⟩ := SL.open_ h h0
    obtain ⟨rfl, -, rfl⟩ := Value.slice.inj hv
    have hH := SL.holdsK blkC_len h h0
    have hle := SL.le h
    have hcmp : CmpLays Tryz.prog 58 #[] blkC 3 cmpT g off M.toArray.size w := fun m os dk _ x y => cmpT_l x y _
    have hs := AnyQ.slices_SortFunc Tryz.sortBlock 3 Tryz.isAgg38 Tryz.sizeOf38 blkC blkC_len blkC_one cmpT cmpT_swo 58 #[] g off c M.toArray w (enters_of Tryz.func58 (by kernel_rfl) rfl) hcmp hH (SL.lt h g rfl) (by simp; omega)
    rw [List.size_toArray] at hs
    refine hs.mono fun e w' ⟨h1, d', n, os, hp, hso, hw⟩ => ⟨h1, d'.toList, ?_, ?_, ?_⟩
    · have := hp.2.2
      have hsz : d'.size = M.length := by have := hp.1; simpa using this
      have e1 : (d'.extract 0 M.length).toList = d'.toList := by rw [← hsz]; simp
      have e2 : (M.toArray.extract 0 M.length).toList = M := by simp
      rw [e1, e2] at this
      exact this
    · have hsz : d'.size = M.length := by have := hp.1; simpa using this
      intro i j hij hj
      have hj2 : j < d'.size := by simpa using hj
      have h3 := hso i j (Nat.zero_le _) hij (by omega)
      have h4 : ¬ cmpT d'[j]! d'[i]! < 0 := of_decide_eq_false h3
      rw [cmpT_neg, getElem!_pos _ j hj2, getElem!_pos _ i (by omega)] at h4
      have ei : d'.toList.getD i blk0 = d'[i]'(by omega) := by simp [List.getD_eq_getElem?_getD, show i < d'.size by omega]
      have ej : d'.toList.getD j blk0 = d'[j] := by simp [List.getD_eq_getElem?_getD, hj2]
      rw [ei, ej]
      exact h4
    · have hsz : d'.size = M.length := by have := hp.1; simpa using this
      have hlen : d'.toList.length = M.length := by simpa using hsz
      have h2 := SL.sorted blkC_len h h0 n d'.toList (by simpa using hsz) os
      rw [Array.toArray_toList] at h2
      have hw2 : w' = grow (putRowK blkC 3 (Sort.ahead w n) g off d') os := hw
      rw [hw2]
      refine ⟨?_, h2.2.mono fun k hk => by subst hk; rfl⟩
      unfold BlS
      have h3 := h2.1
      rw [hlen] at h3 ⊢
      exact h3
end Go.Proofs.YteigplfldhdakaaGreatDoor
/- count, plain: the table of a list of blocks. -/
namespace Go.Proofs.YteigplfldhdakaaGreatDoor
/-- where (f, t) stands -/
def posB (f t : ByteArray) : List Blk → Option Nat
  | [] => none
  | b :: r => if f = b.1 ∧ t = b.2.1 then some 0 else (posB f t r).map (· + 1)
def mapL : Nat → List Blk → List (ByteArray × ByteArray × Int)
  | _, [] => []
  | n, b :: r => (b.1, b.2.1, (n : Int)) :: mapL (n + 1) r
theorem mapL_len : ∀ (L : List Blk) (n : Nat), (mapL n L).length = L.length
  | [], _ => rfl
  | b :: r, n => by simp [mapL, mapL_len r]
theorem findT_mapL (f t : ByteArray) : ∀ (L : List Blk) (i n : Nat), findT f t i (mapL n L) = (posB f t L).map fun k => (i + k, ((n + k : Nat) : Int))
  | [], i, n => by simp [mapL, findT, posB]
  | b :: r, i, n => by
    rw [mapL, findT, posB]
    by_cases h : f = b.1 ∧ t = b.2.1
    · rw [if_pos h, if_pos h]; simp
    · rw [if_neg h, if_neg h, findT_mapL f t r]
      cases posB f t r with
      | none => rfl
      | some k => simp; omega
theorem mapL_snoc : ∀ (L : List Blk) (n : Nat) (b : Blk), mapL n (L ++ [b]) = mapL n L ++ [(b.1, b.2.1, ((n + L.length : Nat) : Int))]
  | [], n, b => by simp [mapL]
  | a :: r, n, b => by
    simp only [List.cons_append, mapL, List.length_cons]
    rw [mapL_snoc r (n + 1) b, show n + (r.length + 1) = n + 1 + r.length by omega]
theorem mapL_set : ∀ (L : List Blk) (n k : Nat) (m : Int), mapL n (L.set k ((L.getD k blk0).1, (L.getD k blk0).2.1, m)) = mapL n L
  | [], n, k, m => by simp [mapL]
  | a :: r, n, 0, m => by simp [mapL]
  | a :: r, n, k + 1, m => by
    simp only [List.set_cons_succ, mapL, List.getD_cons_succ]
    rw [mapL_set r (n + 1) k m]
theorem posB_some {f t : ByteArray} : ∀ {L : List Blk} {k : Nat}, posB f t L = some k → k < L.length ∧ (L.getD k blk0).1 = f ∧ (L.getD k blk0).2.1 = t
  | [], k, h => by simp [posB] at h
  | b :: r, k, h => by
    unfold posB at h
    by_cases hb : f = b.1 ∧ t = b.2.1
    · rw [if_pos hb] at h
      cases h
      exact ⟨by simp, hb.1.symm, hb.2.symm⟩
    · rw [if_neg hb] at h
      cases hq : posB f t r with
      | none => rw [hq] at h; cases h
      | some q =>
        rw [hq] at h
        cases h
        obtain ⟨h1, h2, h3⟩ := posB_some hq
        exact ⟨by simp; omega, by simpa using h2, by simpa using h3⟩
theorem posB_none {f t : ByteArray} : ∀ {L : List Blk}, posB f t L = none → ∀ b ∈ L, ¬ (f = b.1 ∧ t = b.2.1)
  | [], _, b, hb => by simp at hb
  | a :: r, h, b, hb => by
    unfold posB at h
    by_cases ha : f = a.1 ∧ t = a.2.1
    · rw [if_pos ha] at h; cases h
    · rw [if_neg ha] at h
      rcases List.mem_cons.1 hb with rfl | hb
      · exact ha
      · refine posB_none ?_ b hb
        cases hq : posB f t r with
        | none => rfl
        | some q => rw [hq] at h; cases h
def addB (L : List Blk) (b : Blk) : List Blk := match posB b.1 b.2.1 L with
  | some k => L.set k ((L.getD k blk0).1, (L.getD k blk0).2.1, (L.getD k blk0).2.2 + b.2.2)
  | none => L ++ [b]
def tabL (M : List Blk) : List Blk := M.foldl addB []
theorem tabL_take {M : List Blk} {k : Nat} (hk : k < M.length) : tabL (M.take (k + 1)) = addB (tabL (M.take k)) M[k] := by
  unfold tabL
  rw [List.take_add_one, List.getElem?_eq_getElem hk, List.foldl_append]
  rfl
def totB : List Blk → Int
  | [] => 0
  | b :: r => b.2.2 + totB r
theorem totB_append : ∀ (L K : List Blk), totB (L ++ K) = totB L + totB K
  | [], K => by simp [totB]
  | b :: r, K => by simp only [List.cons_append, totB]; rw [totB_append r K]; omega
theorem totB_set : ∀ (L : List Blk) (k : Nat) (x : Blk), k < L.length → totB (L.set k x) = totB L - (L.getD k blk0).2.2 + x.2.2
  | [], k, x, h => by simp at h
  | b :: r, 0, x, h => by simp [totB]; omega
  | b :: r, k + 1, x, h => by
    simp only [List.set_cons_succ, totB, List.getD_cons_succ]
    rw [totB_set r k x (by simpa using h)]
    omega
theorem totB_add (L : List Blk) (b : Blk) : totB (addB L b) = totB L + b.2.2 := by
  unfold addB
  split
  · next k hk =>
    rw [totB_set _ _ _ (posB_some hk).1]
    dsimp only
    omega
  · rw [totB_append]; simp [totB]
theorem addB_len (L : List Blk) (b : Blk) : L.length ≤ (addB L b).length ∧ (addB L b).length ≤ L.length + 1 := by
  unfold addB
  split <;> simp
/-- counts that are positive -/
def posC (L : List Blk) : Prop := ∀ x ∈ L, 1 ≤ x.2.2
theorem getD_mem {L : List Blk} {k : Nat} (h : k < L.length) : L.getD k blk0 ∈ L := by
  rw [List.getD_eq_getElem?_getD, List.getElem?_eq_getElem h]; exact List.getElem_mem h
theorem addB_mem {L : List Blk} {b x : Blk} (h : x ∈ addB L b) : (x ∈ L ∨ x = b) ∨ (∃ y ∈ L, x = (y.1, y.2.1, y.2.2 + b.2.2)) := by
  unfold addB at h
  split at h
  · next k hk =>
    rcases List.mem_or_eq_of_mem_set h with h | h
    · exact .inl (.inl h)
    · exact .inr ⟨_, getD_mem (posB_some hk).1, h⟩
  · rcases List.mem_append.1 h with h | h
    · exact .inl (.inl h)
    · exact .inl (.inr (by simpa using h))
theorem posC_add {L : List Blk} {b : Blk} (hL : posC L) (hb : 1 ≤ b.2.2) : posC (addB L b) := fun x hx => by
  rcases addB_mem hx with (h | rfl) | ⟨y, hy, rfl⟩
  · exact hL x h
  · exact hb
  · have := hL y hy
    dsimp only
    omega
theorem totB_nonneg : ∀ {L : List Blk}, posC L → 0 ≤ totB L
  | [], _ => by simp [totB]
  | b :: r, h => by
    have h1 := h b (by simp)
    have h2 := totB_nonneg (L := r) fun x hx => h x (List.mem_cons_of_mem _ hx)
    simp only [totB]
    omega
theorem le_totB : ∀ {L : List Blk}, posC L → ∀ x ∈ L, x.2.2 ≤ totB L
  | [], _, x, hx => by simp at hx
  | b :: r, h, x, hx => by
    have h1 := h b (by simp)
    have h3 : posC r := fun x hx => h x (List.mem_cons_of_mem _ hx)
    have h2 := totB_nonneg h3
    simp only [totB]
    rcases List.mem_cons.1 hx with rfl | hx
    · omega
    · have := le_totB h3 x hx
      omega
theorem sumG_some : ∀ {M : List Blk} {n r : Int}, sumG n M = some r → r = n + totB M ∧ (n ≤ 1073741824 → r ≤ 1073741824)
  | [], n, r, h => by simp [sumG] at h; subst h; simp [totB]
  | b :: l, n, r, h => by
    unfold sumG at h
    split at h
    · cases h
    · next h1 =>
      obtain ⟨h2, h3⟩ := sumG_some h
      simp only [totB]
      exact ⟨by omega, fun _ => h3 (by omega)⟩
theorem sumG_of : ∀ {M : List Blk} {n : Int}, posC M → n + totB M ≤ 1073741824 → sumG n M = some (n + totB M)
  | [], n, _, _ => by simp [sumG, totB]
  | b :: l, n, h, h2 => by
    have h3 : posC l := fun x hx => h x (List.mem_cons_of_mem _ hx)
    have h4 := totB_nonneg h3
    simp only [totB] at h2 ⊢
    unfold sumG
    rw [if_neg (by omega), sumG_of h3 (by omega)]
    congr 1
    omega
theorem sumG_take : ∀ {M : List Blk} {n r : Int} (k : Nat), posC M → sumG n M = some r → n + totB (M.take k) ≤ r
  | M, n, r, k, h, hs => by
    have h1 := (sumG_some hs).1
    have h2 := totB_append (M.take k) (M.drop k)
    rw [List.take_append_drop] at h2
    have h3 := totB_nonneg (L := M.drop k) fun x hx => h x (List.mem_of_mem_drop hx)
    omega
theorem tabL_tot : ∀ (M : List Blk) (L : List Blk), totB (M.foldl addB L) = totB L + totB M
  | [], L => by simp [totB]
  | b :: r, L => by
    rw [List.foldl_cons, tabL_tot r, totB_add]
    simp only [totB]
    omega
theorem totB_perm {L K : List Blk} (h : L.Perm K) : totB L = totB K := by
  induction h with
  | nil => rfl
  | cons x _ ih => simp only [totB]; rw [ih]
  | swap x y l => simp only [totB]; omega
  | trans _ _ h1 h2 => exact h1.trans h2
end Go.Proofs.YteigplfldhdakaaGreatDoor
