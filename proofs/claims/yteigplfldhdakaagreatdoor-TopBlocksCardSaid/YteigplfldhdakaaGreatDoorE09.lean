/- block: Less, Check, made. -/
import Derived.Test.YteigplfldhdakaaGreatDoorE08
set_option linter.unusedVariables false
set_option linter.unusedSimpArgs false
namespace Go.Proofs.YteigplfldhdakaaGreatDoor
open Go.RowKit Go.Shelf
attribute [local go_sem ↓] Go.wp_at_zero Go.wp_at_succ
set_option maxRecDepth 100000 in
set_option maxHeartbeats 2000000 in
theorem less_c (a b : Blk) (w : World) : Calls Tryz.prog 100 #[blkV a, blkV b] w fun e w' => e = .returned (.bool (decide (cmpB a b < 0))) ∧ Below w.heap.size w w' := by
  obtain ⟨af, at_, an⟩ := a
  obtain ⟨bf, bt, bn⟩ := b
  unfold blkV
  dsimp only
  obtain ⟨x, hx⟩ : ∃ x, cmpS af bf = x := ⟨_, rfl⟩
  obtain ⟨y, hy⟩ : ∃ y, cmpS at_ bt = y := ⟨_, rfl⟩
  have c1 : ∀ W, Calls Tryz.prog 95 #[.string af, .string bf] W fun e w' => e = .returned (.int .i64 x) ∧ w' = W := fun W => by rw [← hx]; exact cmps_c af bf W
  have c2 : ∀ W, Calls Tryz.prog 95 #[.string at_, .string bt] W fun e w' => e = .returned (.int .i64 y) ∧ w' = W := fun W => by rw [← hy]; exact cmps_c at_ bt W
  have HE : Hid (cmpB (af, at_, an) (bf, bt, bn) = orF [x, y]) := hid (by rw [cmpB, hx, hy])
  have C1 := hid c1
  have C2 := hid c2
  clear c1 c2 hx hy
  go_enter Tryz.func100, Tryz.ntmps100
  go_wp2
  obtain ⟨W, hW⟩ : ∃ W, (w.alloc (Obj.cells #[Value.string af, Value.string at_, Value.int IntKind.i64 an] 38)).alloc (Obj.cells #[Value.string bf, Value.string bt, Value.int IntKind.i64 bn] 38) = W := ⟨_, rfl⟩
  have hbW : Below w.heap.size w W := by rw [← hW]; exact balloc (balloc (Below.refl _ w) _) _
  have g0 := al2_0 w (Obj.cells #[Value.string af, Value.string at_, Value.int IntKind.i64 an] 38) (Obj.cells #[Value.string bf, Value.string bt, Value.int IntKind.i64 bn] 38)
  have g1 := al2_1 w (Obj.cells #[Value.string af, Value.string at_, Value.int IntKind.i64 an] 38) (Obj.cells #[Value.string bf, Value.string bt, Value.int IntKind.i64 bn] 38)
  rw [hW] at g0 g1 ⊢
  have a0 : W.cell? ⟨w.heap.size, 0, none⟩ = some (.string af) := by rw [cell_of_row W _ 0 _ _ _ g0]; rfl
  have a1 : W.cell? ⟨w.heap.size, 1, none⟩ = some (.string at_) := by rw [cell_of_row W _ 1 _ _ _ g0]; rfl
  have b0 : W.cell? ⟨w.heap.size + 1, 0, none⟩ = some (.string bf) := by rw [cell_of_row W _ 0 _ _ _ g1]; rfl
  have b1 : W.cell? ⟨w.heap.size + 1, 1, none⟩ = some (.string bt) := by rw [cell_of_row W _ 1 _ _ _ g1]; rfl
  have HB := hid hbW
  clear hbW g0 g1 hW
  refine wp_region_still_tail 10 (by kernel_rfl) (by kernel_rfl) ?_
  simp only [List.take_succ_cons, List.take_zero, List.drop_succ_cons, List.drop_zero]
  repeat still_step
  still_call (C1.out _)
  repeat still_step
  still_call (C2.out _)
  repeat still_step
  refine wpStill_nil ?_
  change wpList _ _ _ _ _ W.drew
  have HL := hid (SL.lit W.drew 3 1 2 #[.int .i64 x, .int .i64 y] rfl (by simp [maxLen]))
  have hor : Calls Tryz.prog 94 #[.slice (some ⟨W.heap.size, 0, none⟩) 2 2] (W.drew.alloc (.cells #[.int .i64 x, .int .i64 y] 3)) fun e w' => e = .returned (.int .i64 (orF [x, y])) ∧ w' = W.drew.alloc (.cells #[.int .i64 x, .int .i64 y] 3) := or_c (xs := [x, y]) HL.out
  have HOR := hid hor
  obtain ⟨z, hz⟩ : ∃ z, orF [x, y] = z := ⟨_, rfl⟩
  rw [hz] at HOR HE
  clear hor hz
  go_wp2_with (go_at_call 94; refine HOR.out.mono ?_; rintro e w1 ⟨rfl, rfl⟩)
  all_goals
    go_ret
    exact ⟨by rw [HE.out]; simp, balloc HB.out.drew _⟩
/- block: Check. -/
theorem rcnt_c (s : ByteArray) (hs : s.size ≤ 1048576) (w : World) : Calls Tryz.prog 23 #[.string s] w fun e w' => e = .returned (.int .i64 (Lib.runeCount s : Nat)) ∧ Below w.heap.size w w' :=
  (Tryz.utf8_RuneCountInString s w (by omega)).mono fun e w' ⟨h1, pos, h2⟩ => ⟨h1, by rw [h2]; exact balloc (Below.refl _ w) _⟩
theorem valid_c (s : ByteArray) (hs : s.size ≤ 1048576) (w : World) (hT : Tab w) : Calls Tryz.prog 74 #[.string s] w fun e w' => e = .returned (.bool (Lib.validD (bys s))) ∧ Below w.heap.size w w' :=
  Any.utf8_ValidString Tryz.lays196 s w (by omega) hT
theorem bytesEq {f t : ByteArray} (h : f.toList = t.toList) : f = t := by
  rw [ByteArray.toList_eq, ByteArray.toList_eq] at h
  exact ByteArray.ext (Array.toList_inj.1 h)
/-- may a block be? -/
def chkB (b : Blk) : Int :=
  if Lib.validD (bys b.1) = false ∨ Lib.validD (bys b.2.1) = false then 3
  else if 3 < max (Lib.runeCount b.1) (Lib.runeCount b.2.1) then 5
  else if b.1 = b.2.1 then 7
  else if b.2.2 < 1 ∨ 1073741824 < b.2.2 then 2 else 0
def smallB (b : Blk) : Prop := b.1.size ≤ 1048576 ∧ b.2.1.size ≤ 1048576
set_option maxRecDepth 100000 in
set_option maxHeartbeats 2000000 in
theorem checkB_c (b : Blk) (hb : smallB b) (w : World) (hT : Tab w) : Calls Tryz.prog 97 #[blkV b] w fun e w' => e = .returned (.int .i64 (chkB b)) ∧ Below w.heap.size w w' := by
  obtain ⟨f, t, n⟩ := b
  obtain ⟨hf, ht⟩ := hb
  dsimp only at hf ht
  unfold blkV
  dsimp only
  have hT1 := hT.alloc (.cells #[.string f, .string t, .int .i64 n] 38)
  have hn0 := heap_alloc_new w (.cells #[.string f, .string t, .int .i64 n] 38)
  have hcl : ∀ W, Below (w.heap.size + 1) (w.alloc (.cells #[.string f, .string t, .int .i64 n] 38)) W → W.cell? ⟨w.heap.size, 0, none⟩ = some (.string f) ∧ W.cell? ⟨w.heap.size, 1, none⟩ = some (.string t) ∧ W.cell? ⟨w.heap.size, 2, none⟩ = some (.int .i64 n) := fun W h => by
    have h1 := (h.block w.heap.size (by omega)).trans hn0
    exact ⟨by rw [cell_of_row W _ 0 _ _ _ h1]; rfl, by rw [cell_of_row W _ 1 _ _ _ h1]; rfl, by rw [cell_of_row W _ 2 _ _ _ h1]; rfl⟩
  have HCL := hid hcl
  have HT := hid hT1
  have hszA : (w.alloc (.cells #[.string f, .string t, .int .i64 n] 38)).heap.size = w.heap.size + 1 := World.size_alloc _ _
  obtain ⟨W0, hW0⟩ : ∃ W0, w.alloc (.cells #[.string f, .string t, .int .i64 n] 38) = W0 := ⟨_, rfl⟩
  rw [hW0] at HCL HT hszA
  have HB0 : Hid (Below w.heap.size w W0) := hid (by rw [← hW0]; exact balloc (Below.refl _ w) _)
  rw [← hszA] at HCL
  obtain ⟨a0, a1, a2⟩ := HCL.out W0 (Below.refl _ _)
  clear hn0 hcl hT1
  have vf := fun W h => valid_c f hf W h
  have vt := fun W h => valid_c t ht W h
  have VF := hid vf
  have VT := hid vt
  obtain ⟨bf, hbf⟩ : ∃ q, Lib.validD (bys f) = q := ⟨_, rfl⟩
  obtain ⟨bt, hbt⟩ : ∃ q, Lib.validD (bys t) = q := ⟨_, rfl⟩
  rw [hbf] at VF
  rw [hbt] at VT
  clear vf vt
  cases bf
  case false =>
    have HE : Hid (chkB (f, t, n) = 3) := hid (by simp [chkB, hbf])
    clear hbf hbt
    go_enter Tryz.func97, Tryz.ntmps97
    go_wp2_with (go_at_call 74; refine (VF.out _ HT.out).mono ?_; rintro e w1 ⟨rfl, hb1⟩; have HB1 := hid (bthen HB0.out hb1); clear hb1)
    go_ret
    exact ⟨by rw [HE.out]; rfl, HB1.out⟩
  case true =>
    cases bt
    case false =>
      have HE : Hid (chkB (f, t, n) = 3) := hid (by simp [chkB, hbt])
      clear hbf hbt
      go_enter Tryz.func97, Tryz.ntmps97
      go_wp2_with (first
        | (have _h := HB1; go_at_call 74; refine (VT.out _ HT1.out).mono ?_; rintro e w2 ⟨rfl, hb2⟩; have HB2 := hid (bthen HB1.out hb2); clear hb2)
        | (go_at_call 74; refine (VF.out _ HT.out).mono ?_; rintro e w1 ⟨rfl, hb1⟩; have HB1 := hid (bthen HB0.out hb1); have HT1 := hid (HT.out.bel hb1); obtain ⟨d0, d1, d2⟩ := HCL.out w1 hb1; clear hb1))
      go_ret
      exact ⟨by rw [HE.out]; rfl, HB2.out⟩
    case true =>
      have rf := fun W => rcnt_c f hf W
      have rt := fun W => rcnt_c t ht W
      have RF := hid rf
      have RT := hid rt
      obtain ⟨nf, hnf⟩ : ∃ q, Lib.runeCount f = q := ⟨_, rfl⟩
      obtain ⟨nt, hnt⟩ : ∃ q, Lib.runeCount t = q := ⟨_, rfl⟩
      have lf : (nf : Int) ≤ 1048576 := by have := Lib.runeCount_le f; omega
      have lt' : (nt : Int) ≤ 1048576 := by have := Lib.runeCount_le t; omega
      rw [hnf] at RF
      rw [hnt] at RT
      have HE : Hid (chkB (f, t, n) = if (3 : Int) < max (nf : Int) (nt : Int) then 5 else if f = t then 7 else if n < 1 ∨ 1073741824 < n then 2 else 0) := hid (by
        unfold chkB
        dsimp only
        rw [hnf, hnt, hbf, hbt]
        have : (3 : Int) < max (nf : Int) (nt : Int) ↔ 3 < max nf nt := by omega
        simp [this])
      clear rf rt hbf hbt hnf hnt
      go_enter Tryz.func97, Tryz.ntmps97
      go_wp2_with (first
        | (have _h := HB1; clear VF; go_at_call 74; refine (VT.out _ HT1.out).mono ?_; rintro e w2 ⟨rfl, hb2⟩; have HB2 := hid (bthen HB1.out hb2); have HC2 := hid (bthen HC1.out hb2); obtain ⟨e0, e1, e2⟩ := HCL.out w2 HC2.out; clear hb2)
        | (go_at_call 74; refine (VF.out _ HT.out).mono ?_; rintro e w1 ⟨rfl, hb1⟩; have HB1 := hid (bthen HB0.out hb1); have HT1 := hid (HT.out.bel hb1); have HC1 := hid hb1; obtain ⟨d0, d1, d2⟩ := HCL.out w1 HC1.out; clear hb1))
      go_region_held3 (fun w' => w'.cell? ⟨w.heap.size, 0, none⟩ = some (.string f) ∧ w'.cell? ⟨w.heap.size, 1, none⟩ = some (.string t))
        (first | exact ⟨e0, e1⟩ | exact ⟨x0, x1⟩ | exact ⟨y0, y1⟩ | go_keep)
        (first
          | (have _h := HBX; go_at_call 23; refine (RT.out _).mono ?_; rintro e w4 ⟨rfl, hb4⟩; have HBY := hid (bthen HBX.out hb4); have HCY := hid (bthen HCX.out hb4); obtain ⟨y0, y1, y2⟩ := HCL.out w4 HCY.out; clear hb4)
          | (go_at_call 23; refine (RF.out _).mono ?_; rintro e w3 ⟨rfl, hb3⟩; have HBX := hid (bthen HB2.out.drew hb3); have HCX := hid (bthen HC2.out.drew hb3); obtain ⟨x0, x1, x2⟩ := HCL.out w3 HCX.out; clear hb3))
      clear d0 d1 d2 e0 e1 e2 x0 x1 x2
      obtain ⟨mx, hmx⟩ : ∃ m : Int, max (nf : Int) (nt : Int) = m := ⟨_, rfl⟩
      have hmx0 : -1 ≤ mx ∧ mx ≤ 1048576 := by omega
      rw [hmx] at HE ⊢
      clear hmx
      by_cases h3 : (3 : Int) < mx
      · have HE' := hid (HE.out.trans (if_pos h3))
        clear HE
        go_wp2
        go_ret
        exact ⟨by rw [HE'.out]; rfl, HBY.out⟩
      · have HE2 := hid (HE.out.trans (if_neg h3))
        clear HE
        by_cases hft : f = t
        · have HE' := hid (HE2.out.trans (if_pos hft))
          clear HE2
          subst hft
          go_wp2
          go_ret
          exact ⟨by rw [HE'.out]; rfl, HBY.out⟩
        · have HE3 := hid (HE2.out.trans (if_neg hft))
          have hft2 : (f.toList == t.toList) = false := by
            cases hq : (f.toList == t.toList) with
            | false => rfl
            | true => exact absurd (bytesEq (eq_of_beq hq)) hft
          clear HE2
          by_cases hn1 : n < 1
          · have HE' := hid (HE3.out.trans (if_pos (.inl hn1)))
            clear HE3
            go_wp2
            go_ret
            exact ⟨by rw [HE'.out]; rfl, HBY.out⟩
          · by_cases hn2 : 1073741824 < n
            · have HE' := hid (HE3.out.trans (if_pos (.inr hn2)))
              clear HE3
              go_wp2
              go_ret
              exact ⟨by rw [HE'.out]; rfl, HBY.out⟩
            · have HE' := hid (HE3.out.trans (if_neg (by omega)))
              clear HE3
              go_wp2
              go_ret
              exact ⟨by rw [HE'.out]; rfl, HBY.out⟩
/- block: made. -/
def longS (a b : ByteArray) : Bool := decide ((3 : Int) < max (Lib.runeCount a : Nat) (Lib.runeCount b : Nat))
theorem readA_size (L : List Stp) : (readA L).size ≤ 4 * L.length := by
  unfold readA
  split
  · rw [strOfNums_size]
    have := rdA_len L
    exact this
  · exact Nat.zero_le _
theorem readB_size (L : List Stp) : (readB L).size ≤ 4 * L.length := by
  unfold readB
  split
  · rw [strOfNums_size]
    have := rdB_len L
    exact this
  · exact Nat.zero_le _
theorem StS.below {w W : World} {v : Value} {L : List Stp} (h : StS w v L) (hb : Below w.heap.size w W) : StS W v L := SL.keep h fun k hk => hb.block k (SL.lt h k hk)
theorem results_ct {P : Program} {fn : Func} {p u : Tmp} {t : TypeId} (h : fn.results = #[.cell p t, .tmp u]) (tmps : Array Value) (W : World) (g : Nat) (v : Value)
    (hp : tmps.getD p undef = .pointer (some ⟨g, 0, none⟩)) (hl : (loadVar t ⟨g, 0, none⟩).run P W = .ok v W) : (results fn tmps).run P W = .ok (.tuple #[v, tmps.getD u undef]) W := by
  have h1 : tmps[p]?.getD undef = .pointer (some ⟨g, 0, none⟩) := by simpa using hp
  simp [results, h, h1, asAddr, hl]
theorem info38 : (Tryz.prog.info? 38).map (·.size) = some 3 := by kernel_rfl
theorem load38 {W : World} {g : Nat} {x y z : Value} (hg : W.heap[g]? = some (.cells #[x, y, z] 38 (0, 0))) : (loadVar 38 ⟨g, 0, none⟩).run Tryz.prog W = .ok (.agg #[x, y, z]) W :=
  run_loadVar_row W g 38 38 _ (0, 0) _ hg Tryz.underlying38 rfl info38
theorem load24 {W : World} {g : Nat} {v : Value} (hg : W.heap[g]? = some (.cells #[v] 24 (0, 0))) : (loadVar 24 ⟨g, 0, none⟩).run Tryz.prog W = .ok v W := by
  have hc := (box_cell hg).1
  have hu := Tryz.underlying24
  go_simp
theorem row3 {W : World} {b : Nat} {x y z : Value} {t : TypeId} (h : W.heap[b]? = some (.cells #[x, y, z] t (0, 0))) :
    W.cell? ⟨b, 0, none⟩ = some x ∧ W.cell? ⟨b, 1, none⟩ = some y ∧ W.cell? ⟨b, 2, none⟩ = some z ∧ W.frozen? ⟨b, 0, none⟩ = false ∧ W.frozen? ⟨b, 1, none⟩ = false ∧ W.frozen? ⟨b, 2, none⟩ = false :=
  ⟨by rw [cell_of_row W _ 0 _ _ _ h]; rfl, by rw [cell_of_row W _ 1 _ _ _ h]; rfl, by rw [cell_of_row W _ 2 _ _ _ h]; rfl, frozen_of_row W b 0 _ _ h, frozen_of_row W b 1 _ _ h, frozen_of_row W b 2 _ _ h⟩
theorem row3_set {W : World} {b : Nat} {x y z : Value} {t : TypeId} (h : W.heap[b]? = some (.cells #[x, y, z] t (0, 0))) (x' y' z' : Value) :
    (((W.setCell ⟨b, 0, none⟩ x').setCell ⟨b, 1, none⟩ y').setCell ⟨b, 2, none⟩ z').heap[b]? = some (.cells #[x', y', z'] t (0, 0)) := by
  have h1 := heap_setCell_same W b 0 _ t x' h
  have h2 := heap_setCell_same _ b 1 _ t y' h1
  have h3 := heap_setCell_same _ b 2 _ t z' h2
  exact h3
set_option maxRecDepth 100000 in
set_option maxHeartbeats 2000000 in
theorem made_c {w : World} {v : Value} {L : List Stp} (h : StS w v L) (hL : L.length ≤ 262144) (hok : okStps L) : Calls Tryz.prog 91 #[v] w fun e w' => e = .returned (.tuple #[blkV (readA L, readB L, 1), .bool (longS (readA L) (readB L))]) ∧ Below w.heap.size w w' := by
  have hread : ∀ W, Below w.heap.size w W → Calls Tryz.prog 137 #[v] W fun e w' => e = .returned (.tuple #[.string (readA L), .string (readB L), .int .i64 (chkS L)]) ∧ Below W.heap.size W w' := fun W hb => read_c (StS.below h hb) (by omega) hok
  have hsa := readA_size L
  have hsb := readB_size L
  obtain ⟨a, ha⟩ : ∃ a, readA L = a := ⟨_, rfl⟩
  obtain ⟨b, hb⟩ : ∃ a, readB L = a := ⟨_, rfl⟩
  have rf := fun W => rcnt_c a (by rw [← ha]; omega) W
  have rt := fun W => rcnt_c b (by rw [← hb]; omega) W
  rw [ha, hb] at hread
  rw [ha, hb]
  have HR := hid hread
  have RF := hid rf
  have RT := hid rt
  obtain ⟨nf, hnf⟩ : ∃ q, Lib.runeCount a = q := ⟨_, rfl⟩
  obtain ⟨nt, hnt⟩ : ∃ q, Lib.runeCount b = q := ⟨_, rfl⟩
  have HE : Hid (longS a b = decide ((3 : Int) < max (nf : Int) (nt : Int))) := hid (by rw [longS, hnf, hnt]; exact decide_eq_decide.2 (by omega))
  rw [hnf] at RF
  rw [hnt] at RT
  clear hread rf rt hnf hnt ha hb hsa hsb
  go_enter Tryz.func91, Tryz.ntmps91
  go_wp2_with (first
    | (go_at_call 137; refine (HR.out _ (balloc (Below.refl _ w) _)).mono ?_; rintro e w1 ⟨rfl, hb1⟩; have HB1 := hid (bthen (balloc (Below.refl _ w) _) hb1); have HBX := hid hb1; clear hb1)
    | (have _h := HB2; go_at_call 23; refine (RT.out _).mono ?_; rintro e w3 ⟨rfl, hb3⟩; have HB3 := hid (bthen HB2.out hb3); have HH := hid (((bthen HBY.out hb3).block w.heap.size (by rw [World.size_alloc]; omega)).trans (heap_alloc_new w _)); obtain ⟨c0, c1, c2, f0, f1, f2⟩ := row3 HH.out; clear hb3)
    | (go_at_call 23; refine (RF.out _).mono ?_; rintro e w2 ⟨rfl, hb2⟩; have HB2 := hid (bthen HB1.out hb2); have HBY := hid (bthen HBX.out hb2); clear hb2))
  refine bodyPost_ret (results_ct (fn := Tryz.f91) rfl _ _ w.heap.size _ rfl (load38 (by exact row3_set HH.out _ _ _))) rfl ?_
  exact ⟨by rw [HE.out]; rfl, ((HB3.out.setCell (by simp) _).setCell (by simp) _).setCell (by simp) _⟩
end Go.Proofs.YteigplfldhdakaaGreatDoor
/- block: rows, plain; the iterator. -/
namespace Go.Proofs.YteigplfldhdakaaGreatDoor
open Go.RowKit Go.Shelf
attribute [local go_sem] Oper.semAt_some
/-- the runs that are no match: (from, to) -/
def rowsI : Nat → Nat → List Stp → List (Nat × Nat)
  | p, o, [] => if o = 0 then [] else [(p - o, p)]
  | p, o, s :: r => if s.1 = 0 then (if o = 0 then rowsI (p + 1) 0 r else (p - o, p) :: rowsI (p + 1) 0 r) else rowsI (p + 1) (o + 1) r
def rowsL (L : List Stp) : List (Nat × Nat) := rowsI 0 0 L
/-- each run lies within -/
theorem rowsI_ok : ∀ (r : List Stp) (p o : Nat), o ≤ p → ∀ x ∈ rowsI p o r, x.1 < x.2 ∧ x.2 ≤ p + r.length
  | [], p, o, ho, x, hx => by
    unfold rowsI at hx
    split at hx
    · simp at hx
    · simp at hx; subst hx; simp; omega
  | s :: r, p, o, ho, x, hx => by
    unfold rowsI at hx
    split at hx
    · split at hx
      · have := rowsI_ok r (p + 1) 0 (by omega) x hx; simp; omega
      · rcases List.mem_cons.1 hx with rfl | hx
        · simp; omega
        · have := rowsI_ok r (p + 1) 0 (by omega) x hx; simp; omega
    · have := rowsI_ok r (p + 1) (o + 1) (by omega) x hx; simp; omega
theorem rowsI_len : ∀ (r : List Stp) (p o : Nat), (rowsI p o r).length ≤ r.length + 1
  | [], p, o => by unfold rowsI; split <;> simp
  | s :: r, p, o => by
    unfold rowsI
    have h1 := rowsI_len r (p + 1) 0
    have h2 := rowsI_len r (p + 1) (o + 1)
    split
    · split
      · simp; omega
      · simp; omega
    · simp; omega
theorem rowsI_match {L : List Stp} {i : Nat} (hi : i < L.length) (h : L[i].1 = 0) : rowsI i 0 (L.drop i) = rowsI (i + 1) 0 (L.drop (i + 1)) := by
  rw [List.drop_eq_getElem_cons hi, rowsI, if_pos h, if_pos rfl]
theorem rowsI_open {L : List Stp} {i o : Nat} (hi : i < L.length) (h : L[i].1 ≠ 0) : rowsI i o (L.drop i) = rowsI (i + 1) (o + 1) (L.drop (i + 1)) := by
  rw [List.drop_eq_getElem_cons hi, rowsI, if_neg h]
theorem rowsI_end {L : List Stp} {i : Nat} (hi : L.length ≤ i) : rowsI i 0 (L.drop i) = [] := by
  rw [List.drop_of_length_le hi, rowsI, if_pos rfl]
theorem rowsI_close {L : List Stp} {f j : Nat} (hf : f < j) (hj : L.length ≤ j ∨ ∃ h : j < L.length, L[j].1 = 0) : rowsI j (j - f) (L.drop j) = (f, j) :: rowsI (j + 1) 0 (L.drop (j + 1)) := by
  rcases hj with h | ⟨h, h0⟩
  · rw [List.drop_of_length_le h, rowsI_end (by omega), rowsI, if_neg (by omega), show j - (j - f) = f by omega]
  · rw [List.drop_eq_getElem_cons h, rowsI, if_pos h0, if_neg (by omega), show j - (j - f) = f by omega]
/-- the part [f, t) of a slice of steps -/
def subV (A : Option Addr) (c f t : Nat) : Value := .slice (if c = f then A else A.map (·.add (f * 3))) (t - f) (c - f)
theorem stpsC_take : ∀ (L : List Stp) (k : Nat), (stpsC L).take (k * 3) = stpsC (L.take k)
  | L, 0 => by simp [stpsC]
  | [], k + 1 => by simp [stpsC]
  | s :: r, k + 1 => by
    rw [show stpsC (s :: r) = stpC s ++ stpsC r from rfl, List.take_succ_cons, show stpsC (s :: r.take k) = stpC s ++ stpsC (r.take k) from rfl, ← stpsC_take r k, show (k + 1) * 3 = (stpC s).length + k * 3 by simp [stpC]; omega, List.take_length_add_append]
theorem stpsC_drop : ∀ (L : List Stp) (k : Nat), (stpsC L).drop (k * 3) = stpsC (L.drop k)
  | L, 0 => by simp
  | [], k + 1 => by simp [stpsC]
  | s :: r, k + 1 => by
    rw [show stpsC (s :: r) = stpC s ++ stpsC r from rfl, List.drop_succ_cons, ← stpsC_drop r k, show (k + 1) * 3 = (stpC s).length + k * 3 by simp [stpC]; omega, List.drop_length_add_append]
theorem StS.sub {w : World} {A : Option Addr} {c : Nat} {L : List Stp} (h : StS w (.slice A L.length c) L) {f t : Nat} (hft : f ≤ t) (ht : t ≤ L.length) : StS w (subV A c f t) ((L.take t).drop f) := by
  have h1 : SL w 189 3 (.slice A t c) t (stpsC (L.take t)) := by rw [← stpsC_take]; exact SL.take_ h ht
  have h2 := SL.drop_ h1 hft
  rw [stpsC_drop] at h2
  have e : ((L.take t).drop f).length = t - f := by simp; omega
  unfold StS
  rw [e]
  exact h2
theorem subV_own {A : Option Addr} {n c f t k : Nat} (h : (subV A c f t).ownBlock = some k) : (Value.slice A n c).ownBlock = some k := by
  unfold subV at h
  cases A with
  | none => simp [Value.ownBlock] at h
  | some a =>
    have hb : ∀ m, (a.add m).block = a.block := fun m => by unfold Addr.add; split <;> rfl
    by_cases hc : c = f
    · rw [if_pos hc] at h
      exact h
    · rw [if_neg hc] at h
      simp only [Value.ownBlock, Option.map_some] at h ⊢
      rw [hb] at h
      exact h
theorem add_none (g off m : Nat) : (⟨g, off, none⟩ : Addr).add m = ⟨g, off + m, none⟩ := by
  unfold Addr.add
  split
  · next h => rw [h]; rfl
  · rfl
def rowArgs (A : Option Addr) (c : Nat) (L : List Stp) (k : Nat) : Array Value := #[subV A c ((rowsL L).getD k (0, 0)).1 ((rowsL L).getD k (0, 0)).2]
set_option maxRecDepth 100000 in
set_option maxHeartbeats 2000000 in
theorem rows1_in (n : Nat) (hn : 1 ≤ n) (lp Bn : Nat) (A : Option Addr) (c : Nat) (L : List Stp) (hL : L.length ≤ 1000000) (J Jx : Nat → World → Prop)
    (w0 W : World) (hW0 : Below w0.heap.size w0 W) (hY : ∀ k W1, k < (rowsL L).length → J k W1 → YieldAt Fence.wide (n - 1) Tryz.prog lp (rowArgs A c L k) W1 fun e W' =>
      (e = .returned (.bool true) ∧ J (k + 1) W' ∧ Keep (fun j => j = Bn ∨ (Value.slice A L.length c).ownBlock = some j) W1 W') ∨ (e = .returned (.bool false) ∧ Jx (k + 1) W'))
    (hBn : w0.heap[Bn]? = some (.cells #[.slice A L.length c] 129 (0, 0))) (hS : StS w0 (.slice A L.length c) L) (h0 : J 0 W) :
    CallsIn Fence.wide n Tryz.prog 136 #[.func (.yield lp) #[] #[], .pointer (some ⟨Bn, 0, none⟩)] W fun e W' => (∃ v, e = .returned v) ∧ (J (rowsL L).length W' ∨ ∃ k, k < (rowsL L).length ∧ Jx (k + 1) W') := by
  obtain ⟨R, hR⟩ : ∃ R, rowsL L = R := ⟨_, rfl⟩
  have hB := hW0.block Bn (blk_lt hBn)
  have hS2 := hS.below hW0
  rw [hBn] at hB
  have HS := hid hS2
  have HB := hid hB
  have hn0 : L.length ≤ c := by obtain ⟨A', c', h1, h2⟩ := SL.form hS; cases h1; exact h2
  have HY := hid hY
  have HR : Hid (rowsL L = R) := hid hR
  rw [hR]
  clear hBn hS hW0 hB hS2 hY hR
  obtain ⟨b0, -⟩ := box_cell HB.out
  refine callsIn_of_wp Tryz.func136 rfl trivial ?_ rfl
  simp only [Tryz.ntmps136, List.size_toArray, List.length_cons, List.length_nil, Nat.reduceAdd, Nat.reduceSub, Array.replicate_succ, Array.replicate_zero, List.push_toArray, List.append_toArray, List.nil_append, List.cons_append]
  gi_wp2
  refine wpIn_scope_straight ?_
  gi_wp2
  refine wpIn_label ?_
  gi_wp2
  gi_loopw [3] (fun iv wr => ∃ (i t : Nat), i ≤ L.length + 1 ∧ iv = .int .i64 (i : Int) ∧ t ≤ R.length ∧ Hid (R.drop t = rowsI i 0 (L.drop i)) ∧ J t wr ∧ Hid (wr.heap[Bn]? = some (.cells #[.slice A L.length c] 129 (0, 0))) ∧ Hid (StS wr (.slice A L.length c) L)) (fun iv _ => L.length + 1 - (intOf iv).toNat)
  case atStart => exact ⟨0, 0, Nat.zero_le _, rfl, Nat.zero_le _, hid (by rw [← HR.out]; rfl), h0, HB, HS⟩
  case round =>
    obtain ⟨i, t, hi, rfl, ht, HD, hJt, HBr, HSr⟩ := hrel
    clear HB HS b0 h0
    obtain ⟨b0, -⟩ := box_cell HBr.out
    by_cases hil : i < L.length
    · have hil2 : (i : Int) < (L.length : Int) := by omega
      obtain ⟨g, off, rfl, hgl, k0, k1, k2⟩ := SL.at3 (e := 189) HSr.out hil
      by_cases hk0 : L[i].1 = 0
      · rw [hk0] at k0
        have HD2 : Hid (R.drop t = rowsI (i + 1) 0 (L.drop (i + 1))) := hid (by rw [← rowsI_match hil hk0]; exact HD.out)
        gi_wp2
        exact ⟨⟨i + 1, t, by omega, by simp, ht, HD2, hJt, HBr, HSr⟩, by simp [intOf]; omega⟩
      · have hk0b : (L[i].1 == 0) = false := by rw [beq_eq_false_iff_ne]; exact hk0
        gi_wp2
        gi_loopw [3] (fun jv wq => ∃ j : Nat, i ≤ j ∧ j ≤ L.length ∧ jv = .int .i64 (j : Int) ∧ wq = wr ∧ Hid (rowsI j (j - i) (L.drop j) = rowsI i 0 (L.drop i))) (fun jv _ => L.length - (intOf jv).toNat)
        case atStart => exact ⟨i, Nat.le_refl _, by omega, rfl, rfl, hid (by rw [Nat.sub_self])⟩
        case round =>
          obtain ⟨j, hij, hj, rfl, rfl, HJ⟩ := hrel
          clear k0 k1 k2
          have hend : (L.length ≤ j ∨ ∃ h : j < L.length, L[j].1 = 0) → i < j → Hid (R.drop t = (i, j) :: rowsI (j + 1) 0 (L.drop (j + 1))) := fun h h2 => hid (by
            rw [HD.out, ← HJ.out, rowsI_close h2 h])
          have hyield : Hid (R.drop t = (i, j) :: rowsI (j + 1) 0 (L.drop (j + 1))) → i < j → t < R.length ∧ R.getD t (0, 0) = (i, j) ∧ R.drop (t + 1) = rowsI (j + 1) 0 (L.drop (j + 1)) := fun h h2 => by
            have h1 := h.out
            have htl : t < R.length := by
              rcases Nat.lt_or_ge t R.length with h3 | h3
              · exact h3
              · rw [List.drop_of_length_le h3] at h1; cases h1
            rw [List.drop_eq_getElem_cons htl] at h1
            exact ⟨htl, by simp [List.getD_eq_getElem?_getD, htl, (List.cons.inj h1).1], (List.cons.inj h1).2⟩
          by_cases hjl : j < L.length
          · have hjl2 : (j : Int) < (L.length : Int) := by omega
            obtain ⟨g', off', hA', hgl', k0, k1, k2⟩ := SL.at3 (e := 189) HSr.out hjl
            cases hA'
            by_cases hj0 : L[j].1 = 0
            · rw [hj0] at k0
              have hijl : i < j := by
                rcases Nat.lt_or_ge i j with h | h
                · exact h
                · obtain rfl : i = j := by omega
                  exact absurd hj0 hk0
              obtain ⟨htl, hRt, hDn⟩ := hyield (hend (.inr ⟨hjl, hj0⟩) hijl) hijl
              have HDN := hid hDn
              have hy0 := HY.out t
              rw [rowArgs, HR.out, hRt, subV] at hy0
              dsimp only at hy0
              rw [if_neg (by omega)] at hy0
              simp only [Option.map_some, add_none] at hy0
              clear hend hyield hDn hRt
              have HY0 := hid hy0
              clear hy0
              obtain ⟨fn, tmps, assign, body, hy, hR⟩ := HY0.out _ htl hJt
              gi_wp2
              refine hR.mono ?_
              rintro e W3 (⟨rfl, hJ3, hk3⟩ | ⟨rfl, hJx3⟩)
              · have HB3 : Hid (W3.heap[Bn]? = some (.cells #[.slice (some ⟨g, off, none⟩) L.length c] 129 (0, 0))) := hid ((hk3.block Bn (.inl rfl)).trans HBr.out)
                have HS3 : Hid (StS W3 (.slice (some ⟨g, off, none⟩) L.length c) L) := hid (SL.keep HSr.out fun k hk => hk3.block k (.inr hk))
                clear hy hR hk3
                gi_wp2
                exact ⟨⟨j + 1, t + 1, by omega, by simp, by omega, HDN, hJ3, HB3, HS3⟩, by simp [intOf]; omega⟩
              · clear hy hR
                gi_wp2
                simp only [Exit.noGoto]
                refine bodyPost_ret (results_none rfl _ _ _) rfl ?_
                exact ⟨⟨_, rfl⟩, .inr ⟨t, htl, hJx3⟩⟩
            · have hj0b : (L[j].1 != 0) = true := by rw [bne_iff_ne]; exact hj0
              have HJ2 : Hid (rowsI (j + 1) (j + 1 - i) (L.drop (j + 1)) = rowsI i 0 (L.drop i)) := hid (by
                rw [← HJ.out, rowsI_open hjl hj0, show j - i + 1 = j + 1 - i by omega])
              clear hend hyield
              gi_wp2
              exact ⟨⟨j + 1, by omega, by omega, by simp, by simp, HJ2⟩, by simp [intOf]; omega⟩
          · have hijl : i < j := by omega
            have hjl2 : ¬ (j : Int) < (L.length : Int) := by omega
            obtain ⟨htl, hRt, hDn⟩ := hyield (hend (.inl (by omega)) hijl) hijl
            have HDN := hid hDn
            have hy0 := HY.out t
            rw [rowArgs, HR.out, hRt, subV] at hy0
            dsimp only at hy0
            rw [if_neg (by omega)] at hy0
            simp only [Option.map_some, add_none] at hy0
            clear hend hyield hDn hRt
            have HY0 := hid hy0
            clear hy0
            obtain ⟨fn, tmps, assign, body, hy, hR⟩ := HY0.out _ htl hJt
            gi_wp2
            refine hR.mono ?_
            rintro e W3 (⟨rfl, hJ3, hk3⟩ | ⟨rfl, hJx3⟩)
            · have HB3 : Hid (W3.heap[Bn]? = some (.cells #[.slice (some ⟨g, off, none⟩) L.length c] 129 (0, 0))) := hid ((hk3.block Bn (.inl rfl)).trans HBr.out)
              have HS3 : Hid (StS W3 (.slice (some ⟨g, off, none⟩) L.length c) L) := hid (SL.keep HSr.out fun k hk => hk3.block k (.inr hk))
              clear hy hR hk3
              gi_wp2
              exact ⟨⟨j + 1, t + 1, by omega, by simp, by omega, HDN, hJ3, HB3, HS3⟩, by simp [intOf]; omega⟩
            · clear hy hR
              gi_wp2
              simp only [Exit.noGoto]
              refine bodyPost_ret (results_none rfl _ _ _) rfl ?_
              exact ⟨⟨_, rfl⟩, .inr ⟨t, htl, hJx3⟩⟩
    · have hRe : R.length ≤ t := by
        have h1 := HD.out
        rw [rowsI_end (by omega)] at h1
        exact List.drop_eq_nil_iff.1 h1
      obtain rfl : t = R.length := by omega
      have hil2 : ¬ (i : Int) < (L.length : Int) := by omega
      gi_wp2
      go_end0
      exact ⟨⟨_, rfl⟩, .inl hJt⟩
theorem rows_seq (n : Nat) (hn : 1 ≤ n) (Bn : Nat) (A : Option Addr) (c : Nat) (L : List Stp) (hL : L.length ≤ 1000000) (w : World) (hBn : w.heap[Bn]? = some (.cells #[.slice A L.length c] 129 (0, 0))) (hS : StS w (.slice A L.length c) L) :
    SeqL Fence.wide n Tryz.prog 136 #[.pointer (some ⟨Bn, 0, none⟩)] (rowArgs A c L) (rowsL L).length (fun _ j => j = Bn ∨ (Value.slice A L.length c).ownBlock = some j) (fun _ _ => False) w := fun l J Jx W hW hJ hJx hY h0 =>
  rows1_in n hn l Bn A c L hL J Jx w W hW hY hBn hS h0
set_option maxRecDepth 100000 in
set_option maxHeartbeats 1000000 in
theorem rows_c (A : Option Addr) (n c : Nat) (w : World) : Calls Tryz.prog 90 #[.slice A n c] w fun e w' => e = .returned (.func (.func 136) #[] #[.pointer (some ⟨w.heap.size, 0, none⟩)]) ∧ w' = w.alloc (.cells #[.slice A n c] 129) := by
  go_enter Tryz.func90, Tryz.ntmps90
  go_wp2
  go_ret
  exact ⟨rfl, rfl⟩
/- block: Of. -/
theorem info38' : (Tryz.prog.info? 38).map (fun i => (i.zero, i.size, i.bytes)) = some (some (.agg #[.string ⟨#[]⟩, .string ⟨#[]⟩, .int .i64 0]), 3, 40) := by kernel_rfl
/-- v is a slice of blocks: these -/
def BlS (w : World) (v : Value) (M : List Blk) : Prop := SL w 38 3 v M.length (M.flatMap blkC)
def rowS (L : List Stp) (x : Nat × Nat) : List Stp := (L.take x.2).drop x.1
/-- the block of a run, if it is one -/
def rowB (L : List Stp) (x : Nat × Nat) : Option Blk :=
  if longS (readA (rowS L x)) (readB (rowS L x)) = false ∧ readA (rowS L x) ≠ readB (rowS L x) then some (readA (rowS L x), readB (rowS L x), 1) else none
def ofM (L : List Stp) (k : Nat) : List Blk := ((rowsL L).take k).filterMap (rowB L)
def ofF (L : List Stp) : List Blk := (rowsL L).filterMap (rowB L)
theorem ofM_succ {L : List Stp} {k : Nat} (hk : k < (rowsL L).length) : ofM L (k + 1) = ofM L k ++ (rowB L ((rowsL L).getD k (0, 0))).toList := by
  unfold ofM
  rw [List.take_add_one, List.getElem?_eq_getElem hk, List.filterMap_append]
  simp [List.getD_eq_getElem?_getD, hk, List.filterMap_cons]
  cases rowB L (rowsL L)[k] <;> rfl
theorem ofM_len (L : List Stp) (k : Nat) : (ofM L k).length ≤ k := by
  unfold ofM
  exact Nat.le_trans (List.length_filterMap_le _ _) (by simp; omega)
def OfI (w : World) (lo : Nat) (L : List Stp) (k : Nat) (W : World) : Prop :=
  (∃ A c, W.heap[w.heap.size]? = some (.cells #[.slice A (ofM L k).length c] 24 (0, 0)) ∧ BlS W (.slice A (ofM L k).length c) (ofM L k) ∧ (∀ b, (Value.slice A (ofM L k).length c).ownBlock = some b → lo ≤ b)) ∧ Below w.heap.size w W
/-- what Of hands back -/
def OfP (L : List Stp) (w : World) (e : Ending) (w' : World) : Prop :=
  Below w.heap.size w w' ∧ ((chkS L ≠ 0 ∧ e = .returned (.tuple #[.slice none 0 0, .int .i64 (chkS L)])) ∨
    (chkS L = 0 ∧ ∃ A c, e = .returned (.tuple #[.slice A (ofF L).length c, .int .i64 0]) ∧ BlS w' (.slice A (ofF L).length c) (ofF L) ∧ ∀ b, (Value.slice A (ofF L).length c).ownBlock = some b → w.heap.size ≤ b))
set_option maxRecDepth 100000 in
set_option maxHeartbeats 2000000 in
theorem of_c {w : World} {v : Value} {L : List Stp} (h : StS w v L) (hL : L.length ≤ 262144) (hok : okStps L) : Calls Tryz.prog 51 #[v] w (OfP L w) := by
  obtain ⟨A, c, rfl, hc⟩ := SL.form h
  have hch : ∀ W, Below w.heap.size w W → Calls Tryz.prog 89 #[.slice A L.length c] W fun e w' => e = .returned (.int .i64 (chkS L)) ∧ Below W.heap.size W w' := fun W hb => check_c (h.below hb)
  have HC := hid hch
  have HS := hid h
  have HOK := hid hok
  clear hch
  by_cases hq : chkS L = 0
  · refine (callsIn_wide (n := 6)).1 ?_
    rw [hq] at HC
    have HQ := hid hq
    refine callsIn_of_wp_marks Tryz.func51 rfl trivial ?_ rfl
    simp only [Tryz.ntmps51, List.size_toArray, List.length_cons, List.length_nil, Nat.reduceAdd, Nat.reduceSub, Array.replicate_succ, Array.replicate_zero, List.push_toArray, List.append_toArray, List.nil_append, List.cons_append]
    gi_wp2_with (first
      | (refine ⟨trivial, ?_⟩; gi_at_call 89; refine (callsIn_wide.2 (HC.out _ (balloc (Below.refl _ w) _))).mono ?_; rintro e w1 ⟨rfl, hb1⟩; have HB1 := hid hb1; clear hb1)
      | (refine ⟨trivial, ?_⟩; gi_at_call 90; refine (callsIn_wide.2 (rows_c _ _ _ _)).mono ?_; rintro e w2 ⟨rfl, rfl⟩))
    obtain ⟨w3, hw3⟩ : ∃ w3, w1.alloc (Obj.cells #[Value.slice A L.length c] 129) = w3 := ⟨_, rfl⟩
    have hb1 : Below w.heap.size w w1 := bthen (balloc (Below.refl _ w) _) HB1.out
    have hb3 : Below w.heap.size w w3 := by rw [← hw3]; exact balloc hb1 _
    have hsz1 : w.heap.size + 1 ≤ w1.heap.size := by have := HB1.out.size; simp at this; omega
    have hsz3 : w3.heap.size = w1.heap.size + 1 := by rw [← hw3]; simp
    have h0c : w3.heap[w.heap.size]? = some (.cells #[.slice none 0 0] 24 (0, 0)) := by
      rw [← hw3]
      exact alloc_keep ((HB1.out.block w.heap.size (by simp)).trans (heap_alloc_new w _)) _
    have hBn : w3.heap[w1.heap.size]? = some (.cells #[.slice A L.length c] 129 (0, 0)) := by rw [← hw3]; exact heap_alloc_new _ _
    have hS3 := HS.out.below hb3
    have hown : ∀ b, (Value.slice A L.length c).ownBlock = some b → b < w.heap.size := SL.lt HS.out
    have hRl : (rowsL L).length ≤ L.length + 1 := rowsI_len L 0 0
    have hRR : ∀ k, (k = w1.heap.size ∨ (Value.slice A L.length c).ownBlock = some k) → k ≠ w3.heap.size ∧ k ≠ w3.heap.size + 1 := fun k hk => by
      rcases hk with hk | hk
      · omega
      · have := hown k hk; omega
    rw [hw3]
    refine wpIn_rangeL rfl (by omega) (gf := 136) (lb := #[.pointer (some ⟨w1.heap.size, 0, none⟩)]) rfl trivial (enters_of Tryz.func136 (by kernel_rfl) rfl)
      (rows_seq 5 (by omega) w1.heap.size A c L (by omega) w3 hBn hS3) (Below.refl _ _) (fun _ => rfl) (fun k hk => hRR k hk) (fun k hk => hk.elim)
      (OfI w w3.heap.size L) (fun _ _ _ => False) ?hI ?hIx ?h0 ?round ?done ?stop
    case hI =>
      rintro k X Y ⟨⟨A1, c1, h1, h2, h3⟩, h4⟩ hcs
      exact ⟨⟨A1, c1, hcs.cells h1 (fun h => h), SL.cs h2 hcs (fun b hb h => h), h3⟩, hcs.below h4 (by omega) (fun b hb h => h)⟩
    case hIx => exact fun _ _ _ _ h _ => h
    case h0 => exact ⟨⟨none, 0, h0c, SL.nil _ _ _, fun b hb => by simp [Value.ownBlock] at hb⟩, hb3⟩
    case round =>
      intro l k W hk
      unfold rowArgs
      obtain ⟨x, hx⟩ : ∃ x, (rowsL L).getD k (0, 0) = x := ⟨_, rfl⟩
      have hxm : x ∈ rowsL L := by rw [← hx]; simp [List.getD_eq_getElem?_getD, hk]
      have hx2 := rowsI_ok L 0 0 (by omega) x hxm
      rw [hx]
      apply Exists.intro
      refine ⟨fun K hK => ?_, ?_⟩
      · gi_wp2
        exact hK
      · rintro W' ⟨⟨A1, c1, h1, h2, h3⟩, h4⟩ hsz hn1 hn2
        have hSub : ∀ W2, Below w.heap.size w W2 → StS W2 (subV A c x.1 x.2) (rowS L x) := fun W2 hb => StS.sub (HS.out.below hb) (by omega) (by simpa using hx2.2)
        have hmade : ∀ W2, Below w.heap.size w W2 → Calls Tryz.prog 91 #[subV A c x.1 x.2] W2 fun e w' => e = .returned (.tuple #[blkV (readA (rowS L x), readB (rowS L x), 1), .bool (longS (readA (rowS L x)) (readB (rowS L x)))]) ∧ Below W2.heap.size W2 w' := fun W2 hb =>
          made_c (hSub W2 hb) (by simp [rowS]; omega) (fun s hs => HOK.out s (List.mem_of_mem_take (List.mem_of_mem_drop hs)))
        obtain ⟨f, hf⟩ : ∃ f, readA (rowS L x) = f := ⟨_, rfl⟩
        obtain ⟨t, ht⟩ : ∃ f, readB (rowS L x) = f := ⟨_, rfl⟩
        have hsucc := ofM_succ hk
        rw [hx] at hsucc
        have hrb : rowB L x = if longS f t = false ∧ f ≠ t then some (f, t, 1) else none := by rw [rowB, hf, ht]
        rw [hrb] at hsucc
        rw [hf, ht] at hmade
        have HM := hid hmade
        have H1 := hid h1
        have H2 := hid h2
        have H3 := hid h3
        have H4 := hid h4
        have HSU := hid hsucc
        unfold blkV at HM
        dsimp only at HM
        clear hmade h1 h2 h3 h4 hsucc hrb hf ht hSub hx hxm
        have hkeep : ∀ X, Below W'.heap.size W' X → ofM L (k + 1) = ofM L k → RK w3.heap.size W' X ∧ Keep (fun j => j = w1.heap.size ∨ (Value.slice A L.length c).ownBlock = some j) W' X ∧ OfI w w3.heap.size L (k + 1) X := fun X hb e => by
          refine ⟨RK.of_below hb (by omega), Keep.of_below hb (fun b hb2 => ?_), ?_⟩
          · rcases hb2 with hb2 | hb2
            · omega
            · have := hown b hb2; omega
          · refine ⟨⟨A1, c1, ?_, ?_, ?_⟩, bthen H4.out hb⟩
            · rw [e]; exact (hb.block _ (blk_lt H1.out)).trans H1.out
            · rw [e]; exact SL.keep H2.out fun b hb2 => hb.block b (SL.lt H2.out b hb2)
            · rw [e]; exact H3.out
        have HK := hid hkeep
        clear hkeep
        cases hlg : longS f t
        · rw [hlg] at HM
          obtain ⟨e0, -⟩ := box_cell H1.out
          have hcell : ∀ W1, Below W'.heap.size W' W1 → (W1.alloc (Obj.cells #[Value.string f, Value.string t, Value.int IntKind.i64 1] 38)).cell? ⟨w.heap.size, 0, none⟩ = some (.slice A1 (ofM L k).length c1) := fun W1 hb => (box_cell (alloc_keep ((hb.block _ (blk_lt H1.out)).trans H1.out) _)).1
          by_cases hft : f = t
          · subst hft
            have HSK : Hid (ofM L (k + 1) = ofM L k) := hid (by have := HSU.out; simpa [hlg] using this)
            gi_wp2_with (refine ⟨trivial, ?_⟩; gi_at_call 91; refine ((callsIn_wide.2 (HM.out _ H4.out)).inRound l).mono ?_; rintro e W1 ⟨rfl, hb1⟩; have HBW := hid hb1; clear hb1)
            exact HK.out _ (balloc HBW.out _) HSK.out
          · have HSK : Hid (ofM L (k + 1) = ofM L k ++ [(f, t, 1)]) := hid (by have := HSU.out; simpa [hlg, hft] using this)
            have hft2 : (f.toList == t.toList) = false := by
              cases hq : (f.toList == t.toList) with
              | false => rfl
              | true => exact absurd (bytesEq (eq_of_beq hq)) hft
            have hft3 : (f.toList != t.toList) = true := by rw [bne, hft2]; rfl
            have HCE := hid hcell
            clear hcell
            obtain ⟨i0, hi, hz0, hz1, hz2⟩ := info_parts info38'
            have hone : ∀ u ∈ [Value.string f, Value.string t, Value.int IntKind.i64 1], u.oneCell' = true := by simp [Value.oneCell']
            have hlen := ofM_len L k
            have h63 : (ofM L k).length + 1 ≤ maxLen := by simp only [maxLen]; omega
            have hby : ((ofM L k).length + 1) * 40 ≤ 140737488355328 := by omega
            gi_wp2_with (first
              | (gi_at_builtin
                 have h1v := alloc_keep ((HBW.out.block _ (blk_lt H1.out)).trans H1.out) (Obj.cells #[Value.string f, Value.string t, Value.int IntKind.i64 1] 38)
                 have h2v : SL (W1.alloc (Obj.cells #[Value.string f, Value.string t, Value.int IntKind.i64 1] 38)) 38 3 (.slice A1 (ofM L k).length c1) (ofM L k).length ((ofM L k).flatMap blkC) := (SL.keep H2.out fun b hb2 => HBW.out.block b (SL.lt H2.out b hb2)).alloc _
                 have hlit := SL.lit (W1.alloc (Obj.cells #[Value.string f, Value.string t, Value.int IntKind.i64 1] 38)) 38 3 1 #[Value.string f, Value.string t, Value.int IntKind.i64 1] rfl (by simp [maxLen])
                 rw [World.size_alloc] at hlit
                 refine wpListIn_append_SLs rfl _ _ _ rfl 38 i0 _ 3 40 Tryz.underlying24 hi hz0 hz1 hz2 rfl (by decide) (.slice A1 (ofM L k).length c1) (ofM L k).length ((ofM L k).flatMap blkC) rfl (h2v.alloc _) _ 1 [Value.string f, Value.string t, Value.int IntKind.i64 1] rfl hlit hone ((ofM L k).length + 1) _ rfl rfl h63 hby ?_
                 intro A2 c2 w2 hs2 hg2 ho2
                 obtain ⟨g1, g2, g3, g4⟩ := col_step h1v (by decide) h2v _ hg2 hs2 ho2
                 have hv2 : w2.heap[w.heap.size]? = some (.cells #[.slice A1 (ofM L k).length c1] 24 (0, 0)) := (hg2.block _ (by have := blk_lt h1v; rw [World.size_alloc]; omega) (fun h => by have := H3.out _ h.symm; omega)).trans (alloc_keep h1v _)
                 obtain ⟨e2, f2⟩ := box_cell hv2
                 have HBV := hid (balloc HBW.out (Obj.cells #[Value.string f, Value.string t, Value.int IntKind.i64 1] 38))
                 have G1 := hid g1; have G2 := hid g2; have G3 := hid g3; have G4 := hid g4
                 clear hs2 hg2 ho2 g1 g2 g3 g4 hv2 h1v h2v e1)
              | (refine ⟨trivial, ?_⟩; gi_at_call 91; refine ((callsIn_wide.2 (HM.out _ H4.out)).inRound l).mono ?_; rintro e W1 ⟨rfl, hb1⟩; have HBW := hid hb1; have e1 := HCE.out W1 hb1; clear hb1))
            have HT3 : Touch (fun b => b = w.heap.size ∨ (Value.slice A1 (ofM L k).length c1).ownBlock = some b) W' (w2.setCell { block := w.heap.size, off := 0 } (Value.slice A2 ((ofM L k).length + 1) c2)) :=
              ((Touch.of_below HBV.out (Nat.le_refl _)).mono (fun _ h => h.elim)).trans G3.out (fun i hi => .inl hi)
            have hob : ∀ D, NC W' D → D ≠ w.heap.size → ¬ (D = w.heap.size ∨ (Value.slice A1 (ofM L k).length c1).ownBlock = some D) := fun D hD hne h => by
              rcases h with h | h
              · exact hne h
              · obtain ⟨cur, hc⟩ := SL.typed H2.out D h
                exact hD.ne hc rfl
            have e1 : (ofM L (k + 1)).length = (ofM L k).length + 1 := by rw [HSK.out]; simp
            have e2 : (ofM L (k + 1)).flatMap blkC = (ofM L k).flatMap blkC ++ [Value.string f, Value.string t, Value.int IntKind.i64 1] := by rw [HSK.out, List.flatMap_append]; rfl
            refine ⟨RK.of_touch HT3 (by omega) (hob _ (by rw [← hsz3]; exact hn1) (by omega)) (hob _ (by rw [← hsz3]; exact hn2) (by omega)), Keep.of_touch HT3 (fun b hb2 => ⟨?_, fun h => ?_⟩), ⟨A2, c2, ?_, ?_, fun b hb2 => ?_⟩, HT3.below H4.out (fun b h => ?_)⟩
            · rcases hb2 with hb2 | hb2
              · omega
              · have := hown b hb2; omega
            · rcases h with h | h
              · rcases hb2 with hb2 | hb2
                · omega
                · have := hown b hb2; omega
              · have := H3.out b h
                rcases hb2 with hb2 | hb2
                · omega
                · have := hown b hb2; omega
            · rw [e1]; exact G1.out
            · unfold BlS; rw [e1, e2]; exact G2.out
            · rw [e1] at hb2
              rcases G4.out b hb2 with h | h
              · rw [← hsz3]; exact H3.out b h
              · have := HBV.out.size
                omega
            · rcases h with h | h
              · omega
              · have := H3.out b h; omega
        · have HSK : Hid (ofM L (k + 1) = ofM L k) := hid (by have := HSU.out; simpa [hlg] using this)
          rw [hlg] at HM
          gi_wp2_with (refine ⟨trivial, ?_⟩; gi_at_call 91; refine ((callsIn_wide.2 (HM.out _ H4.out)).inRound l).mono ?_; rintro e W1 ⟨rfl, hb1⟩; have HBW := hid hb1; clear hb1)
          exact HK.out _ (balloc HBW.out _) HSK.out
    case done =>
      rintro D W hD ⟨⟨A1, c1, h1, h2, h3⟩, h4⟩ hK
      have e : ofM L (rowsL L).length = ofF L := by rw [ofM, List.take_length]; rfl
      rw [e] at h1 h2 h3
      obtain ⟨e0, f0⟩ := box_cell h1
      have H1 := hid h1
      have H2 := hid h2
      have H3 := hid h3
      have H4 := hid h4
      clear h1 h2 h3 h4
      gi_wp2
      obtain ⟨X, hX⟩ : ∃ X, W.setCell ⟨w.heap.size, 0, none⟩ (.slice A1 (ofF L).length c1) = X := ⟨_, rfl⟩
      have hto := Touch.setCell (F := fun b => b = w.heap.size) (p := ⟨w.heap.size, 0, none⟩) (Touch.refl _ W) (.inl rfl) (.slice A1 (ofF L).length c1)
      have hK' : X.heap[D]? = some (Obj.deferred (some [])) := by rw [← hX]; exact set_other hK (by omega) _ _
      have g0 : X.heap[w.heap.size]? = some (.cells #[.slice A1 (ofF L).length c1] 24 (0, 0)) := by rw [← hX]; exact box_set H1.out _
      rw [hX] at hto ⊢
      have hs2 : SL X 38 3 (.slice A1 (ofF L).length c1) (ofF L).length ((ofF L).flatMap blkC) := SL.touch H2.out hto (fun b hb h => by have := H3.out b hb; omega)
      refine ⟨by simp, .inl ⟨_, _, rfl, run_takeDeferred hK', ?_⟩⟩
      refine ⟨_, results_ct (fn := Tryz.f51) rfl _ _ w.heap.size _ rfl (load24 (put_other g0 (by omega))), ?_⟩
      exact ⟨fin_below (hto.below H4.out (fun b h => by omega)) (by omega), .inr ⟨HQ.out, A1, c1, rfl, fin_SL hs2 hK' rfl, fun b hb => by have := H3.out b hb; omega⟩⟩
    case stop => exact fun _ _ _ _ _ _ h _ => h.elim
  · have HQ := hid hq
    obtain ⟨q, hqe⟩ : ∃ q, chkS L = q := ⟨_, rfl⟩
    have hcc : q ≠ 0 := by rw [← hqe]; exact hq
    have hcb : (q != 0) = true := by rw [bne_iff_ne]; exact hcc
    have HE := hid hqe
    rw [hqe] at HC
    clear hq hqe
    go_enter Tryz.func51, Tryz.ntmps51
    go_wp2_with (go_at_call 89; refine (HC.out _ (balloc (Below.refl _ w) _)).mono ?_; rintro e w1 ⟨rfl, hb1⟩; have hh := (hb1.block w.heap.size (by simp)).trans (heap_alloc_new w _); obtain ⟨e0, f0⟩ := box_cell hh; have HH := hid hh; have HB1 := hid (bthen (balloc (Below.refl _ w) _) hb1); clear hb1 hh)
    refine bodyPost_ret (results_ct (fn := Tryz.f51) rfl _ _ w.heap.size _ rfl (load24 (by exact box_set HH.out _))) rfl ?_
    exact ⟨HB1.out.setCell (by simp) _, .inl ⟨HQ.out, by rw [HE.out]; rfl⟩⟩
end Go.Proofs.YteigplfldhdakaaGreatDoor
/- block: Pair. -/
namespace Go.Proofs.YteigplfldhdakaaGreatDoor
open Go.RowKit Go.Shelf
attribute [local go_sem ↓] Go.wp_at_zero Go.wp_at_succ
def okR (A : List Int) : Prop := ∀ x ∈ A, i32ok x
theorem getD_ok {A : List Int} (h : okR A) (k : Nat) : i32ok (A.getD k 0) := by
  rw [List.getD_eq_getElem?_getD]
  rcases Nat.lt_or_ge k A.length with hk | hk
  · rw [List.getElem?_eq_getElem hk]; exact h _ (List.getElem_mem hk)
  · rw [List.getElem?_eq_none hk]; simp [i32ok]
theorem backF_ok {A B kl : List Int} (hA : okR A) (hB : okR B) : ∀ (n i j : Nat), okStps (backF A B kl n i j)
  | 0, i, j => by unfold backF; intro s hs; simp at hs
  | n + 1, i, j => by
    unfold backF
    split
    · intro s hs; simp at hs
    · intro s hs
      rcases List.mem_cons.1 hs with rfl | hs
      · unfold stpAt
        dsimp only
        refine ⟨?_, ?_⟩ <;> split <;> first | exact getD_ok hA _ | exact getD_ok hB _ | simp [i32ok]
      · exact backF_ok hA hB n _ _ s hs
theorem stepsF_ok {A B : List Int} (hA : okR A) (hB : okR B) : okStps (stepsF A B) := fun s hs => by
  unfold stepsF at hs
  rw [List.mem_reverse] at hs
  exact backF_ok hA hB _ _ _ s hs
theorem runesOf_ok (l : List UInt8) : okR (runesOf l) := fun x hx => by
  unfold runesOf runesTo at hx
  obtain ⟨k, _, rfl⟩ := List.mem_map.1 hx
  have := runeAt_le l k
  unfold i32ok
  omega
theorem stepsF_len {A B : List Int} (hA : A.length ≤ 64) (hB : B.length ≤ 64) : (stepsF A B).length ≤ 128 := by
  unfold stepsF
  rw [List.length_reverse]
  have := stepsB_len (okGrid_fill A B hA hB) _ _ _ (Nat.le_refl _) (Nat.le_refl _) (Nat.le_refl _)
  omega
/-- the steps of two texts -/
def stpsOf (a b : ByteArray) : List Stp := stepsF (runesOf (bys a)) (runesOf (bys b))
noncomputable def pairE (a b : ByteArray) : Int := if pairErr (bys a) (bys b) = 0 then chkS (stpsOf a b) else pairErr (bys a) (bys b)
def pairM (a b : ByteArray) : List Blk := ofF (stpsOf a b)
theorem tok_64 {l : List UInt8} (h : tokErr l = 0) : cntR l ≤ 64 := by
  unfold tokErr at h
  split at h
  · unfold tokE at h
    split at h
    · omega
    · split at h
      · cases h
      · omega
  · cases h
theorem stpsOf_ok (a b : ByteArray) (h : pairErr (bys a) (bys b) = 0) : okStps (stpsOf a b) ∧ (stpsOf a b).length ≤ 128 := by
  have h1 : tokErr (bys a) = 0 ∧ tokErr (bys b) = 0 := by
    unfold pairErr at h
    split at h
    · next h2 => exact ⟨h2, h⟩
    · next h2 => exact absurd h h2
  refine ⟨stepsF_ok (runesOf_ok _) (runesOf_ok _), stepsF_len ?_ ?_⟩
  · rw [runesOf, runesTo_length]; exact tok_64 h1.1
  · rw [runesOf, runesTo_length]; exact tok_64 h1.2
/-- what Pair hands back -/
def PairP (a b : ByteArray) (w : World) (e : Ending) (w' : World) : Prop :=
  Below w.heap.size w w' ∧ ((pairE a b ≠ 0 ∧ e = .returned (.tuple #[.slice none 0 0, .int .i64 (pairE a b)])) ∨
    (pairE a b = 0 ∧ ∃ A c, e = .returned (.tuple #[.slice A (pairM a b).length c, .int .i64 0]) ∧ BlS w' (.slice A (pairM a b).length c) (pairM a b) ∧ ∀ k, (Value.slice A (pairM a b).length c).ownBlock = some k → w.heap.size ≤ k))
set_option maxRecDepth 100000 in
set_option maxHeartbeats 2000000 in
theorem pair_c (a b : ByteArray) (ha : a.size ≤ 1048576) (hb : b.size ≤ 1048576) (w : World) (hT : Tab w) : Calls Tryz.prog 20 #[.string a, .string b] w (PairP a b w) := by
  have hst := steps_c a b ha hb w hT
  by_cases he : pairErr (bys a) (bys b) = 0
  · have hst2 : Calls Tryz.prog 50 #[.string a, .string b] w fun e w' => Below w.heap.size w w' ∧ ∃ A c, e = .returned (.tuple #[.slice A (stpsOf a b).length c, .int .i64 0]) ∧ StS w' (.slice A (stpsOf a b).length c) (stpsOf a b) ∧
      ∀ k, (Value.slice A (stpsOf a b).length c).ownBlock = some k → w.heap.size ≤ k := hst.mono fun e w' ⟨h1, h2⟩ => by
      rcases h2 with ⟨h2, _⟩ | ⟨_, h2⟩
      · exact absurd he h2
      · exact ⟨h1, h2⟩
    obtain ⟨hok, hl⟩ := stpsOf_ok a b he
    have hE : pairE a b = chkS (stpsOf a b) := by rw [pairE, if_pos he]
    have hM : pairM a b = ofF (stpsOf a b) := rfl
    have HST := hid hst2
    obtain ⟨L, hL⟩ : ∃ L, stpsOf a b = L := ⟨_, rfl⟩
    rw [hL] at HST hok hl hE hM
    have HP : Hid (∀ w' e, OfP L w' e = fun w2 => Below w'.heap.size w' w2 ∧ ((pairE a b ≠ 0 ∧ e = .returned (.tuple #[.slice none 0 0, .int .i64 (pairE a b)])) ∨
      (pairE a b = 0 ∧ ∃ A c, e = .returned (.tuple #[.slice A (pairM a b).length c, .int .i64 0]) ∧ BlS w2 (.slice A (pairM a b).length c) (pairM a b) ∧ ∀ k, (Value.slice A (pairM a b).length c).ownBlock = some k → w'.heap.size ≤ k))) := hid (by
      intro w' e
      unfold OfP
      rw [hE, hM])
    have HOK := hid hok
    clear hst hst2 hE hM hok hL
    go_enter Tryz.func20, Tryz.ntmps20
    go_wp2_with (first
      | (go_at_call 50; refine HST.out.mono ?_; rintro e w1 ⟨hb1, A, c, rfl, hs1, ho1⟩; have HB1 := hid hb1; have HS1 := hid hs1; have HO1 := hid ho1; clear hb1 hs1 ho1)
      | (go_at_call 51; refine (of_c HS1.out (by omega) HOK.out).mono ?_; rintro e w2 h2; rw [HP.out] at h2; obtain ⟨hb2, h2⟩ := h2; have HB2 := hid (bthen HB1.out hb2); rcases h2 with ⟨h2, rfl⟩ | ⟨h2, A2, c2, rfl, h3, h4⟩))
    · go_ret2
      exact ⟨HB2.out, .inl ⟨h2, rfl⟩⟩
    · go_ret2
      exact ⟨HB2.out, .inr ⟨h2, A2, c2, rfl, h3, fun k hk => Nat.le_trans HB1.out.size (h4 k hk)⟩⟩
  · have hE : pairE a b = pairErr (bys a) (bys b) := by rw [pairE, if_neg he]
    obtain ⟨q, hq⟩ : ∃ q, pairErr (bys a) (bys b) = q := ⟨_, rfl⟩
    have hst2 : Calls Tryz.prog 50 #[.string a, .string b] w fun e w' => Below w.heap.size w w' ∧ e = .returned (.tuple #[.slice none 0 0, .int .i64 q]) := hst.mono fun e w' ⟨h1, h2⟩ => by
      rcases h2 with ⟨_, h2⟩ | ⟨h2, _⟩
      · exact ⟨h1, by rw [h2, hq]⟩
      · exact absurd h2 he
    rw [hq] at hE he
    have HE := hid hE
    have heb : (q != 0) = true := by rw [bne_iff_ne]; exact he
    have HST := hid hst2
    clear hst hst2 hE hq
    go_enter Tryz.func20, Tryz.ntmps20
    go_wp2_with (go_at_call 50; refine HST.out.mono ?_; rintro e w1 ⟨hb1, rfl⟩; have HB1 := hid hb1; clear hb1)
    go_ret2
    exact ⟨HB1.out, .inl ⟨by rw [HE.out]; exact he, by rw [HE.out]; rfl⟩⟩
end Go.Proofs.YteigplfldhdakaaGreatDoor
