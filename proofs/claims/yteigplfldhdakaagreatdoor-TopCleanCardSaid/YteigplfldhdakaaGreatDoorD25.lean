/- dawg: make. -/
import Derived.Test.YteigplfldhdakaaGreatDoorD24
import Derived.Test.YteigplfldhdakaaGreatDoorD13
set_option linter.unusedVariables false
set_option linter.unusedSimpArgs false
namespace Go.Proofs.YteigplfldhdakaaGreatDoor
open Go.RowKit Go.Shelf Dw MapKept
attribute [local go_sem ↓] Go.wp_at_zero Go.wp_at_succ
/-- append, which the walk leaves as it is -/
def appDr7 (ts : Array TypeId) (t : TypeId) (args : Array Value) : Sem Value := Go.Builtin.append_ ts t args
theorem appDr7_eq (ts : Array TypeId) (t : TypeId) (args : Array Value) : Go.Builtin.append_ ts t args = appDr7 ts t args := rfl
attribute [local go_sem ↓] appDr7_eq
theorem dec_c {t : ByteArray} (ht : TokL t) (w : World) (hT : Tab w) : Calls Tryz.prog 112 #[.string t] w fun e w' => Below w.heap.size w w' ∧ ∃ A c, e = .returned (.tuple #[.slice A (runesOf (bys t)).length c, .int .i64 0]) ∧ RS w' (.slice A (runesOf (bys t)).length c) (runesOf (bys t)) :=
  (decode_c t ht.small w hT).mono fun e w' ⟨h1, h2⟩ => by
    rcases h2 with ⟨h2, _⟩ | ⟨_, A, c, h3, h4, _⟩
    · exact absurd (okText_of _ _ (Nat.le_refl _) ht.valid) h2
    · have hl : (runesOf (bys t)).length = cntR (bys t) := runesTo_length _ _
      rw [hl]
      exact ⟨h1, A, c, h3, h4⟩
theorem runes_few {t : ByteArray} (ht : TokL t) : (runesOf (bys t)).length ≤ 64 := by
  have hl : (runesOf (bys t)).length = cntR (bys t) := runesTo_length _ _
  rw [hl, ← runeCount_cnt]; exact ht.few
def wrs (x : Wd) : List Int := runesOf (bys x.1)
def MkP (w0 : World) (dp mb : Nat) (L : List Wd) (e : Ending) (w' : World) : Prop :=
  e = .returned (.tuple #[]) ∧ Below w0.heap.size w0 w' ∧ ∃ v R M P pw, R.length ≤ 1 + 64 * L.length ∧ DrAt w' w0.heap.size dp v mb R M ∧ FI R M P pw (L.map wrs)
set_option maxRecDepth 100000 in
set_option maxHeartbeats 32000000 in
theorem make_dr_c {w0 w : World} {dp mb : Nat} {v0 lv : Value} {L : List Wd} (hb : Below w0.heap.size w0 w) (h : DrAt w w0.heap.size dp v0 mb [rec0] []) (hw : WdS w0 lv L) (hL : ∀ x ∈ L, lawW x) (hr : risW L) (hl : L.length ≤ 65536) (hT : Tab w0) :
    Calls Tryz.prog 70 #[.pointer (some ⟨dp, 0, none⟩), lv] w (MkP w0 dp mb L) := by
  obtain ⟨lA, lc, rfl, -⟩ := SL.form hw
  have HB0 := hid hb
  have HD0 := hid h
  have HW := hid hw
  have HL := hid hL
  have HR := hid hr
  have HT := hid hT
  have hwsz := hb.size
  clear hb h hw hL hr hT
  go_enter Tryz.func70, Tryz.ntmps70
  go_wp2
  have hlit := SL.lit w 3 1 1 #[.int .i64 0] rfl (by simp [maxLen])
  have HP0 : Hid (NaS (w.alloc (.cells #[.int .i64 0] 3)) (.slice (some ⟨w.heap.size, 0, none⟩) 1 1) [0]) := hid hlit
  have HB1 := hid (HB0.out.alloc hwsz (.cells #[.int .i64 0] 3))
  have HD1 := hid (HD0.out.below (balloc (Below.refl _ w) (.cells #[.int .i64 0] 3)))
  clear hlit
  go_loopw [4, 5, 17] (fun pv qv iv wr => ∃ (i : Nat) (P : List Nat) (pw : List Int) (R : List Rec) (M : List Ke) (v : Value) (A : Option Addr) (c : Nat) (A1 : Option Addr) (c1 : Nat), i ≤ L.length ∧ iv = .int .i64 (i : Int) ∧ pv = .slice A P.length c ∧ qv = .slice A1 pw.length c1 ∧ R.length ≤ 1 + 64 * i ∧ pw.length ≤ 64 ∧ Hid (P.length = pw.length + 1) ∧ Hid (pw = if i = 0 then [] else runesOf (bys (L.getD (i - 1) wd0).1)) ∧ Hid (DrAt wr w0.heap.size dp v mb R M) ∧ Hid (FI R M P pw ((L.take i).map wrs)) ∧ Hid (NaS wr (.slice A P.length c) P) ∧ Hid (∀ k, (Value.slice A P.length c).ownBlock = some k → w0.heap.size ≤ k) ∧ Hid (RS wr (.slice A1 pw.length c1) pw) ∧ Hid (Below w0.heap.size w0 wr)) (fun _ _ iv _ => L.length - (intOf iv).toNat)
  case atStart => exact ⟨0, [0], [], [rec0], [], v0, _, 1, none, 0, Nat.zero_le _, rfl, rfl, rfl, by simp, by simp, hid rfl, hid rfl, HD1, hid FI.start, HP0, hid (fun k hk => by cases hk; exact hwsz), hid (SL.nil _ _ _), HB1⟩
  case round =>
    obtain ⟨i, P, pw, R, M, v, A, c, A1, c1, hi, rfl, rfl, rfl, hRl, hpwl, HPl, HPW, HD, HF, HN, HO, HQ, HB⟩ := hrel
    clear HD0 HD1 HP0 HB0 HB1
    by_cases hil : i < L.length
    · have hilI : (i : Int) < (L.length : Int) := by omega
      obtain ⟨g, off, hA, hgl, k0, k1⟩ := WdS.at2 (HW.out.below HB.out) hil
      subst hA
      have hlaw := HL.out _ (List.getElem_mem hil)
      have hcm := wd_comm HL.out HR.out hil HPW.out
      have hdone : (L.take (i + 1)).map wrs = (L.take i).map wrs ++ [runesOf (bys L[i].1)] := by
        rw [List.take_add_one, List.getElem?_eq_getElem hil, List.map_append]; rfl
      have hnxt : runesOf (bys L[i].1) = if i + 1 = 0 then [] else runesOf (bys (L.getD (i + 1 - 1) wd0).1) := by
        rw [if_neg (by omega), Nat.add_sub_cancel, getD_lt hil]
      have hrf := runes_few hlaw.1
      have hok := (text_runes _ _ (Nat.le_refl _) hlaw.1.valid).2
      have hdec := fun W (hT : Tab W) => dec_c hlaw.1 W hT
      obtain ⟨rs, hrs⟩ : ∃ r, runesOf (bys L[i].1) = r := ⟨_, rfl⟩
      rw [hrs] at hcm hdone hnxt hrf hok
      simp only [hrs] at hdec
      clear hrs hlaw
      obtain ⟨x, hx⟩ : ∃ x, L[i] = x := ⟨_, rfl⟩
      simp only [hx] at k0 k1 hdec
      clear hx
      obtain ⟨ts, tn⟩ := x
      dsimp only at k0 k1 hdec
      have HDONE := hid hdone
      have HNXT := hid hnxt
      have HOK := hid hok
      have HDEC := hid hdec
      have HCM := hid hcm
      obtain ⟨kp, hkp⟩ : ∃ x, comm pw rs = x := ⟨_, rfl⟩
      have HKP := hid hkp
      have hkl := comm_le pw rs
      rw [hkp] at hkl hcm
      have hkr : kp < rs.length := hcm.1
      have hkpw : kp ≤ pw.length := hkl.1
      have hkP : kp < P.length := by have := HPl.out; omega
      have HBa := hid (HB.out.alloc HB.out.size (.cells #[.string ts, .int .i64 tn] 81))
      have HBb := hid (balloc (Below.refl _ wr) (.cells #[.string ts, .int .i64 tn] 81))
      have hTa : Tab (wr.alloc (.cells #[.string ts, .int .i64 tn] 81)) := HT.out.bel HBa.out
      have HTa := hid hTa
      clear hdone hnxt hok hdec hcm hkp hkl hTa
      go_wp2_with (first
        | (go_at_call 112; refine (HDEC.out _ HTa.out).mono ?_; rintro e w1 ⟨hb1, A2, c2, rfl, h1⟩; have HBx1 := hid (bthen HBb.out hb1); obtain ⟨rg, ro, hA2, -, -⟩ := RS.at1 h1 hkr; subst hA2; have hc2 : rs.length ≤ c2 := (by obtain ⟨_, _, e1, e2⟩ := SL.form h1; cases e1; exact e2); have hkc : kp < c2 := Nat.lt_of_lt_of_le hkr hc2; have hkc2 : ¬ c2 = kp := (by omega); have HRS1 := hid h1; clear hb1 h1)
        | (go_at_call 114; refine (common_c (HQ.out.below HBx1.out) HRS1.out (by omega) (by omega)).mono ?_; rw [HKP.out]; rintro e w2 ⟨rfl, hb2⟩; have HBx2 := hid (bthen HBx1.out hb2); have HRS2 := hid (HRS1.out.below hb2); clear hb2)
        | (go_at_call 113; refine (freeze_c (HD.out.below HBx2.out) HF.out (HN.out.below HBx2.out) hkP (by omega) hpwl).mono ?_; rintro e w3 ⟨rfl, hdt, R2, M2, hR2, hD2, hF2⟩; have HDT := hid hdt; have HR2 := hid hR2; have HD2 := hid hD2; have HF2 := hid hF2; clear hdt hR2 hD2 hF2))
      obtain ⟨nk, hnk⟩ : ∃ x, rs.length - kp = x := ⟨_, rfl⟩
      rw [hnk]
      have hnk1 : kp + nk ≤ rs.length := by omega
      have hP2l : (P.take (kp + 1)).length = kp + 1 := by rw [List.length_take]; omega
      have hnx := HF2.out.next (by rw [hP2l, HKP.out]) (by rw [HKP.out]; exact hkr) HCM.out.2
      have HF3 := hid hnx.1
      have HTOP := hid hnx.2
      have HN3 : Hid (NaS w3 (.slice A (kp + 1) c) (P.take (kp + 1))) := hid (NaS.dt ((NaS.below HN.out HBx2.out).take (by omega)) HDT.out)
      have HRS3 := hid (RS.dt HRS2.out HDT.out)
      have HB3 := hid (DT.below HDT.out (bthen HB.out HBx2.out) (Nat.le_refl _))
      have HP2 := hid hP2l
      have HNK := hid hnk
      have hR2 : R2.length ≤ 1 + 64 * i := by have := HR2.out; omega
      clear hnx hP2l hnk HTa HBa HBb HDEC HRS1 HBx1 HBx2 HRS2 HN HD HF HF2
      go_loopw [4, 39] (fun pv jv wr => ∃ (j m : Nat) (P' : List Nat) (R' : List Rec) (M' : List Ke) (v' : Value) (A' : Option Addr) (c' : Nat), j ≤ nk ∧ jv = .int .i64 (j : Int) ∧ pv = .slice A' m c' ∧ R'.length ≤ 1 + 64 * i + j ∧ 0 < m ∧ m ≤ kp + 1 + j ∧ kp + 1 + j ≤ m ∧ Hid (P'.length = m) ∧ Hid (DrAt wr w0.heap.size dp v' mb R' M') ∧ Hid (FI R' M' P' rs ((L.take i).map wrs)) ∧ Hid (∀ h : P'.getD (P'.length - 1) 0 < R'.length, ∀ e ∈ R'[P'.getD (P'.length - 1) 0].out, e.1 < rs.getD (P'.length - 1) 0) ∧ Hid (NaS wr (.slice A' m c') P') ∧ Hid (∀ k, (Value.slice A' m c').ownBlock = some k → w0.heap.size ≤ k) ∧ Hid (RS wr (.slice (some ⟨rg, ro, none⟩) rs.length c2) rs) ∧ Hid (Below w0.heap.size w0 wr)) (fun _ jv _ => nk - (intOf jv).toNat)
      case atStart => exact ⟨0, kp + 1, P.take (kp + 1), R2, M2, v, A, c, Nat.zero_le _, rfl, rfl, by omega, by omega, by omega, by omega, HP2, HD2, HF3, HTOP, HN3, hid (fun k hk => HO.out k (by cases A <;> exact hk)), HRS3, HB3⟩
      case round =>
        obtain ⟨j, m, P', R', M', v', A', c', hj, rfl, rfl, hR', hm0, hm1, hm2, HPl', HD', HF', HTOP', HN', HO', HRS', HB'⟩ := hrel
        clear HD2 HF3 HTOP HN3 HRS3 HB3 HR2 HDT HP2
        by_cases hjn : j < nk
        · have hjnI : (j : Int) < (nk : Int) := by omega
          obtain ⟨t, ht⟩ : ∃ x, P'.getD (P'.length - 1) 0 = x := ⟨_, rfl⟩
          have htl : t < R'.length := by rw [← ht]; exact HF'.out.lt _ (getD_memN (by have := HPl'.out; omega))
          obtain ⟨g4, off4, c4, hv4⟩ := HD'.out.form (by omega)
          subst hv4
          obtain ⟨_, _, e1, _, p1⟩ := RS.at1 HRS'.out (k := kp + j) (by omega)
          cases e1
          obtain ⟨r, hr⟩ : ∃ x, rs[kp + j]'(by omega) = x := ⟨_, rfl⟩
          rw [hr, ← Nat.add_assoc] at p1
          have hokr : okU r := by rw [← hr]; exact HOK.out _ (List.getElem_mem _)
          have hrd : rs.getD (P'.length - 1) 0 = r := by
            have h9 := HPl'.out
            rw [getD_lt (by omega), ← hr]
            congr 1
            omega
          have hlt := HTOP'.out
          rw [hrd] at hlt
          have hlt : ∀ e ∈ R'[t].out, e.1 < r := by
            subst ht
            exact hlt htl
          have HOKR := hid hokr
          have HRD := hid hrd
          have HLT := hid hlt
          have HTT := hid ht
          obtain ⟨m1, hm1'⟩ : ∃ x, m - 1 = x := ⟨_, rfl⟩
          have hwm : IntKind.i64.wrap ((m : Int) - 1) = (m1 : Int) := by rw [IntKind.wrap_i64]; omega
          have hm1l : m1 < m := by omega
          have hm1I : (m1 : Int) < (m : Int) := by omega
          obtain ⟨b0, b1⟩ := HD'.out.box
          obtain ⟨i1, hi1, hy0, hy1, hy2⟩ := info_parts info160
          obtain ⟨i2, hi2, hu0, hu1, hu2⟩ := info_parts info220
          obtain ⟨i3, hi3, hs0, hs1, hs2⟩ := info_parts info3b
          have hone1 : ∀ u ∈ recC rec0, u.oneCell' = true := by simp [recC, rec0, Value.oneCell']
          have h63 : R'.length + 1 ≤ maxLen := by simp only [maxLen]; omega
          have hby : (R'.length + 1) * 40 ≤ 140737488355328 := by omega
          have HL1 : Hid (SL (wr.alloc (.cells #[.slice none 0 0, .bool false, .int .i64 0] 160)) 160 3 (.slice (some ⟨wr.heap.size, 0, none⟩) 1 1) 1 (recC rec0)) := hid (SL.lit wr 160 3 1 #[.slice none 0 0, .bool false, .int .i64 0] rfl (by simp [maxLen]))
          have hnth : ∀ W, NaS W (.slice A' m c') P' → ∃ pg po, A' = some ⟨pg, po, none⟩ ∧ W.cell? ⟨pg, po + m1, none⟩ = some (.int .i64 (t : Int)) := fun W hW => by
            have h9 := HPl'.out
            obtain ⟨pg, po, hA, _, hc⟩ := NaS.at1 hW (k := m1) (by omega)
            refine ⟨pg, po, hA, ?_⟩
            rw [hc, ← ht]
            congr 4
            omega
          have HNTH := hid hnth
          clear hr hrd hlt ht hm1' hokr hnth
          go_wp2_with (at_builtin; refine wpList_append_SLs rfl _ _ _ rfl 160 i1 _ 3 40 Tryz.underlying161 hi1 hy0 hy1 hy2 rfl (by decide) (.slice (some ⟨g4, off4, none⟩) R'.length c4) R'.length (R'.flatMap recC) rfl (HD'.out.sts.alloc _) _ 1 (recC rec0) rfl HL1.out hone1 (R'.length + 1) _ rfl rfl h63 hby ?_; intro A5 c5 w5 hs5 hg5 ho5; have HX := hid (HD'.out.grow hs5 hg5 ho5); obtain ⟨x0, x1⟩ := HD'.out.grow_box hg5; have HNX := hid (HN'.out.dt HX.out.2); obtain ⟨pg, po, hA', y1⟩ := HNTH.out _ HNX.out; subst hA'; obtain ⟨g5, off5, c5', e5⟩ := HX.out.1.form (by simp); obtain ⟨hA5, -, -⟩ := Value.slice.inj e5; subst hA5; clear e5 hs5 hg5 ho5)
          obtain ⟨X, hX⟩ : ∃ X, w5.setCell ⟨dp, 0, none⟩ (.slice (some ⟨g5, off5, none⟩) (R'.length + 1) c5) = X := ⟨_, rfl⟩
          rw [hX] at HX HNX y1 ⊢
          have HXD : Hid (DrAt X.drew w0.heap.size dp (.slice (some ⟨g5, off5, none⟩) (R'.length + 1) c5) mb (R' ++ [rec0]) M') := hid (HX.out.1.below (Below.drew (Below.refl _ _)))
          have htl2 : t < (R' ++ [rec0]).length := by simp; omega
          have hEt := HXD.out.outs t htl2
          have hst := (HX.out.1.at3' htl2).2.1
          have hrt2 : (R' ++ [rec0])[t] = R'[t] := List.getElem_append_left htl
          have hfw := HF'.out.few t htl
          have hlb := fun w2 o => HXD.out.link_box (w2 := w2) (o := o) htl2
          have hlk := fun w2 o A c e => HXD.out.link (w2 := w2) (o := o) (A := A) (c := c) (e := e) htl2
          rw [hrt2] at hEt hst
          simp only [hrt2] at hlb hlk
          obtain ⟨rt, hrt⟩ : ∃ x, R'[t] = x := ⟨_, rfl⟩
          rw [hrt] at hEt hst hfw
          simp only [hrt] at hlb hlk
          have hXa := HX.out.1.below (balloc (Below.refl _ X) (.cells #[.int .i32 r, .int .i64 (R'.length : Int)] 220))
          have hsta := (hXa.at3' htl2).2.1
          rw [hrt2, hrt] at hsta
          obtain ⟨bxa, -⟩ := hXa.box
          obtain ⟨bx0, -⟩ := HX.out.1.box
          have htI : (t : Int) < (R'.length : Int) + 1 := by omega
          clear hXa
          have hone2 : ∀ u ∈ [Value.int .i32 r, Value.int .i64 (R'.length : Int)], u.oneCell' = true := by simp [Value.oneCell']
          obtain ⟨A7, c7, w7, hr7, hs7, hg7, ho7⟩ := run_append_SLs (P := Tryz.prog) (X.alloc (.cells #[.int .i32 r, .int .i64 (R'.length : Int)] 220)).drew 158 158 220 i2 _ 2 16 Tryz.underlying158 hi2 hu0 hu1 hu2 rfl (by decide) rt.sl rt.out.length (rt.out.flatMap edC) (SL.alloc hEt _) (.slice (some ⟨X.heap.size, 0, none⟩) 1 1) 1 _ (SL.lit X.drew 220 2 1 #[.int .i32 r, .int .i64 (R'.length : Int)] rfl (by simp [maxLen])) hone2 (by simp only [maxLen]; omega) (by omega)
          rw [appDr7_eq] at hr7
          obtain ⟨q0, q1, q2⟩ := hlb w7 _ hg7
          have hLK := hlk w7 _ A7 c7 (r, R'.length) hs7 hg7 ho7
          have HLK := hid hLK
          have HRT := hid hrt
          have HFW := hid hfw
          clear hLK hlk hlb hrt hrt2 hEt hs7 hg7 ho7 hfw
          obtain ⟨rsl, rout, ren, rn⟩ := rt
          dsimp only at hst hsta q1 hr7
          go_region
          obtain ⟨Y, hY⟩ : ∃ Y, w7.setCell ⟨g5, off5 + t * 3, none⟩ (.slice A7 (rout.length + 1) c7) = Y := ⟨_, rfl⟩
          rw [hY] at HLK ⊢
          have hXY : DT w0.heap.size wr Y := DT.trans (DT.trans HX.out.2 (DT.of_below (Below.drew (Below.refl _ X)))) HLK.out.2
          have hNY := HN'.out.dt hXY
          have hNY2 : SL Y 3 1 (.slice (some ⟨pg, po, none⟩) m c') m (P'.flatMap natC) := by
            unfold NaS at hNY
            rw [HPl'.out] at hNY
            exact hNY
          have hbY := DT.below hXY HB'.out (Nat.le_refl _)
          have HXY := hid hXY
          have HNY := hid hNY
          have HNY2 := hid hNY2
          have HBY := hid hbY
          have hone3 : ∀ u ∈ natC R'.length, u.oneCell' = true := by simp [natC, Value.oneCell']
          have HL3 : Hid (SL (Y.alloc (.cells #[.int .i64 (R'.length : Int)] 3)) 3 1 (.slice (some ⟨Y.heap.size, 0, none⟩) 1 1) 1 (natC R'.length)) := hid (SL.lit Y 3 1 1 #[.int .i64 (R'.length : Int)] rfl (by simp [maxLen]))
          have h63b : m + 1 ≤ maxLen := by simp only [maxLen]; omega
          have hbyb : (m + 1) * 8 ≤ 140737488355328 := by omega
          clear hXY hNY hNY2 hbY
          go_wp2_with (at_builtin; refine wpList_append_SLs rfl _ _ _ rfl 3 i3 _ 1 8 Tryz.underlying165 hi3 hs0 hs1 hs2 rfl (by decide) (.slice (some ⟨pg, po, none⟩) m c') m (P'.flatMap natC) rfl (HNY2.out.alloc _) _ 1 (natC R'.length) rfl HL3.out hone3 (m + 1) _ rfl rfl h63b hbyb ?_; intro A9 c9 w9 hs9 hg9 ho9; have HS9 := hid hs9; have HG9 := hid hg9; have HO9 := hid ho9; clear hs9 hg9 ho9)
          have hl1 : (P' ++ [R'.length]).length = m + 1 := by rw [List.length_append, List.length_singleton, HPl'.out]
          have hbs := HBY.out.size
          have hfi := HF'.out.push (by rw [HPl'.out]; omega) HTT.out htl HRD.out HOKR.out HLT.out (.slice A7 (rout.length + 1) c7) (x := ⟨.slice A7 (rout.length + 1) c7, rout ++ [(r, R'.length)], ren, rn⟩) (by rw [HRT.out])
          refine ⟨⟨j + 1, m + 1, P' ++ [R'.length], _, M', _, A9, c9, by omega, by simp, rfl, ?_, by omega, by omega, by omega, hid hl1, hid (HLK.out.1.path HNY.out HG9.out), hid hfi, hid ?_, hid ?_, hid ?_, hid ?_, hid ?_⟩, by simp [intOf]; omega⟩
          · rw [List.length_set, List.length_append, List.length_singleton]; omega
          · intro h e he
            rw [push_last HTT.out htl] at he
            cases he
          · unfold NaS
            rw [hl1, List.flatMap_append, List.flatMap_singleton]
            exact HS9.out
          · intro k hk
            rcases HO9.out k hk with h1 | h1
            · exact HO'.out k h1
            · rw [World.size_alloc] at h1; omega
          · exact ((HRS'.out.dt HXY.out).path HNY.out HG9.out)
          · exact (HBY.out.alloc hbs _).grown HG9.out (by rw [World.size_alloc]; omega) fun k hk => HO'.out k hk
        · obtain rfl : j = nk := by omega
          have hjnI : ¬ (j : Int) < (j : Int) := by omega
          obtain ⟨t, ht⟩ : ∃ x, P'.getD (P'.length - 1) 0 = x := ⟨_, rfl⟩
          have htl : t < R'.length := by rw [← ht]; exact HF'.out.lt _ (getD_memN (by have := HPl'.out; omega))
          obtain ⟨g4, off4, c4, hv4⟩ := HD'.out.form (by omega)
          subst hv4
          have HTT := hid ht
          obtain ⟨m1, hm1'⟩ : ∃ x, m - 1 = x := ⟨_, rfl⟩
          have hwm : IntKind.i64.wrap ((m : Int) - 1) = (m1 : Int) := by rw [IntKind.wrap_i64]; omega
          have hm1l : m1 < m := by omega
          have hm1I : (m1 : Int) < (m : Int) := by omega
          obtain ⟨b0, b1⟩ := HD'.out.box
          obtain ⟨pg, po, hA, _, hc⟩ := NaS.at1 HN'.out (k := m1) (by have := HPl'.out; omega)
          subst hA
          have hc9 : wr.cell? ⟨pg, po + m1, none⟩ = some (.int .i64 (t : Int)) := by
            rw [hc, ← ht]
            congr 4
            have := HPl'.out
            omega
          obtain ⟨hg4, s0, s1, s2⟩ := HD'.out.at3' htl
          have hfz : wr.frozen? ⟨g4, off4 + t * 3 + 1, none⟩ = false := by
            obtain ⟨g', off', cap', hv', _, _, _, hfr⟩ := SL.open_ HD'.out.sts (by omega)
            cases hv'
            exact hfr _
          have htI : (t : Int) < (R'.length : Int) := by omega
          have hmk := HD'.out.mark htl
          have HMK := hid hmk
          clear hmk ht hm1' hc s0 s2
          go_wp2
          go_region
          go_wp2
          have hle := HNK.out
          have hpl := HPl'.out
          have hrl : P'.length = rs.length + 1 := by omega
          have hfe := HF'.out.ends hrl HTT.out htl
          rw [← HDONE.out] at hfe
          have hdr : DT w0.heap.size wr (wr.setCell ⟨g4, off4 + t * 3 + 1, none⟩ (.bool true)).drew := Touch.drew HMK.out.2
          rw [← hpl] at HN' HO' ⊢
          exact ⟨⟨i + 1, P', rs, _, M', _, _, c', _, c2, by omega, by simp, rfl, rfl, by rw [List.length_set]; omega, hrf, hid hrl, HNXT, hid (HMK.out.1.below (Below.drew (Below.refl _ _))), hid hfe, hid (HN'.out.dt hdr), HO', hid (HRS'.out.dt hdr), hid (DT.below hdr HB'.out (Nat.le_refl _))⟩, by simp [intOf]; omega⟩
    · obtain rfl : i = L.length := by omega
      have hilI : ¬ (L.length : Int) < (L.length : Int) := by omega
      have hfz : Calls Tryz.prog 113 #[.pointer (some ⟨dp, 0, none⟩), .slice A P.length c, .int .i64 0] wr (FrzP w0.heap.size dp mb v R.length A c 0 P pw ((L.take L.length).map wrs) wr) := freeze_c (keep := 0) HD.out HF.out HN.out (by have := HPl.out; omega) (by omega) hpwl
      have HFZ := hid hfz
      clear hfz
      go_wp2_with (go_at_call 113; refine HFZ.out.mono ?_; rintro e w3 ⟨rfl, hdt, R2, M2, hR2, hD2, hF2⟩; have HDT := hid hdt; have HR2 := hid hR2; have HD2 := hid hD2; have HF2 := hid hF2; clear hdt hR2 hD2 hF2)
      go_end0
      have hF3 := HF2.out
      rw [List.take_length] at hF3
      exact ⟨rfl, DT.below HDT.out HB.out (Nat.le_refl _), _, R2, M2, _, _, by rw [HR2.out]; exact hRl, HD2.out, hF3⟩
end Go.Proofs.YteigplfldhdakaaGreatDoor
/- dawg: the automaton as it is laid out, in memory. -/
namespace Go.Proofs.YteigplfldhdakaaGreatDoor
open Go.RowKit Go.Shelf Dw MapKept
/-- what laying out may turn: blocks behind the fence that are not rows of another type -/
def nuF (B : Nat) (w : World) (k : Nat) : Prop := B ≤ k ∧ ¬ ∃ cur e, w.heap[k]? = some (.cells cur e (0, 0)) ∧ e ≠ 160 ∧ e ≠ 167
def NT (B : Nat) (w W : World) : Prop := Touch (nuF B w) w W
theorem NT.refl (B : Nat) (w : World) : NT B w w := Touch.refl _ _
theorem NT.of_below {B : Nat} {w W : World} (h : Below w.heap.size w W) : NT B w W := ⟨h.os, h.tape, h.output, h.size, fun k hk _ => h.block k hk⟩
theorem NT.own {B : Nat} {w W : World} (h : NT B w W) {k : Nat} (hB : B ≤ k) (ho : ¬ ∃ cur e, W.heap[k]? = some (.cells cur e (0, 0)) ∧ e ≠ 160 ∧ e ≠ 167) : nuF B w k ∨ w.heap.size ≤ k := by
  by_cases hs : w.heap.size ≤ k
  · exact .inr hs
  · refine .inl (Classical.byContradiction fun hn => ?_)
    have h1 := h.block k (by omega) hn
    unfold nuF at hn
    exact hn ⟨hB, fun ⟨cur, e, h3, h4⟩ => ho ⟨cur, e, h1.trans h3, h4⟩⟩
theorem NT.trans {B : Nat} {a b c : World} (h : NT B a b) (k : NT B b c) : NT B a c := Touch.trans h k fun i hi => h.own hi.1 hi.2
theorem nown_of {W : World} {k e : Nat} {cur : Array Value} (h : W.heap[k]? = some (.cells cur e (0, 0))) (he : e = 160 ∨ e = 167) : ¬ ∃ cur e, W.heap[k]? = some (.cells cur e (0, 0)) ∧ e ≠ 160 ∧ e ≠ 167 := by
  rintro ⟨cur', e', h1, h2⟩
  rw [h] at h1
  cases h1
  rcases he with h | h
  · exact h2.1 h
  · exact h2.2 h
theorem nown_map {W : World} {k n : Nat} {es : Array MapEntry} (h : W.heap[k]? = some (.map es n)) : ¬ ∃ cur e, W.heap[k]? = some (.cells cur e (0, 0)) ∧ e ≠ 160 ∧ e ≠ 167 := by
  rintro ⟨cur', e', h1, h2⟩
  rw [h] at h1
  cases h1
theorem NT.below {B : Nat} {w0 w W : World} (h : NT B w W) (hb : Below w0.heap.size w0 w) (hB : w0.heap.size ≤ B) : Below w0.heap.size w0 W := Touch.below h hb fun k hk => Nat.le_trans hB hk.1
theorem SL.nt {B : Nat} {w W : World} {e : TypeId} {sz n : Nat} {v : Value} {xs : List Value} (h : SL w e sz v n xs) (hd : NT B w W) (he : e ≠ 160 ∧ e ≠ 167) : SL W e sz v n xs :=
  SL.touch h hd fun k hk ⟨_, h2⟩ => by
    obtain ⟨cur, hc⟩ := SL.typed h k hk
    exact h2 ⟨cur, e, hc, he⟩
theorem EdS.nt {B : Nat} {w W : World} {v : Value} {L : List Ed} (h : EdS w v L) (hd : NT B w W) : EdS W v L := SL.nt h hd ⟨by decide, by decide⟩
/-- which state has which number -/
def atF : Nat → List Nat → List Ke
  | _, [] => []
  | n, q :: r => (.int .i64 (q : Int), (n : Int)) :: atF (n + 1) r
theorem atF_keys : ∀ (Q : List Nat) (n : Nat), ∀ x ∈ atF n Q, IsKey (.int .i64) x.1
  | [], n, x, hx => by cases hx
  | q :: r, n, x, hx => by
    rw [atF] at hx
    rcases List.mem_cons.1 hx with rfl | hx
    · rfl
    · exact atF_keys r (n + 1) x hx
theorem atF_snoc : ∀ (Q : List Nat) (n s : Nat), atF n (Q ++ [s]) = atF n Q ++ [(.int .i64 (s : Int), ((n + Q.length : Nat) : Int))]
  | [], n, s => rfl
  | q :: r, n, s => by
    rw [List.cons_append, atF, atF, atF_snoc r (n + 1) s, List.cons_append, List.length_cons]
    congr 3
    congr 2
    omega
theorem atF_none : ∀ (Q : List Nat) (n : Nat) {s : Nat}, s ∉ Q → posV (.int .i64 (s : Int)) (atF n Q) = none
  | [], n, s, _ => rfl
  | q :: r, n, s, h => by
    rw [atF, posV, if_neg (fun e => h (by
      have := (Value.int.inj e).2
      have : s = q := by omega
      rw [this]; exact List.mem_cons_self ..)), atF_none r (n + 1) (fun h2 => h (List.mem_cons_of_mem _ h2))]
    rfl
theorem atF_some : ∀ (Q : List Nat) (n : Nat) {s : Nat}, s ∈ Q → posV (.int .i64 (s : Int)) (atF n Q) = some (Q.idxOf s) ∧ ((atF n Q).getD (Q.idxOf s) ke0).2 = ((n + Q.idxOf s : Nat) : Int)
  | q :: r, n, s, h => by
    rw [atF, posV]
    by_cases hq : s = q
    · subst hq
      rw [if_pos rfl, List.idxOf_cons_self]
      exact ⟨rfl, rfl⟩
    · have h2 : s ∈ r := by
        rcases List.mem_cons.1 h with h3 | h3
        · exact absurd h3 hq
        · exact h3
      obtain ⟨h3, h4⟩ := atF_some r (n + 1) h2
      have hx : (q :: r).idxOf s = r.idxOf s + 1 := by
        have hb : (q == s) = false := by rw [beq_eq_false_iff_ne]; exact fun e => hq e.symm
        rw [List.idxOf_cons, hb]; rfl
      rw [if_neg (fun e => hq (by have := (Value.int.inj e).2; omega)), h3, hx]
      refine ⟨rfl, ?_⟩
      rw [List.getD_cons_succ, h4]
      congr 1
      omega
/-- the automaton at block p: its states, and which are met -/
structure DwAt (w : World) (B p ab : Nat) (v : Value) (e : Int) (f : Value) (D : List Rec) (Q : List Nat) : Prop where
  blk : w.heap[p]? = some (.cells #[v, .int .i64 e, f] 167 (0, 0))
  sts : SL w 160 3 v D.length (D.flatMap recC)
  outs : ∀ i (h : i < D.length), EdS w D[i].sl D[i].out
  map : MapV (.int .i64) w ab (atF 0 Q)
  new : B ≤ p ∧ B ≤ ab ∧ (∀ k, v.ownBlock = some k → B ≤ k)
theorem DwAt.below {w W : World} {B p ab : Nat} {v f : Value} {e : Int} {D : List Rec} {Q : List Nat} (h : DwAt w B p ab v e f D Q) (hb : Below w.heap.size w W) : DwAt W B p ab v e f D Q :=
  ⟨(hb.block _ (blk_lt h.blk)).trans h.blk, SL.keep h.sts fun k hk => hb.block k (SL.lt h.sts k hk), fun i hi => (h.outs i hi).below hb, h.map.keep (hb.block _ (blk_lt h.map.1)), h.new⟩
theorem DwAt.form {w : World} {B p ab : Nat} {v f : Value} {e : Int} {D : List Rec} {Q : List Nat} (h : DwAt w B p ab v e f D Q) (h0 : 0 < D.length) : ∃ g off c, v = .slice (some ⟨g, off, none⟩) D.length c := by
  obtain ⟨g, off, cap, hv, _, _, _, _⟩ := SL.open_ h.sts h0
  exact ⟨g, off, cap, hv⟩
theorem DwAt.at3 {w : World} {B p ab g off n c : Nat} {f : Value} {e : Int} {D : List Rec} {Q : List Nat} (h : DwAt w B p ab (.slice (some ⟨g, off, none⟩) n c) e f D Q) {k : Nat} (hk : k < D.length) :
    g < w.heap.size ∧ w.cell? ⟨g, off + k * 3, none⟩ = some D[k].sl ∧ w.cell? ⟨g, off + k * 3 + 1, none⟩ = some (.bool D[k].ends) ∧ w.cell? ⟨g, off + k * 3 + 2, none⟩ = some (.int .i64 D[k].n) ∧ ∀ j, w.frozen? ⟨g, j, none⟩ = false := by
  obtain ⟨_, _, _, e1⟩ := h.form (by omega)
  obtain ⟨-, rfl, -⟩ := Value.slice.inj e1
  obtain ⟨h1, h2, h3, h4⟩ := StsAt.at3 ⟨h.sts, h.outs⟩ hk
  obtain ⟨g', off', c', hv, _, _, _, hf⟩ := SL.open_ h.sts (by omega)
  cases hv
  exact ⟨h1, h2, h3, h4, hf⟩
theorem DwAt.box {w : World} {B p ab : Nat} {v f : Value} {e : Int} {D : List Rec} {Q : List Nat} (h : DwAt w B p ab v e f D Q) : w.cell? ⟨p, 0, none⟩ = some v ∧ w.cell? ⟨p, 1, none⟩ = some (.int .i64 e) ∧ (∀ j, w.frozen? ⟨p, j, none⟩ = false) ∧ p < w.heap.size := by
  refine ⟨?_, ?_, fun j => frozen_of_row w _ _ _ _ h.blk, blk_lt h.blk⟩
  · rw [cell_of_row w _ 0 _ _ _ h.blk]; rfl
  · rw [cell_of_row w _ 1 _ _ _ h.blk]; rfl
/-- a state is met -/
theorem DwAt.put {w : World} {B p ab : Nat} {v f : Value} {e : Int} {D : List Rec} {Q : List Nat} (h : DwAt w B p ab v e f D Q) {s : Nat} (hs : s ∉ Q) :
    DwAt (mapPutV w ab (putV (.int .i64 (s : Int)) (Q.length : Int) (atF 0 Q))) B p ab v e f D (Q ++ [s]) ∧ NT B w (mapPutV w ab (putV (.int .i64 (s : Int)) (Q.length : Int) (atF 0 Q))) := by
  have hp : putV (.int .i64 (s : Int)) (Q.length : Int) (atF 0 Q) = atF 0 (Q ++ [s]) := by
    unfold putV
    rw [atF_none Q 0 hs, atF_snoc]
    simp
  rw [hp]
  have hk : ∀ (k : Nat) (cur : Array Value) (e : TypeId), w.heap[k]? = some (.cells cur e (0, 0)) → (mapPutV w ab (atF 0 (Q ++ [s]))).heap[k]? = w.heap[k]? := fun k cur e hc => mapPutV_other _ (ne_map hc h.map.1)
  have hs : ∀ {e sz n v xs}, SL w e sz v n xs → SL (mapPutV w ab (atF 0 (Q ++ [s]))) e sz v n xs := fun h => SL.keep h fun k hb => by
    obtain ⟨cur, hc⟩ := SL.typed h k hb
    exact hk k cur _ hc
  refine ⟨⟨(hk _ _ _ h.blk).trans h.blk, hs h.sts, fun i hi => hs (h.outs i hi), mapPutV_at h.map (atF_keys _ _), h.new⟩, ?_⟩
  exact touch_putV (Touch.refl _ _) ((NT.refl B w).own h.new.2.1 (nown_map h.map.1)) _
theorem DwAt.fence {w : World} {B p ab : Nat} {v f : Value} {e : Int} {D : List Rec} {Q : List Nat} (h : DwAt w B p ab v e f D Q) : B ≤ w.heap.size := by
  have := blk_lt h.blk
  have := h.new.1
  omega
/-- the states' row grows in another world: what is read of the rest -/
theorem DwAt.grow_box {w w2 : World} {B p ab : Nat} {v f : Value} {e : Int} {D : List Rec} {Q : List Nat} (h : DwAt w B p ab v e f D Q) {o : Obj} (hg : (w.alloc o).grownBy w2 v.ownBlock) : w2.heap[p]? = some (.cells #[v, .int .i64 e, f] 167 (0, 0)) := by
  refine ((hg.block p (by rw [World.size_alloc]; have := blk_lt h.blk; omega) fun e2 => ?_).trans (Below.heap_alloc w o p (blk_lt h.blk))).trans h.blk
  obtain ⟨cur', hc'⟩ := SL.typed h.sts p e2.symm
  exact ne_type h.blk hc' (by decide) rfl
/-- one state more -/
theorem DwAt.grow {w w2 : World} {B p ab : Nat} {v f : Value} {e : Int} {D : List Rec} {Q : List Nat} (h : DwAt w B p ab v e f D Q) {o : Obj} {A : Option Addr} {c : Nat} {b : Bool} (hs : SL w2 160 3 (.slice A (D.length + 1) c) (D.length + 1) (D.flatMap recC ++ recC ⟨.slice none 0 0, [], b, 0⟩))
    (hg : (w.alloc o).grownBy w2 v.ownBlock) (ho : ∀ k, (Value.slice A (D.length + 1) c).ownBlock = some k → v.ownBlock = some k ∨ (w.alloc o).heap.size ≤ k) :
    DwAt (w2.setCell ⟨p, 0, none⟩ (.slice A (D.length + 1) c)) B p ab (.slice A (D.length + 1) c) e f (D ++ [⟨.slice none 0 0, [], b, 0⟩]) Q ∧ NT B w (w2.setCell ⟨p, 0, none⟩ (.slice A (D.length + 1) c)) := by
  have hsz : (w.alloc o).heap.size = w.heap.size + 1 := World.size_alloc _ _
  have hB := h.fence
  have hk2 : ∀ k, k < w.heap.size → some k ≠ v.ownBlock → w2.heap[k]? = w.heap[k]? := fun k hk hne => (hg.block k (by omega) hne).trans (Below.heap_alloc w o k hk)
  have hty : ∀ (k : Nat) (cur : Array Value) (e : TypeId), w.heap[k]? = some (.cells cur e (0, 0)) → e ≠ 160 → w2.heap[k]? = w.heap[k]? := fun k cur e hc he => hk2 k (blk_lt hc) fun e2 => by
    obtain ⟨cur', hc'⟩ := SL.typed h.sts k e2.symm
    exact ne_type hc hc' he rfl
  have hd2 : w2.heap[p]? = some (.cells #[v, .int .i64 e, f] 167 (0, 0)) := (hty _ _ _ h.blk (by decide)).trans h.blk
  have hset : ∀ (k : Nat) (cur : Array Value) (e : TypeId), w2.heap[k]? = some (.cells cur e (0, 0)) → e ≠ 167 → (w2.setCell ⟨p, 0, none⟩ (.slice A (D.length + 1) c)).heap[k]? = w2.heap[k]? := fun k cur e hc he => Below.heap_setCell _ _ _ _ (ne_type hc hd2 he)
  have hm2 : w2.heap[ab]? = w.heap[ab]? := hk2 _ (blk_lt h.map.1) fun e2 => by
    obtain ⟨cur', hc'⟩ := SL.typed h.sts ab e2.symm
    exact ne_map hc' h.map.1 rfl
  refine ⟨⟨?_, ?_, ?_, h.map.keep ((Below.heap_setCell _ _ _ _ (fun e => ne_map h.blk h.map.1 e.symm)).trans hm2), h.new.1, h.new.2.1, ?_⟩, ?_⟩
  · have := heap_setCell_same w2 p 0 _ 167 (.slice A (D.length + 1) c) hd2
    exact this
  · rw [List.length_append, List.length_singleton, List.flatMap_append, List.flatMap_singleton]
    exact SL.keep hs fun k hk => by
      obtain ⟨cur, hc⟩ := SL.typed hs k hk
      exact hset k cur _ hc (by decide)
  · intro i hi
    rw [List.length_append, List.length_singleton] at hi
    rcases Nat.lt_or_ge i D.length with hl | hl
    · rw [List.getElem_append_left hl]
      have h1 := h.outs i hl
      have h2 : EdS w2 D[i].sl D[i].out := SL.keep h1 fun k hk => by
        obtain ⟨cur, hc⟩ := SL.typed h1 k hk
        exact hty k cur _ hc (by decide)
      exact SL.keep h2 fun k hk => by
        obtain ⟨cur, hc⟩ := SL.typed h2 k hk
        exact hset k cur _ hc (by decide)
    · rw [List.getElem_append_right hl]
      obtain rfl : i = D.length := by omega
      simp only [Nat.sub_self, List.getElem_cons_zero]
      exact SL.nil _ _ _
  · intro k hk
    rcases ho k hk with h1 | h1
    · exact h.new.2.2 k h1
    · omega
  · have h1 : NT B w w2 := Touch.grown (Touch.alloc (NT.refl B w) o) hg fun k hk => by
      obtain ⟨cur, hc⟩ := SL.typed h.sts k hk
      exact (NT.refl B w).own (h.new.2.2 k hk) (nown_of hc (.inl rfl))
    exact Touch.setCell h1 (NT.own h1 h.new.1 (nown_of hd2 (.inr rfl))) _
/-- edges of one's own grow: the automaton stays -/
theorem DwAt.local {w w2 : World} {B p ab : Nat} {v f lv : Value} {e : Int} {D : List Rec} {Q : List Nat} {L : List Ed} (h : DwAt w B p ab v e f D Q) (hl : EdS w lv L) (hap : ∀ i (hi : i < D.length), ∀ k, D[i].sl.ownBlock = some k → lv.ownBlock ≠ some k) {o : Obj} (hg : (w.alloc o).grownBy w2 lv.ownBlock) : DwAt w2 B p ab v e f D Q := by
  have hk2 : ∀ k, k < w.heap.size → some k ≠ lv.ownBlock → w2.heap[k]? = w.heap[k]? := fun k hk hne => (hg.block k (by rw [World.size_alloc]; omega) hne).trans (Below.heap_alloc w o k hk)
  have hty : ∀ (k : Nat) (x : Obj), w.heap[k]? = some x → (∀ cur, x ≠ .cells cur 220 (0, 0)) → w2.heap[k]? = w.heap[k]? := fun k x hc he => hk2 k (blk_lt hc) fun e2 => by
    obtain ⟨cur', hc'⟩ := SL.typed hl k e2.symm
    rw [hc] at hc'
    exact he cur' (Option.some.inj hc')
  refine ⟨(hty _ _ h.blk (fun _ e => by cases e)).trans h.blk, SL.keep h.sts fun k hk => ?_, fun i hi => SL.keep (h.outs i hi) fun k hk => hk2 k (SL.lt (h.outs i hi) k hk) (fun e2 => hap i hi k hk e2.symm), h.map.keep (hty _ _ h.map.1 (fun _ e => by cases e)), h.new⟩
  obtain ⟨cur, hc⟩ := SL.typed h.sts k hk
  exact hty k _ hc (fun _ e => by cases e)
/-- a state is filled in -/
theorem DwAt.fill {w : World} {B p ab g off n c0 : Nat} {f lv : Value} {e : Int} {D : List Rec} {Q : List Nat} (h : DwAt w B p ab (.slice (some ⟨g, off, none⟩) n c0) e f D Q) {L : List Ed} (hl : EdS w lv L) {i : Nat} (hi : i < D.length) (cn : Int) :
    DwAt ((w.setCell ⟨g, off + i * 3, none⟩ lv).setCell ⟨g, off + i * 3 + 2, none⟩ (.int .i64 cn)) B p ab (.slice (some ⟨g, off, none⟩) n c0) e f (D.set i ⟨lv, L, D[i].ends, cn⟩) Q ∧ NT B w ((w.setCell ⟨g, off + i * 3, none⟩ lv).setCell ⟨g, off + i * 3 + 2, none⟩ (.int .i64 cn)) := by
  obtain ⟨_, _, _, en⟩ := h.form (by omega)
  obtain ⟨-, hn, -⟩ := Value.slice.inj en
  subst hn
  obtain ⟨curg, hgb⟩ := SL.typed h.sts g rfl
  have hset : ∀ (k : Nat), k ≠ g → ((w.setCell ⟨g, off + i * 3, none⟩ lv).setCell ⟨g, off + i * 3 + 2, none⟩ (.int .i64 cn)).heap[k]? = w.heap[k]? := fun k hk => (Below.heap_setCell _ _ _ _ hk).trans (Below.heap_setCell _ _ _ _ hk)
  have hl2 : (D.set i (⟨lv, L, D[i].ends, cn⟩ : Rec)).length = D.length := List.length_set
  refine ⟨⟨(hset _ (ne_type h.blk hgb (by decide))).trans h.blk, ?_, ?_, h.map.keep (hset _ (fun e => ne_map hgb h.map.1 e.symm)), h.new⟩, ?_⟩
  · rw [hl2]
    have h1 := SL.set_ h.sts (j := i * 3) (by omega) lv
    have h2 := SL.set_ h1 (j := i * 3 + 2) (by omega) (.int .i64 cn)
    have e1 := flat_set recC_len D i 0 lv (⟨lv, D[i].out, D[i].ends, D[i].n⟩ : Rec) hi (by decide) (by simp [recC])
    rw [Nat.add_zero] at e1
    rw [e1] at h2
    have e2 := flat_set recC_len (D.set i (⟨lv, D[i].out, D[i].ends, D[i].n⟩ : Rec)) i 2 (.int .i64 cn) (⟨lv, L, D[i].ends, cn⟩ : Rec) (by rw [List.length_set]; exact hi) (by decide) (by simp [recC])
    rw [e2, List.set_set, ← Nat.add_assoc] at h2
    exact h2
  · intro j hj
    rw [hl2] at hj
    rw [List.getElem_set]
    split
    · exact SL.keep hl fun k hk => by
        obtain ⟨cur, hc⟩ := SL.typed hl k hk
        exact hset k (ne_type hc hgb (by decide))
    · have h1 := h.outs j hj
      exact SL.keep h1 fun k hk => by
        obtain ⟨cur, hc⟩ := SL.typed h1 k hk
        exact hset k (ne_type hc hgb (by decide))
  · have h1 : NT B w (w.setCell ⟨g, off + i * 3, none⟩ lv) := Touch.setCell (NT.refl B w) ((NT.refl B w).own (h.new.2.2 g rfl) (nown_of hgb (.inl rfl))) _
    have h2 := heap_setCell_same w g (off + i * 3) curg 160 lv hgb
    exact Touch.setCell h1 (NT.own h1 (h.new.2.2 g rfl) (nown_of h2 (.inl rfl))) _
/-- the edges are counted -/
theorem DwAt.count {w : World} {B p ab : Nat} {v f : Value} {e : Int} {D : List Rec} {Q : List Nat} (h : DwAt w B p ab v e f D Q) (e' : Int) :
    DwAt (w.setCell ⟨p, 1, none⟩ (.int .i64 e')) B p ab v e' f D Q ∧ NT B w (w.setCell ⟨p, 1, none⟩ (.int .i64 e')) := by
  have hs : ∀ {t sz n v xs}, SL w t sz v n xs → t ≠ 167 → SL (w.setCell ⟨p, 1, none⟩ (.int .i64 e')) t sz v n xs := fun h1 he => SL.keep h1 fun k hb => by
    obtain ⟨cur, hc⟩ := SL.typed h1 k hb
    exact Below.heap_setCell _ _ _ _ (ne_type hc h.blk he)
  refine ⟨⟨?_, hs h.sts (by decide), fun i hi => hs (h.outs i hi) (by decide), h.map.keep (Below.heap_setCell _ _ _ _ (fun e => ne_map h.blk h.map.1 e.symm)), h.new⟩, ?_⟩
  · have := heap_setCell_same w p 1 _ 167 (.int .i64 e') h.blk
    exact this
  · exact Touch.setCell (NT.refl B w) ((NT.refl B w).own h.new.1 (nown_of h.blk (.inr rfl))) _
end Go.Proofs.YteigplfldhdakaaGreatDoor
/- the automaton as it is laid out of its draft (plain). -/
namespace Go.Proofs.YteigplfldhdakaaGreatDoor.Dw
/-- state number i of the automaton is the draft's, as it is met -/
def cmpl (S : List Dst) (Q : List Nat) (D : List Dst) (i : Nat) : Prop :=
  (∀ e ∈ (S.getD (Q.getD i 0) dst0).1, e.2 ∈ Q) ∧ D.getD i dst0 = ((S.getD (Q.getD i 0) dst0).1.map (fun e => (e.1, Q.idxOf e.2)), (S.getD (Q.getD i 0) dst0).2)
theorem idx_get {Q : List Nat} {q : Nat} (h : q ∈ Q) : Q.getD (Q.idxOf q) 0 = q := by
  have hl := List.idxOf_lt_length_of_mem h
  rw [getD_lt hl]
  exact List.getElem_idxOf hl
theorem idx_more {Q N : List Nat} {q : Nat} (h : q ∈ Q) : (Q ++ N).idxOf q = Q.idxOf q := by rw [List.idxOf_append, if_pos h]
/-- what is whole stays whole -/
theorem cmpl_more {S : List Dst} {Q N : List Nat} {D D' : List Dst} {i : Nat} (h : cmpl S Q D i) (hi : i < Q.length) (hD : D'.getD i dst0 = D.getD i dst0) : cmpl S (Q ++ N) D' i := by
  obtain ⟨h1, h2⟩ := h
  unfold cmpl
  rw [getD_left hi]
  refine ⟨fun e he => List.mem_append_left _ (h1 e he), ?_⟩
  rw [hD, h2]
  congr 1
  exact List.map_congr_left fun e he => by rw [idx_more (h1 e he)]
theorem edgeTo_map (f : Nat → Nat) (r : Int) : ∀ l : List Ed, edgeTo r (l.map fun e => (e.1, f e.2)) = (edgeTo r l).map f
  | [] => rfl
  | e :: l => by
    rw [List.map_cons, edgeTo, edgeTo]
    by_cases h : e.1 = r
    · rw [if_pos h, if_pos h]; rfl
    · rw [if_neg h, if_neg h]; exact edgeTo_map f r l
/-- **a whole automaton takes what its draft does** -/
theorem acc_cmpl {S : List Dst} {Q : List Nat} {D : List Dst} (h : ∀ i, i < Q.length → cmpl S Q D i) : ∀ (w : List Int) (q : Nat), q ∈ Q → acc D (Q.idxOf q) w = acc S q w
  | [], q, hq => by
    have h1 := h _ (List.idxOf_lt_length_of_mem hq)
    unfold cmpl at h1
    rw [idx_get hq] at h1
    rw [acc, acc, h1.2]
  | r :: w, q, hq => by
    have h1 := h _ (List.idxOf_lt_length_of_mem hq)
    unfold cmpl at h1
    rw [idx_get hq] at h1
    rw [acc, acc, h1.2]
    dsimp only
    have h2 := edgeTo_map (fun q => List.idxOf q Q) r (S.getD q dst0).1
    rw [h2]
    cases hx : edgeTo r (S.getD q dst0).1 with
    | none => rfl
    | some t => exact acc_cmpl h w t (h1.1 _ (edgeTo_mem hx))
theorem nodup_le {Q : List Nat} {n : Nat} (h : Q.Nodup) (hl : ∀ q ∈ Q, q < n) : Q.length ≤ n := by
  have hp : Q.Perm ((List.range n).filter fun i => decide (i ∈ Q)) := (List.perm_ext_iff_of_nodup h (List.nodup_range.filter _)).2 fun i => ⟨fun hx => List.mem_filter.2 ⟨by simpa using hl i hx, by simpa using hx⟩, fun hx => by simpa using (List.mem_filter.1 hx).2⟩
  rw [hp.length_eq]
  exact Nat.le_trans (List.length_filter_le _ _) (by simp)
theorem nodup_lt {Q : List Nat} {n q : Nat} (h : Q.Nodup) (hl : ∀ q ∈ Q, q < n) (hq : q < n) (hn : q ∉ Q) : Q.length < n := by
  have := nodup_le (Q := q :: Q) (n := n) (List.nodup_cons.2 ⟨hn, h⟩) (fun x hx => by
    rcases List.mem_cons.1 hx with rfl | hx
    · exact hq
    · exact hl x hx)
  simp at this
  omega
end Go.Proofs.YteigplfldhdakaaGreatDoor.Dw
/- dawg: what laying out keeps (plain). -/
namespace Go.Proofs.YteigplfldhdakaaGreatDoor
open Go.RowKit Go.Shelf Dw MapKept
structure NuP (S : List Dst) (B p ab : Nat) (f : Value) (Q : List Nat) (D : List Rec) (w w' : World) (Q' : List Nat) (D' : List Rec) (v' : Value) (e' : Int) : Prop where
  pq : Q <+: Q'
  pd : D <+: D'
  len : D'.length = Q'.length
  nd : Q'.Nodup
  lt : ∀ q ∈ Q', q < S.length
  co : ∀ i, Q.length ≤ i → i < Q'.length → cmpl S Q' (D'.map dstR) i
  at_ : DwAt w' B p ab v' e' f D' Q'
  nt : NT B w w'
  fresh : ∀ i (h : i < D'.length), D.length ≤ i → ∀ k, D'[i].sl.ownBlock = some k → w.heap.size ≤ k
theorem pre_get {α : Type} {L M : List α} (h : L <+: M) {i : Nat} (hi : i < L.length) : ∃ hm : i < M.length, M[i] = L[i] := by
  obtain ⟨N, rfl⟩ := h
  exact ⟨by rw [List.length_append]; omega, List.getElem_append_left hi⟩
theorem pre_idx {Q Q' : List Nat} (h : Q <+: Q') {q : Nat} (hq : q ∈ Q) : q ∈ Q' ∧ Q'.idxOf q = Q.idxOf q := by
  obtain ⟨N, rfl⟩ := h
  exact ⟨List.mem_append_left _ hq, idx_more hq⟩
theorem cmpl_pre {S : List Dst} {Q Q' : List Nat} {D D' : List Rec} (hq : Q <+: Q') (hd : D <+: D') (hl : D.length = Q.length) {i : Nat} (hi : i < Q.length) (h : cmpl S Q (D.map dstR) i) : cmpl S Q' (D'.map dstR) i := by
  obtain ⟨N, rfl⟩ := hq
  refine cmpl_more h hi ?_
  obtain ⟨h1, h2⟩ := pre_get hd (show i < D.length by omega)
  rw [dst_at h1, dst_at (show i < D.length by omega), h2]
theorem NuP.trans {S : List Dst} {B p ab : Nat} {f : Value} {Q Q1 Q2 : List Nat} {D D1 D2 : List Rec} {w w1 W1 w2 : World} {v1 v2 : Value} {e1 e2 : Int} (h : NuP S B p ab f Q D w w1 Q1 D1 v1 e1) (hb : Below w1.heap.size w1 W1) (k : NuP S B p ab f Q1 D1 W1 w2 Q2 D2 v2 e2) : NuP S B p ab f Q D w w2 Q2 D2 v2 e2 where
  pq := h.pq.trans k.pq
  pd := h.pd.trans k.pd
  len := k.len
  nd := k.nd
  lt := k.lt
  co := fun i hi h2 => by
    rcases Nat.lt_or_ge i Q1.length with h3 | h3
    · exact cmpl_pre k.pq k.pd h.len h3 (h.co i hi h3)
    · exact k.co i h3 h2
  at_ := k.at_
  nt := NT.trans (NT.trans h.nt (NT.of_below hb)) k.nt
  fresh := fun i hi h2 j hj => by
    rcases Nat.lt_or_ge i D1.length with h3 | h3
    · obtain ⟨h4, h5⟩ := pre_get k.pd h3
      rw [h5] at hj
      exact h.fresh i h3 h2 j hj
    · have := k.fresh i hi h3 j hj
      have := h.nt.size
      have := hb.size
      omega
theorem NuP.turn {S : List Dst} {B p ab : Nat} {f v1 : Value} {e1 : Int} {Q Q1 : List Nat} {D D1 : List Rec} {w w1 w2 : World} (h : NuP S B p ab f Q D w w1 Q1 D1 v1 e1) (ha : DwAt w2 B p ab v1 e1 f D1 Q1) (hnt : NT B w w2) : NuP S B p ab f Q D w w2 Q1 D1 v1 e1 :=
  ⟨h.pq, h.pd, h.len, h.nd, h.lt, h.co, ha, hnt, h.fresh⟩
/-- nothing done -/
theorem NuP.same {S : List Dst} {B p ab : Nat} {f v : Value} {e : Int} {Q : List Nat} {D : List Rec} {w : World} (h : DwAt w B p ab v e f D Q) (hl : D.length = Q.length) (hn : Q.Nodup) (hlt : ∀ q ∈ Q, q < S.length) : NuP S B p ab f Q D w w Q D v e :=
  ⟨List.prefix_refl _, List.prefix_refl _, hl, hn, hlt, fun i h1 h2 => by omega, h, NT.refl _ _, fun i h1 h2 => by omega⟩
/-- a state is met, nothing of it done -/
theorem NuP.met {S : List Dst} {B p ab : Nat} {f v' : Value} {e : Int} {Q : List Nat} {D : List Rec} {w w' : World} {s : Nat} {x : Rec} (h : DwAt w' B p ab v' e f (D ++ [x]) (Q ++ [s])) (hl : D.length = Q.length) (hn : Q.Nodup) (hlt : ∀ q ∈ Q, q < S.length) (hs : s ∉ Q) (hss : s < S.length) (hnt : NT B w w') :
    NuP S B p ab f (Q ++ [s]) (D ++ [x]) w w' (Q ++ [s]) (D ++ [x]) v' e :=
  ⟨List.prefix_refl _, List.prefix_refl _, by simp [hl], List.nodup_append.2 ⟨hn, by simp, fun a ha b hb => by rw [List.mem_singleton] at hb; subst hb; rintro rfl; exact hs ha⟩, fun q hq => by
    rcases List.mem_append.1 hq with h1 | h1
    · exact hlt q h1
    · rw [List.mem_singleton] at h1; omega, fun i h1 h2 => by omega, h, hnt, fun i h1 h2 => by omega⟩
/-- the state is filled -/
theorem NuP.filled {S : List Dst} {B p ab : Nat} {f v1 v2 lv : Value} {e1 e2 cn : Int} {Q Q1 : List Nat} {D D1 : List Rec} {w w1 w2 : World} {s : Nat} {x : Rec} {L : List Ed} {b : Bool} (h : NuP S B p ab f (Q ++ [s]) (D ++ [x]) w w1 Q1 D1 v1 e1)
    (hl : D.length = Q.length) (hi : D.length < D1.length) (hS : S.getD s dst0 = (L, b)) (hmem : ∀ e ∈ L, e.2 ∈ Q1) (hb : x.ends = b) (hlv : ∀ k, lv.ownBlock = some k → w.heap.size ≤ k)
    (ha : DwAt w2 B p ab v2 e2 f (D1.set D.length ⟨lv, L.map fun e => (e.1, Q1.idxOf e.2), b, cn⟩) Q1) (hnt : NT B w1 w2) : NuP S B p ab f Q D w w2 Q1 (D1.set D.length ⟨lv, L.map fun e => (e.1, Q1.idxOf e.2), b, cn⟩) v2 e2 := by
  have hlen : (D1.set D.length (⟨lv, L.map fun e => (e.1, Q1.idxOf e.2), b, cn⟩ : Rec)).length = D1.length := List.length_set
  have hpq : Q <+: Q1 := (List.prefix_append _ _).trans h.pq
  have hsQ : Q1.getD Q.length 0 = s := by
    obtain ⟨h1, h2⟩ := pre_get h.pq (show Q.length < (Q ++ [s]).length by simp)
    rw [getD_lt h1, h2]; simp
  refine ⟨hpq, ?_, by rw [hlen]; exact h.len, h.nd, h.lt, fun i h1 h2 => ?_, ha, NT.trans h.nt hnt, fun i h1 h2 k hk => ?_⟩
  · obtain ⟨N, hN⟩ := h.pd
    refine ⟨⟨lv, L.map fun e => (e.1, Q1.idxOf e.2), b, cn⟩ :: N, ?_⟩
    rw [← hN, List.append_assoc, List.set_append_right _ _ (Nat.le_refl _), Nat.sub_self]
    rfl
  · by_cases hq : i = Q.length
    · subst hq
      unfold cmpl
      rw [hsQ, hS]
      refine ⟨hmem, ?_⟩
      rw [dst_at (by rw [hlen, h.len]; exact h2)]
      rw [List.getElem_set, if_pos hl]
      rfl
    · have h3 := h.co i (by simp; omega) h2
      unfold cmpl at h3 ⊢
      rw [dst_at (by rw [h.len]; exact h2)] at h3
      rw [dst_at (by rw [hlen, h.len]; exact h2), List.getElem_set, if_neg (by omega)]
      exact h3
  · rw [List.getElem_set] at hk
    split at hk
    · exact hlv k hk
    · exact h.fresh i (by rw [hlen] at h1; exact h1) (by simp; omega) k hk
/-- **laid out whole** -/
theorem NuP.dawg {R : List Rec} {B p ab : Nat} {f v : Value} {e : Int} {Q : List Nat} {D : List Rec} {w w' : World} (h : NuP (R.map dstR) B p ab f [] [] w w' Q D v e) (h0 : 0 ∈ Q) (hq0 : Q.idxOf 0 = 0) (hris : ∀ q, risE ((R.map dstR).getD q dst0).1) (hok : ∀ i (h : i < R.length), okE R[i].out) (hfew : ∀ i (h : i < R.length), R[i].out.length ≤ R.length) (hn : R.length ≤ 4500000) :
    DawgAt w' p D ∧ ∀ u, acc (R.map dstR) 0 u = true → acc (D.map dstR) 0 u = true := by
  have hco : ∀ i, i < Q.length → cmpl (R.map dstR) Q (D.map dstR) i := fun i hi => h.co i (Nat.zero_le _) hi
  have hlq : ∀ i, i < Q.length → Q.getD i 0 < R.length := fun i hi => by
    have := h.lt _ (getD_memN hi)
    rwa [List.length_map] at this
  have hout : ∀ i (hi : i < D.length), D[i].out = ((R[Q.getD i 0]'(hlq i (by rw [← h.len]; exact hi))).out).map fun e => (e.1, Q.idxOf e.2) := fun i hi => by
    have h1 := hco i (by rw [← h.len]; exact hi)
    unfold cmpl at h1
    rw [dst_at hi, dst_at (hlq i (by rw [← h.len]; exact hi))] at h1
    exact congrArg (·.1) h1.2
  have hmem : ∀ i (hi : i < Q.length), ∀ e ∈ (R[Q.getD i 0]'(hlq i hi)).out, e.2 ∈ Q := fun i hi e he => by
    have h1 := hco i hi
    unfold cmpl at h1
    rw [dst_at (hlq i hi)] at h1
    exact h1.1 e he
  have hql := nodup_le h.nd h.lt
  rw [List.length_map] at hql
  refine ⟨⟨⟨v, e, f, h.at_.blk, h.at_.sts, h.at_.outs⟩, ?_, ?_, ?_, ?_, ?_, ?_⟩, fun u hu => ?_⟩
  · rw [h.len]; exact List.length_pos_of_mem h0
  · intro q e he
    rw [List.length_map]
    by_cases hq : q < D.length
    · rw [dst_at hq] at he
      have he : e ∈ D[q].out := he
      rw [hout q hq] at he
      obtain ⟨e', he', rfl⟩ := List.mem_map.1 he
      rw [h.len]
      exact List.idxOf_lt_length_of_mem (hmem q (by rw [← h.len]; exact hq) e' he')
    · rw [List.getD_eq_getElem?_getD, List.getElem?_eq_none (by rw [List.length_map]; omega)] at he
      cases he
  · intro i hi
    rw [hout i hi]
    have h1 := hris (Q.getD i 0)
    rw [dst_at (hlq i (by rw [← h.len]; exact hi))] at h1
    unfold risE at h1 ⊢
    rw [List.pairwise_map]
    exact h1
  · intro i hi e he
    rw [hout i hi] at he
    obtain ⟨e', he', rfl⟩ := List.mem_map.1 he
    exact hok _ (hlq i (by rw [← h.len]; exact hi)) e' he'
  · intro i hi
    rw [hout i hi, List.length_map]
    have := hfew _ (hlq i (by rw [← h.len]; exact hi))
    omega
  · rw [h.len]; omega
  · have := acc_cmpl hco u 0 h0
    rw [hq0] at this
    rw [this]; exact hu
end Go.Proofs.YteigplfldhdakaaGreatDoor
