/- dawg: number. -/
import Derived.Test.YteigplfldhdakaaGreatDoorD25
import Derived.Test.YteigplfldhdakaaGreatDoorD22
import Derived.Test.YteigplfldhdakaaGreatDoorD14
import Derived.Test.YteigplfldhdakaaGreatDoorD21
import Derived.Deep.RegionWith
set_option linter.unusedVariables false
set_option linter.unusedSimpArgs false
namespace Go.Proofs.YteigplfldhdakaaGreatDoor
open Go.RowKit Go.Shelf Dw MapKept
attribute [local go_sem ↓] Go.wp_at_zero Go.wp_at_succ
/-- append, which the walk leaves as it is -/
def appDn3 (ts : Array TypeId) (t : TypeId) (args : Array Value) : Sem Value := Go.Builtin.append_ ts t args
theorem appDn3_eq (ts : Array TypeId) (t : TypeId) (args : Array Value) : Go.Builtin.append_ ts t args = appDn3 ts t args := rfl
attribute [local go_sem ↓] appDn3_eq
def NumP (R : List Rec) (B p ab : Nat) (f : Value) (Q : List Nat) (D : List Rec) (s : Nat) (w : World) (e : Ending) (w' : World) : Prop :=
  ∃ Q' D' v' e1, NuP (R.map dstR) B p ab f Q D w w' Q' D' v' e1 ∧ s ∈ Q' ∧ (s ∉ Q → Q'.idxOf s = Q.length) ∧ e = .returned (.int .i64 ((Q'.idxOf s : Nat) : Int))
set_option maxRecDepth 100000 in
set_option maxHeartbeats 4000000 in
theorem number_found {R : List Rec} {w : World} {B p ab s : Nat} {v f dv : Value} {e : Int} {D : List Rec} {Q : List Nat} (h : DwAt w B p ab v e f D Q) (hl : D.length = Q.length) (hn : Q.Nodup) (hlt : ∀ q ∈ Q, q < R.length) (hs : s ∈ Q) :
    Calls Tryz.prog 71 #[.pointer (some ⟨p, 0, none⟩), dv, .int .i64 (s : Int), .map (some ab)] w (NumP R B p ab f Q D s w) := by
  have hlk := lookV_ok Tryz.underlying169 Tryz.underlying3 h.map (k := .int .i64 (s : Int)) rfl
  obtain ⟨h1, h2⟩ := atF_some Q 0 hs
  rw [h1] at hlk
  dsimp only at hlk
  rw [h2, Nat.zero_add] at hlk
  have HN := hid (NuP.same (S := R.map dstR) h hl hn (fun q hq => by rw [List.length_map]; exact hlt q hq))
  have HS := hid hs
  clear h hl hn hlt hs h1 h2
  go_enter Tryz.func71, Tryz.ntmps71
  go_wp2
  go_ret
  exact ⟨Q, D, v, e, HN.out, HS.out, fun h => absurd HS.out h, by simp⟩
set_option maxRecDepth 100000 in
set_option maxHeartbeats 32000000 in
theorem number_c {wb : World} {Bd dp mb p ab g0 off0 nR cR : Nat} {R : List Rec} {M : List Ke} {f : Value} (hR : DrAt wb Bd dp (.slice (some ⟨g0, off0, none⟩) nR cR) mb R M) (hin : inR (R.map dstR)) (hfew : ∀ i (h : i < R.length), R[i].out.length ≤ R.length) (hlen : R.length ≤ 4500000) :
    ∀ (k : Nat) (w : World) (Q : List Nat) (D : List Rec) (v : Value) (e : Int) (s : Nat), R.length - Q.length ≤ k → Below wb.heap.size wb w → DwAt w wb.heap.size p ab v e f D Q → D.length = Q.length → Q.Nodup → (∀ q ∈ Q, q < R.length) → s < R.length →
      Calls Tryz.prog 71 #[.pointer (some ⟨p, 0, none⟩), .pointer (some ⟨dp, 0, none⟩), .int .i64 (s : Int), .map (some ab)] w (NumP R wb.heap.size p ab f Q D s w) := by
  have HDR := hid hR
  have HIN := hid hin
  have HFEW := hid hfew
  clear hR hin hfew
  intro k
  induction k with
  | zero =>
    intro w Q D v e s hk hb hd hl hn hlt hs
    by_cases hq : s ∈ Q
    · exact number_found hd hl hn hlt hq
    · have := nodup_lt hn hlt hs hq; omega
  | succ fu ih =>
    intro w Q D v e s hk hb hd hl hn hlt hs
    by_cases hq : s ∈ Q
    · exact number_found hd hl hn hlt hq
    have hql := nodup_lt hn hlt hs hq
    have IH := hid ih
    have HB := hid hb
    have HD := hid hd
    have HL := hid hl
    have HNd := hid hn
    have HLT := hid hlt
    have HQ := hid hq
    have hfuel : R.length - (Q.length + 1) ≤ fu := by omega
    have hDl : D.length < 4500000 := by omega
    obtain ⟨vA, vc, rfl, -⟩ := SL.form hd.sts
    -- what is looked up, and put
    have hlk := lookV_ok Tryz.underlying169 Tryz.underlying3 hd.map (k := .int .i64 (s : Int)) rfl
    rw [atF_none Q 0 hq] at hlk
    dsimp only at hlk
    have hup := updV Tryz.underlying169 Tryz.underlying3 hd.map (k := .int .i64 (s : Int)) rfl ((D.length : Nat) : Int)
    have hput := hd.put hq
    rw [← hl] at hput
    obtain ⟨W1, hW1⟩ : ∃ W1, mapPutV w ab (putV (.int .i64 (s : Int)) ((D.length : Nat) : Int) (atF 0 Q)) = W1 := ⟨_, rfl⟩
    rw [hW1] at hup hput
    have HPUT := hid hput
    obtain ⟨b0, -, -, -⟩ := hd.box
    -- the draft's state
    obtain ⟨rs, hrs⟩ : ∃ x, R[s] = x := ⟨_, rfl⟩
    have hdr : ∀ W, Below wb.heap.size wb W → W.cell? ⟨dp, 0, none⟩ = some (.slice (some ⟨g0, off0, none⟩) nR cR) ∧ W.cell? ⟨g0, off0 + s * 3, none⟩ = some rs.sl ∧ W.cell? ⟨g0, off0 + s * 3 + 1, none⟩ = some (.bool rs.ends) ∧ EdS W rs.sl rs.out := fun W hW => by
      have h1 := HDR.out.below hW
      obtain ⟨-, h2, h3, -⟩ := h1.at3' hs
      rw [hrs] at h2 h3
      have h4 := h1.outs s hs
      rw [hrs] at h4
      exact ⟨h1.box.1, h2, h3, h4⟩
    have hsI : (s : Int) < (nR : Int) := by
      obtain ⟨_, _, _, e1⟩ := HDR.out.form (by omega)
      obtain ⟨-, rfl, -⟩ := Value.slice.inj e1
      omega
    have hLl := HFEW.out s hs
    have hLi : ∀ e ∈ rs.out, e.2 < R.length := fun e he => by
      have h1 := HIN.out s e (by rw [dst_at hs]; show e ∈ R[s].out; rw [hrs]; exact he)
      rwa [List.length_map] at h1
    rw [hrs] at hLl
    have hSs : (R.map dstR).getD s dst0 = (rs.out, rs.ends) := by rw [dst_at hs, hrs]; rfl
    have HSS := hid hSs
    have HLI := hid hLi
    have HDr := hid hdr
    have hbW1 : Below wb.heap.size wb W1 := NT.below HPUT.out.2 HB.out (Nat.le_refl _)
    have HBW1 := hid hbW1
    obtain ⟨x0, x1, x2, -⟩ := hdr W1 hbW1
    obtain ⟨y0, y1, y2, -⟩ := hdr (W1.alloc (.cells #[.slice none 0 0, .bool rs.ends, .int .i64 0] 160)) (bthen hbW1 (balloc (Below.refl _ _) _))
    obtain ⟨z0, -, -, -⟩ := HPUT.out.1.box
    obtain ⟨z1, -, -, -⟩ := (HPUT.out.1.below (balloc (Below.refl _ W1) (.cells #[.slice none 0 0, .bool rs.ends, .int .i64 0] 160))).box
    obtain ⟨i1, hi1, hy0, hy1, hy2⟩ := info_parts info160
    obtain ⟨i2, hi2, hu0, hu1, hu2⟩ := info_parts info220
    have hone1 : ∀ u ∈ recC ⟨.slice none 0 0, [], rs.ends, 0⟩, u.oneCell' = true := by simp [recC, Value.oneCell']
    obtain ⟨A5, c5, w5, hr5, hs5, hg5, ho5⟩ := run_append_SLs (P := Tryz.prog) (W1.alloc (.cells #[.slice none 0 0, .bool rs.ends, .int .i64 0] 160)).drew 161 161 160 i1 _ 3 40 Tryz.underlying161 hi1 hy0 hy1 hy2 rfl (by decide) (.slice vA D.length vc) D.length (D.flatMap recC) (SL.alloc HPUT.out.1.sts _) (.slice (some ⟨W1.heap.size, 0, none⟩) 1 1) 1 _ (SL.lit W1 160 3 1 #[.slice none 0 0, .bool rs.ends, .int .i64 0] rfl (by simp [maxLen])) hone1 (by simp only [maxLen]; omega) (by omega)
    rw [appDn3_eq] at hr5
    have hgr := DwAt.grow (b := rs.ends) (HPUT.out.1.below (Below.drew (Below.refl _ W1))) hs5 hg5 ho5
    have hgb := DwAt.grow_box (HPUT.out.1.below (Below.drew (Below.refl _ W1))) hg5
    have q0 : w5.cell? ⟨p, 0, none⟩ = some (.slice vA D.length vc) := by rw [cell_of_row w5 _ 0 _ _ _ hgb]; rfl
    have q1 : w5.frozen? ⟨p, 0, none⟩ = false := frozen_of_row w5 _ _ _ _ hgb
    obtain ⟨d0, hd0⟩ : ∃ d : Rec, (⟨.slice none 0 0, [], rs.ends, 0⟩ : Rec) = d := ⟨_, rfl⟩
    rw [hd0] at hgr
    have HD0 := hid hd0
    have HGR := hid hgr
    clear ih hb hd hl hn hlt hq hput hW1 hrs hdr hLi hSs hbW1 hs5 hg5 ho5 hgr hgb hd0
    obtain ⟨rsl, L, ren, rn⟩ := rs
    dsimp only at x1 x2 y1 y2 hr5 hLl
    go_enter Tryz.func71, Tryz.ntmps71
    cases ren
    all_goals
      go_wp2
      go_region
      obtain ⟨X, hX⟩ : ∃ X, w5.setCell ⟨p, 0, none⟩ (.slice A5 (D.length + 1) c5) = X := ⟨_, rfl⟩
      rw [hX] at HGR ⊢
      have hnt0 : NT wb.heap.size w X := NT.trans (NT.trans HPUT.out.2 (NT.of_below (Below.drew (Below.refl _ W1)))) HGR.out.2
      have hmet := NuP.met (S := R.map dstR) HGR.out.1 HL.out HNd.out (fun q hq => by rw [List.length_map]; exact HLT.out q hq) HQ.out (by rw [List.length_map]; exact hs) hnt0
      have hbX : Below wb.heap.size wb X := NT.below hnt0 HB.out (Nat.le_refl _)
      obtain ⟨k0, k1, k2, k3⟩ := HDr.out X hbX
      try dsimp only at k1 k2 k3
      obtain ⟨sA, sc, rfl, -⟩ := SL.form k3
      have HM := hid hmet
      have HXE := hid k3
      have HBX := hid hbX
      clear x0 x1 x2 y0 y1 y2 z0 z1 hr5 q0 q1 hlk hup b0 hnt0 hmet hbX k3 HGR hX
      go_wp2
      go_loopw [12, 13, 68] (fun cv ov jv wr => ∃ (k : Nat) (Qc : List Nat) (Dc : List Rec) (vc' : Value) (ec : Int) (cn : Int) (A' : Option Addr) (c' : Nat), k ≤ L.length ∧ cv = .int .i64 cn ∧ ov = .slice A' k c' ∧ jv = .int .i64 (k : Int) ∧ Hid (NuP (R.map dstR) wb.heap.size p ab f (Q ++ [s]) (D ++ [d0]) w wr Qc Dc vc' ec) ∧ Hid (∀ e ∈ L.take k, e.2 ∈ Qc) ∧ Hid (EdS wr (.slice A' k c') ((L.take k).map fun e => (e.1, Qc.idxOf e.2))) ∧ Hid (∀ b, (Value.slice A' k c').ownBlock = some b → w.heap.size ≤ b ∧ ∀ i (h : i < Dc.length), Dc[i].sl.ownBlock ≠ some b)) (fun _ _ jv _ => L.length - (intOf jv).toNat)
      case atStart => exact ⟨0, _, _, _, _, _, none, 0, Nat.zero_le _, rfl, rfl, rfl, HM, hid (by simp), hid (SL.nil _ _ _), hid (fun b hb => by simp [Value.ownBlock] at hb)⟩
      case round =>
        obtain ⟨k, Qc, Dc, vc', ec, cn, A', c', hk, rfl, rfl, rfl, HN, HME, HE, HO⟩ := hrel
        clear HM k0 k1 k2
        by_cases hkl : k < L.length
        · have hklI : (k : Int) < (L.length : Int) := by omega
          have hbr : Below wb.heap.size wb wr := NT.below HN.out.nt HB.out (Nat.le_refl _)
          obtain ⟨ge, oe, hA, -, f0, f1⟩ := EdS.at2 (HDr.out wr hbr).2.2.2 hkl
          cases hA
          have hto := HLI.out _ (List.getElem_mem hkl)
          have htk : L.take (k + 1) = L.take k ++ [L[k]] := by rw [List.take_add_one, List.getElem?_eq_getElem hkl]; rfl
          obtain ⟨x, hx⟩ : ∃ x, L[k] = x := ⟨_, rfl⟩
          rw [hx] at f0 f1 hto htk
          obtain ⟨r, tg⟩ := x
          dsimp only at f0 f1 hto
          have HTK := hid htk
          have hqc : Q.length + 1 ≤ Qc.length := by have := HN.out.pq.length_le; simpa using this
          have hdc : D.length + 1 ≤ Dc.length := by have := HN.out.pd.length_le; simpa using this
          have hba := balloc (Below.refl _ wr) (.cells #[.int .i32 r, .int .i64 (tg : Int)] 220)
          have hcall := IH.out (wr.alloc (.cells #[.int .i32 r, .int .i64 (tg : Int)] 220)) Qc Dc vc' ec tg (by omega) (hbr.trans (hba.mono hbr.size)) (HN.out.at_.below hba) HN.out.len HN.out.nd (fun q hq => by have := HN.out.lt q hq; rwa [List.length_map] at this) hto
          have HCALL := hid hcall
          have HBA := hid hba
          have HBR := hid hbr
          have hE1 := HE.out.below hba
          have HE1 := hid hE1
          clear htk hx hcall hba hbr hE1 HE
          have hkml : k ≤ L.length := hk
          have h63 : k + 1 ≤ maxLen := by simp only [maxLen]; omega
          have hby : (k + 1) * 16 ≤ 140737488355328 := by omega
          go_wp2_with (first
            | (go_at_call 71; refine HCALL.out.mono ?_; rintro e9 w3 ⟨Q2, D2, v2, e2, hnu, hmem, -, he9⟩; obtain ⟨ix, hix⟩ : ∃ x, Q2.idxOf tg = x := ⟨_, rfl⟩; rw [hix] at he9; subst he9; have HNU := hid hnu; have HMEM := hid hmem; have HIX := hid hix; have hixl : ix < D2.length := (by rw [hnu.len, ← hix]; exact List.idxOf_lt_length_of_mem hmem); have hbx : w3.heap[wr.heap.size]? = some (.cells #[.int .i32 r, .int .i64 (tg : Int)] 220 (0, 0)) := (hnu.nt.block _ (by rw [World.size_alloc]; omega) (fun hh => hh.2 ⟨_, _, heap_alloc_new _ _, by decide, by decide⟩)).trans (heap_alloc_new _ _); have x0 : w3.cell? ⟨wr.heap.size, 0, none⟩ = some (.int .i32 r) := (by rw [cell_of_row w3 _ 0 _ _ _ hbx]; rfl); have HE3 := hid (HE1.out.nt hnu.nt); have HE4 : Hid (SL w3 220 2 (.slice A' k c') k (((L.take k).map fun e => (e.1, Qc.idxOf e.2)).flatMap edC)) := hid (by have h9 := HE3.out; unfold EdS at h9; rw [List.length_map, List.length_take, Nat.min_eq_left hkml] at h9; exact h9); have HL4 := hid (SL.lit w3 220 2 1 #[.int .i32 r, .int .i64 (ix : Int)] rfl (by simp [maxLen])); have hone4 : ∀ u ∈ [Value.int .i32 r, Value.int .i64 (ix : Int)], u.oneCell' = true := (by simp [Value.oneCell']); have HAP : Hid (∀ i (hi : i < D2.length), ∀ b, D2[i].sl.ownBlock = some b → (Value.slice A' k c').ownBlock ≠ some b) := hid (fun i hi b hb hb2 => by
                rcases Nat.lt_or_ge i Dc.length with h3 | h3
                · obtain ⟨h4, h5⟩ := pre_get HNU.out.pd h3
                  rw [h5] at hb
                  exact (HO.out b hb2).2 i h3 hb
                · have h6 := HNU.out.fresh i hi h3 b hb
                  have h7 := SL.lt HE1.out b hb2
                  omega); clear hnu hmem hbx hix)
            | (at_builtin; refine wpList_append_SLs rfl _ _ _ rfl 220 i2 _ 2 16 Tryz.underlying158 hi2 hu0 hu1 hu2 rfl (by decide) (.slice A' k c') k _ rfl (HE4.out.alloc _) _ 1 _ rfl HL4.out hone4 (k + 1) _ rfl rfl h63 hby ?_; intro A6 c6 w6 hs6 hg6 ho6; have HD6 := hid (HNU.out.at_.local HE3.out HAP.out hg6); have HS6 := hid hs6; have HG6 := hid hg6; have HO6 := hid ho6; obtain ⟨g2, off2, cc2, hv2⟩ := HD6.out.form (by omega); subst hv2; have hixI : (ix : Int) < (D2.length : Int) := (by omega); obtain ⟨-, -, -, s2, -⟩ := HD6.out.at3 hixl; obtain ⟨b0, -, -, -⟩ := HD6.out.box; clear hs6 hg6 ho6))
          have hn3 := HN.out.trans HBA.out HNU.out
          have hw3 := hn3.nt.size
          have hnt6 : NT wb.heap.size w w6 := Touch.grown (Touch.alloc hn3.nt _) HG6.out (fun b hb => .inr (HO.out b hb).1)
          have hmp : (L.take (k + 1)).map (fun e => (e.1, Q2.idxOf e.2)) = (L.take k).map (fun e => (e.1, Qc.idxOf e.2)) ++ [(r, ix)] := by
            rw [HTK.out, List.map_append, List.map_singleton, HIX.out]
            congr 1
            exact List.map_congr_left fun e he => by rw [(pre_idx HNU.out.pq (HME.out e he)).2]
          refine ⟨⟨k + 1, Q2, D2, _, _, _, A6, c6, by omega, rfl, rfl, by simp, hid (hn3.turn HD6.out hnt6), hid ?_, hid ?_, hid ?_⟩, by simp [intOf]; omega⟩
          · rw [HTK.out]
            intro e he
            rcases List.mem_append.1 he with h1 | h1
            · exact (pre_idx HNU.out.pq (HME.out e h1)).1
            · rw [List.mem_singleton] at h1; subst h1; exact HMEM.out
          · unfold EdS
            rw [hmp, List.length_append, List.length_map, List.length_take, Nat.min_eq_left hkml, List.length_singleton, List.flatMap_append, List.flatMap_singleton]
            exact HS6.out
          · intro b hb
            rcases HO6.out b hb with h1 | h1
            · exact ⟨(HO.out b h1).1, fun i hi e => HAP.out i hi b e h1⟩
            · rw [World.size_alloc] at h1
              refine ⟨by omega, fun i hi e => ?_⟩
              have := SL.lt (HNU.out.at_.outs i hi) b e
              omega
        · obtain rfl : k = L.length := by omega
          have hklI : ¬ (L.length : Int) < (L.length : Int) := by omega
          have hdc : D.length + 1 ≤ Dc.length := by have := HN.out.pd.length_le; simpa using this
          have hdl : D.length < Dc.length := by omega
          obtain ⟨gc, offc, cc, hvc⟩ := HN.out.at_.form (by omega)
          subst hvc
          obtain ⟨b0, -, -, -⟩ := HN.out.at_.box
          obtain ⟨-, t0, -, t2, tf⟩ := HN.out.at_.at3 hdl
          have tf0 := tf (offc + D.length * 3)
          have tf2 := tf (offc + D.length * 3 + 2)
          have hdI : (D.length : Int) < (Dc.length : Int) := by omega
          have hE2 := HE.out
          rw [List.take_length] at hE2
          have hfl := HN.out.at_.fill hE2 hdl cn
          obtain ⟨Z, hZ⟩ : ∃ Z, ((wr.setCell ⟨gc, offc + D.length * 3, none⟩ (.slice A' L.length c')).setCell ⟨gc, offc + D.length * 3 + 2, none⟩ (.int .i64 cn)) = Z := ⟨_, rfl⟩
          rw [hZ] at hfl
          obtain ⟨u0, u1, u2, -⟩ := hfl.1.box
          have uf := u2 1
          have hct := hfl.1.count (wrap64 (ec + (L.length : Int)))
          have HFL := hid hfl
          have HZ := hid hZ
          have HCT := hid hct
          clear tf u2 hE2 hfl hZ hct
          go_wp2
          go_region
          rw [HZ.out]
          go_wp2
          have hends : Dc[D.length].ends = d0.ends := by
            obtain ⟨h1, h2⟩ := pre_get HN.out.pd (show D.length < (D ++ [d0]).length by simp)
            rw [h2]; simp
          have hfl2 := HFL.out
          have hct2 := HCT.out
          rw [hends] at hct2
          have hnt : NT wb.heap.size wr (Z.setCell ⟨p, 1, none⟩ (.int .i64 (wrap64 (ec + (L.length : Int))))) := NT.trans hfl2.2 hct2.2
          have hsm := (pre_idx HN.out.pq (show s ∈ Q ++ [s] by simp))
          have hix : (Q ++ [s]).idxOf s = D.length := by
            rw [List.idxOf_append, if_neg HQ.out, HL.out]; simp
          have hme := HME.out
          rw [List.take_length] at hme
          rw [← HD0.out] at hct2
          have hdl2 := HL.out
          go_ret
          refine ⟨Qc, _, _, _, NuP.filled HN.out hdl2 hdl HSS.out hme (by rw [← HD0.out]) (fun b hb => (HO.out b hb).1) (hct2.1.below (Below.drew (Below.refl _ _))) (Touch.drew hnt), hsm.1, fun _ => by rw [hsm.2, hix, hdl2], ?_⟩
          rw [hsm.2, hix]
          simp
end Go.Proofs.YteigplfldhdakaaGreatDoor
/- dawg: New. -/
namespace Go.Proofs.YteigplfldhdakaaGreatDoor
open Go.RowKit Go.Shelf Dw MapKept
attribute [local go_sem ↓] Go.wp_at_zero Go.wp_at_succ
/-- append, which the walk leaves as it is -/
def appDn4 (ts : Array TypeId) (t : TypeId) (args : Array Value) : Sem Value := Go.Builtin.append_ ts t args
theorem appDn4_eq (ts : Array TypeId) (t : TypeId) (args : Array Value) : Go.Builtin.append_ ts t args = appDn4 ts t args := rfl
attribute [local go_sem ↓] appDn4_eq
theorem draft_start {w : World} {B : Nat} (hB : B ≤ w.heap.size) : DrAt (((w.alloc (.cells #[.slice none 0 0, .bool false, .int .i64 0] 160)).alloc (.map #[] 0)).alloc (.cells #[.slice (some ⟨w.heap.size, 0, none⟩) 1 1, .map (some (w.heap.size + 1))] 163)) B (w.heap.size + 1 + 1) (.slice (some ⟨w.heap.size, 0, none⟩) 1 1) (w.heap.size + 1) [rec0] [] := by
  have hs1 : (w.alloc (.cells #[.slice none 0 0, .bool false, .int .i64 0] 160)).heap.size = w.heap.size + 1 := World.size_alloc _ _
  have hs2 : ((w.alloc (.cells #[.slice none 0 0, .bool false, .int .i64 0] 160)).alloc (.map #[] 0)).heap.size = w.heap.size + 1 + 1 := by rw [World.size_alloc, hs1]
  refine ⟨?_, ?_, ?_, ?_, ⟨?_, by simp⟩, by omega, by omega, fun k hk => ?_, ?_⟩
  · have := heap_alloc_new ((w.alloc (.cells #[.slice none 0 0, .bool false, .int .i64 0] 160)).alloc (.map #[] 0)) (.cells #[.slice (some ⟨w.heap.size, 0, none⟩) 1 1, .map (some (w.heap.size + 1))] 163)
    rw [hs2] at this
    exact this
  · have := SL.lit w 160 3 1 #[.slice none 0 0, .bool false, .int .i64 0] rfl (by simp [maxLen])
    exact SL.alloc (SL.alloc this _) _
  · intro i hi
    obtain rfl : i = 0 := by simpa using hi
    exact SL.nil _ _ _
  · intro i j hi hj hne
    simp at hi hj
    omega
  · rw [Below.heap_alloc _ _ _ (by omega)]
    have := heap_alloc_new (w.alloc (.cells #[.slice none 0 0, .bool false, .int .i64 0] 160)) (.map #[] 0)
    rw [hs1] at this
    exact this
  · cases hk; exact hB
  · intro i hi k hk
    obtain rfl : i = 0 := by simpa using hi
    simp [rec0, Value.ownBlock] at hk
theorem dawg_start (w : World) : DwAt ((w.alloc (.cells #[.slice none 0 0, .int .i64 0, .slice none 0 0] 167)).alloc (.map #[] 0)) w.heap.size w.heap.size (w.heap.size + 1) (.slice none 0 0) 0 (.slice none 0 0) [] [] := by
  have hs1 : (w.alloc (.cells #[.slice none 0 0, .int .i64 0, .slice none 0 0] 167)).heap.size = w.heap.size + 1 := World.size_alloc _ _
  refine ⟨?_, SL.nil _ _ _, fun i hi => by simp at hi, ⟨?_, by simp [atF]⟩, by omega, by omega, fun k hk => by simp [Value.ownBlock] at hk⟩
  · rw [Below.heap_alloc _ _ _ (by omega)]
    exact heap_alloc_new _ _
  · have := heap_alloc_new (w.alloc (.cells #[.slice none 0 0, .int .i64 0, .slice none 0 0] 167)) (.map #[] 0)
    rw [hs1] at this
    exact this
/-- one frequency more -/
theorem freq_step {w W W2 : World} {p i : Nat} {v : Value} {e : Int} {D : List Rec} {A A2 : Option Addr} {c c2 : Nat} {xs ys : List Value} {o : Obj} (h : W.heap[p]? = some (.cells #[v, .int .i64 e, .slice A i c] 167 (0, 0))) (hs : StsAt W v D) (hx : SL W 3 1 (.slice A i c) i xs) (ho : ∀ k, (Value.slice A i c).ownBlock = some k → w.heap.size ≤ k) (hb : Below w.heap.size w W) (hp : w.heap.size ≤ p)
    (hs2 : SL W2 3 1 (.slice A2 (i + 1) c2) (i + 1) ys) (hg : (W.alloc o).grownBy W2 (Value.slice A i c).ownBlock) (ho2 : ∀ k, (Value.slice A2 (i + 1) c2).ownBlock = some k → (Value.slice A i c).ownBlock = some k ∨ (W.alloc o).heap.size ≤ k) :
    W2.cell? ⟨p, 2, none⟩ = some (.slice A i c) ∧ W2.frozen? ⟨p, 2, none⟩ = false ∧ (W2.setCell ⟨p, 2, none⟩ (.slice A2 (i + 1) c2)).heap[p]? = some (.cells #[v, .int .i64 e, .slice A2 (i + 1) c2] 167 (0, 0)) ∧ StsAt (W2.setCell ⟨p, 2, none⟩ (.slice A2 (i + 1) c2)) v D ∧
      SL (W2.setCell ⟨p, 2, none⟩ (.slice A2 (i + 1) c2)) 3 1 (.slice A2 (i + 1) c2) (i + 1) ys ∧ (∀ k, (Value.slice A2 (i + 1) c2).ownBlock = some k → w.heap.size ≤ k) ∧ Below w.heap.size w (W2.setCell ⟨p, 2, none⟩ (.slice A2 (i + 1) c2)) := by
  have hsz : (W.alloc o).heap.size = W.heap.size + 1 := World.size_alloc _ _
  have hbs := hb.size
  have hty : ∀ (k : Nat) (cur : Array Value) (e : TypeId), W.heap[k]? = some (.cells cur e (0, 0)) → e ≠ 3 → W2.heap[k]? = W.heap[k]? := fun k cur e hc he => by
    refine (hg.block k (by have := blk_lt hc; omega) fun e2 => ?_).trans (Below.heap_alloc W o k (blk_lt hc))
    obtain ⟨cur', hc'⟩ := SL.typed hx k e2.symm
    exact ne_type hc hc' he rfl
  have h2 := (hty _ _ _ h (by decide)).trans h
  have hset : ∀ {t sz n u zs}, SL W2 t sz u n zs → t ≠ 167 → SL (W2.setCell ⟨p, 2, none⟩ (.slice A2 (i + 1) c2)) t sz u n zs := fun h1 he => SL.keep h1 fun k hk => by
    obtain ⟨cur, hc⟩ := SL.typed h1 k hk
    exact Below.heap_setCell _ _ _ _ (ne_type hc h2 he)
  have hup : ∀ {t sz n u zs}, SL W t sz u n zs → t ≠ 3 → SL W2 t sz u n zs := fun h1 he => SL.keep h1 fun k hk => by
    obtain ⟨cur, hc⟩ := SL.typed h1 k hk
    exact hty k cur _ hc he
  have hown : ∀ k, (Value.slice A2 (i + 1) c2).ownBlock = some k → w.heap.size ≤ k := fun k hk => by
    rcases ho2 k hk with h1 | h1
    · exact ho k h1
    · omega
  refine ⟨by rw [cell_of_row W2 _ 2 _ _ _ h2]; rfl, frozen_of_row W2 _ _ _ _ h2, ?_, ⟨hset (hup hs.base (by decide)) (by decide), fun j hj => hset (hup (hs.outs j hj) (by decide)) (by decide)⟩, hset hs2 (by decide), hown, ?_⟩
  · have := heap_setCell_same W2 p 2 _ 167 (.slice A2 (i + 1) c2) h2
    exact this
  · have h3 : Below w.heap.size w W2 := (balloc hb o).grown hg (by omega) fun k hk => ho k hk
    exact h3.trans ⟨rfl, rfl, rfl, by simp [World.setCell], fun k hk => Below.heap_setCell _ _ _ _ (by show k ≠ p; omega)⟩
/-- what New hands back -/
def NewP (L : List Wd) (w : World) (e : Ending) (w' : World) : Prop :=
  Below w.heap.size w w' ∧ ∃ p D, e = .returned (.tuple #[.pointer (some ⟨p, 0, none⟩), .int .i64 0]) ∧ DawgAt w' p D ∧ ∀ x ∈ L, acc (D.map dstR) 0 (wrs x) = true
set_option maxRecDepth 100000 in
set_option maxHeartbeats 16000000 in
theorem new_c {w : World} {lv : Value} {L : List Wd} (hw : WdS w lv L) (hL : ∀ x ∈ L, lawW x) (hr : risW L) (hl : L.length ≤ 65536) (hT : Tab w) :
    Calls Tryz.prog 40 #[lv] w (NewP L w) := by
  obtain ⟨lA, lc, rfl, -⟩ := SL.form hw
  have HW := hid hw
  have HL := hid hL
  have HR := hid hr
  have HT := hid hT
  have HIS := hid (isW_c hw hL hr hT hl)
  clear hw hL hr hT
  have hmm := @run_makeMap Tryz.prog
  go_enter Tryz.func40, Tryz.ntmps40
  go_wp2_with (first
    | (go_at_call 69; refine HIS.out.mono ?_; rintro e w1 ⟨rfl, hb1⟩; have HB1 := hid hb1; clear hb1)
    | (go_at_call 70; refine (make_dr_c (w0 := w) (bthen HB1.out (balloc (balloc (balloc (Below.refl _ w1) _) _) _)) (draft_start HB1.out.size) HW.out HL.out HR.out hl HT.out).mono ?_; rintro e w5 ⟨rfl, hb5, v5, R, M, P, pw, hRl, hdr, hfi⟩; have hR0 : 0 < R.length := (by have h1 := hfi.lt _ (getD_memN (P := P) (i := 0) hfi.pos); have h2 := hfi.di.root; omega); obtain ⟨g5, o5, c5, hv5⟩ := hdr.form hR0; subst hv5; have HB5 := hid hb5; have HDR := hid hdr; have HFI := hid hfi; have HNUM : Hid (Calls Tryz.prog 71 #[.pointer (some ⟨w5.heap.size, 0, none⟩), .pointer (some ⟨w1.heap.size + 1 + 1, 0, none⟩), .int .i64 0, .map (some (w5.heap.size + 1))] ((w5.alloc (.cells #[.slice none 0 0, .int .i64 0, .slice none 0 0] 167)).alloc (.map #[] 0)) (NumP R w5.heap.size w5.heap.size (w5.heap.size + 1) (.slice none 0 0) [] [] 0 ((w5.alloc (.cells #[.slice none 0 0, .int .i64 0, .slice none 0 0] 167)).alloc (.map #[] 0)))) := hid (number_c hdr hfi.di.inr hfi.few (by omega) R.length _ [] [] _ _ 0 (by simp) (balloc (balloc (Below.refl _ w5) _) _) (dawg_start w5) rfl (by simp) (by simp) hR0); clear hb5 hdr hfi)
    | (go_at_call 71; refine HNUM.out.mono ?_; rintro e w6 ⟨Q, D, v6, e6, hnu, h0, hq0, rfl⟩; have HNU := hid hnu; have H0 := hid h0; have HQ0 := hid (hq0 (by simp)); clear hnu h0 hq0))
  obtain ⟨p, hp⟩ : ∃ p, w5.heap.size = p := ⟨_, rfl⟩
  have hwp : w.heap.size ≤ p := by rw [← hp]; exact HB5.out.size
  have hdw := HNU.out.dawg H0.out HQ0.out HFI.out.di.ris HFI.out.ok HFI.out.few (by omega)
  have hat := HNU.out.at_
  rw [hp] at hdw hat ⊢
  have hb6 : Below w.heap.size w w6 := NT.below HNU.out.nt (bthen HB5.out (balloc (balloc (Below.refl _ w5) _) _)) HB5.out.size
  have HDW := hid hdw
  have HAT := hid hat
  have HB6 := hid hb6
  clear hdw hat hb6 HNUM
  go_loopw [30] (fun iv wr => ∃ (i : Nat) (v : Value) (e : Int) (A : Option Addr) (c : Nat) (xs : List Value), i ≤ L.length ∧ iv = .int .i64 (i : Int) ∧ Hid (wr.heap[p]? = some (.cells #[v, .int .i64 e, .slice A i c] 167 (0, 0))) ∧ Hid (StsAt wr v D) ∧ Hid (SL wr 3 1 (.slice A i c) i xs) ∧ Hid (∀ k, (Value.slice A i c).ownBlock = some k → w.heap.size ≤ k) ∧ Hid (Below w.heap.size w wr)) (fun iv _ => L.length - (intOf iv).toNat)
  case atStart => exact ⟨0, _, _, none, 0, [], Nat.zero_le _, rfl, hid HAT.out.blk, hid ⟨HAT.out.sts, HAT.out.outs⟩, hid (SL.nil _ _ _), hid (fun k hk => by simp [Value.ownBlock] at hk), HB6⟩
  case round =>
    obtain ⟨i, v, e, A, c, xs, hi, rfl, H1, H2, H3, H4, HB⟩ := hrel
    by_cases hil : i < L.length
    · have hilI : (i : Int) < (L.length : Int) := by omega
      obtain ⟨g, off, hA, -, f0, f1⟩ := WdS.at2 (HW.out.below HB.out) hil
      subst hA
      obtain ⟨x, hx⟩ : ∃ x, L[i] = x := ⟨_, rfl⟩
      rw [hx] at f0 f1
      clear hx
      obtain ⟨ts, tn⟩ := x
      dsimp only at f0 f1
      have hb1 := balloc (Below.refl _ wr) (.cells #[.string ts, .int .i64 tn] 81)
      have hn1 := heap_alloc_new wr (.cells #[.string ts, .int .i64 tn] 81)
      obtain ⟨W1, hW1⟩ : ∃ W1, wr.alloc (.cells #[.string ts, .int .i64 tn] 81) = W1 := ⟨_, rfl⟩
      rw [hW1] at hb1 hn1
      have hp1 := (hb1.block p (blk_lt H1.out)).trans H1.out
      have hb2 := balloc (Below.refl _ W1) (.cells #[.int .i64 tn] 3)
      have hp2 := (hb2.block p (blk_lt hp1)).trans hp1
      have hn2 := (hb2.block _ (blk_lt hn1)).trans hn1
      have p1 : W1.cell? ⟨p, 2, none⟩ = some (.slice A i c) := by rw [cell_of_row W1 _ 2 _ _ _ hp1]; rfl
      have p2 : (W1.alloc (.cells #[.int .i64 tn] 3)).cell? ⟨p, 2, none⟩ = some (.slice A i c) := by rw [cell_of_row _ _ 2 _ _ _ hp2]; rfl
      have n1 : W1.cell? ⟨wr.heap.size, 1, none⟩ = some (.int .i64 tn) := by rw [cell_of_row W1 _ 1 _ _ _ hn1]; rfl
      have n2 : (W1.alloc (.cells #[.int .i64 tn] 3)).cell? ⟨wr.heap.size, 1, none⟩ = some (.int .i64 tn) := by rw [cell_of_row _ _ 1 _ _ _ hn2]; rfl
      obtain ⟨i3, hi3, hs0, hs1, hs2⟩ := info_parts info3b
      have hone : ∀ u ∈ [Value.int .i64 tn], u.oneCell' = true := by simp [Value.oneCell']
      have hSL1 : SL W1 3 1 (.slice A i c) i xs := SL.keep H3.out fun k hk => hb1.block k (SL.lt H3.out k hk)
      have hst1 := StsAt.below H2.out hb1
      obtain ⟨A7, c7, w7, hr7, hs7, hg7, ho7⟩ := run_append_SLs (P := Tryz.prog) (W1.alloc (.cells #[.int .i64 tn] 3)).drew 165 165 3 i3 _ 1 8 Tryz.underlying165 hi3 hs0 hs1 hs2 rfl (by decide) (.slice A i c) i xs (SL.alloc hSL1 _) (.slice (some ⟨W1.heap.size, 0, none⟩) 1 1) 1 _ (SL.lit W1 3 1 1 #[.int .i64 tn] rfl (by simp [maxLen])) hone (by simp only [maxLen]; omega) (by omega)
      rw [appDn4_eq] at hr7
      have hfs := freq_step (w := w) (W := W1.drew) (o := .cells #[.int .i64 tn] 3) hp1 (hst1.below (Below.drew (Below.refl _ W1))) hSL1 H4.out (Below.drew (bthen HB.out hb1)) hwp hs7 hg7 ho7
      obtain ⟨q0, q1, q2, q3, q4, q5, q6⟩ := hfs
      have HQ2 := hid q2
      have HQ3 := hid q3
      have HQ4 := hid q4
      have HQ5 := hid q5
      have HQ6 := hid q6
      have HW1 := hid hW1
      clear hb1 hn1 hp1 hb2 hp2 hn2 hSL1 hst1 hs7 hg7 ho7 q2 q3 q4 q5 q6 hW1
      go_wp2
      rw [HW1.out]
      go_region
      go_wp2
      exact ⟨⟨i + 1, v, e, A7, c7, _, by omega, by simp, HQ2, HQ3, HQ4, HQ5, HQ6⟩, by simp [intOf]; omega⟩
    · obtain rfl : i = L.length := by omega
      have hilI : ¬ (L.length : Int) < (L.length : Int) := by omega
      go_wp2
      go_ret2
      obtain ⟨hdw, hac⟩ := HDW.out
      refine ⟨HB.out, p, D, by simp, ⟨⟨_, _, _, H1.out, H2.out⟩, hdw.ne, hdw.inr, hdw.ris, hdw.ok, hdw.few, hdw.len⟩, fun x hx => hac _ (HFI.out.di.done _ (List.mem_map.2 ⟨x, hx, rfl⟩))⟩
end Go.Proofs.YteigplfldhdakaaGreatDoor
/- model.Check, correct.own, New, Knows. -/
namespace Go.Proofs.YteigplfldhdakaaGreatDoor
open Go.RowKit Go.Shelf Dw
attribute [local go_sem ↓] Go.wp_at_zero Go.wp_at_succ
theorem two_cells {w W : World} {u v : Value} {t : TypeId} {lo : Nat} (hlo : w.heap.size + 1 ≤ lo) (hW : Below lo (w.alloc (.cells #[u, v] t)) W) : W.cell? ⟨w.heap.size, 0, none⟩ = some u ∧ W.cell? ⟨w.heap.size, 1, none⟩ = some v ∧ W.frozen? ⟨w.heap.size, 0, none⟩ = false ∧ W.frozen? ⟨w.heap.size, 1, none⟩ = false := by
  have hg := (hW.block w.heap.size (by omega)).trans (heap_alloc_new w (.cells #[u, v] t))
  exact ⟨by rw [cell_of_row W _ 0 _ _ _ hg]; rfl, by rw [cell_of_row W _ 1 _ _ _ hg]; rfl, frozen_of_row W _ _ _ _ hg, frozen_of_row W _ _ _ _ hg⟩
set_option maxRecDepth 100000 in
set_option maxHeartbeats 2000000 in
theorem checkM_c {w : World} {s : ByteArray} {A A2 : Option Addr} {c c2 : Nat} {R : List Blk} {M : List Wd} (hm : ModOk s R M) (hR : RuS w (.slice A R.length c) R) (hM : WdS w (.slice A2 M.length c2) M) (hT : Tab w) :
    Calls Tryz.prog 39 #[.agg #[.slice A R.length c, .slice A2 M.length c2]] w fun e w' => e = .returned (.int .i64 0) ∧ Below w.heap.size w w' := by
  obtain ⟨W0, hW0⟩ : ∃ W0, w.alloc (.cells #[.slice A R.length c, .slice A2 M.length c2] 46) = W0 := ⟨_, rfl⟩
  have hb0 : Below w.heap.size w W0 := by rw [← hW0]; exact balloc (Below.refl _ w) _
  have hs0 : W0.heap.size = w.heap.size + 1 := by rw [← hW0]; exact World.size_alloc _ _
  have hk : ∀ W, Below W0.heap.size W0 W → W.cell? ⟨w.heap.size, 0, none⟩ = some (.slice A R.length c) ∧ W.cell? ⟨w.heap.size, 1, none⟩ = some (.slice A2 M.length c2) ∧ W.frozen? ⟨w.heap.size, 0, none⟩ = false ∧ W.frozen? ⟨w.heap.size, 1, none⟩ = false := fun W hW => two_cells (lo := W0.heap.size) (by omega) (by rw [hW0]; exact hW)
  obtain ⟨k0, k1, -, -⟩ := hk W0 (Below.refl _ _)
  have HI := hid (is_c (hR.below hb0) hm.rules hm.srt hm.few (hT.bel hb0))
  have HW : Hid (∀ W, Below w.heap.size w W → Calls Tryz.prog 69 #[.slice A2 M.length c2] W fun e w' => e = .returned (.int .i64 0) ∧ Below W.heap.size W w') := hid fun W hW => isW_c (hM.below hW) hm.words.law hm.words.ris (hT.bel hW) hm.words.few
  have HB0 := hid hb0
  have HK := hid hk
  clear hR hM hT hm hk hb0
  go_enter Tryz.func39, Tryz.ntmps39
  go_wp2_with (first
    | (go_at_call 52; refine HI.out.mono ?_; rintro e w1 ⟨rfl, hb1⟩; obtain ⟨q0, q1, q2, q3⟩ := HK.out _ hb1; have HB1 := hid (bthen HB0.out hb1); clear hb1)
    | (go_at_call 69; refine (HW.out _ HB1.out).mono ?_; rintro e w2 ⟨rfl, hb2⟩; have HB2 := hid (bthen HB1.out hb2); clear hb2))
  go_ret
  exact ⟨rfl, HB2.out⟩
set_option maxRecDepth 100000 in
set_option maxHeartbeats 2000000 in
theorem cloneR_c {w : World} {A : Option Addr} {c : Nat} {R : List Blk} (hR : RuS w (.slice A R.length c) R) (hl : R.length ≤ 4096) :
    Calls Tryz.prog 72 #[.slice A R.length c] w fun e w' => Below w.heap.size w w' ∧ ∃ A' n' c', e = .returned (.slice A' n' c') := by
  obtain ⟨i0, hi, hz0, hz1, hz2⟩ := info_parts info35
  have HR := hid hR
  clear hR
  have hql : ∀ (w : World) (a : Option Addr) (n c n' c' : Nat), (binOp .eql 29 (.slice a n c) (.slice none n' c')).run Tryz.prog w = .ok (.bool a.isNone) w := fun w a n c n' c' => Lib.run_eql_slice_nil w _ _ a n c n' c' Tryz.underlying29
  cases A with
  | none =>
    go_enter Tryz.func72, Tryz.ntmps72
    go_wp2
    go_ret
    exact ⟨Below.refl _ _, _, _, _, rfl⟩
  | some a =>
    have hsm : (some a).isNone = false := rfl
    have hone : ∀ u ∈ R.flatMap blkC, u.oneCell' = true := fun u hu => by
      obtain ⟨b, _, hb⟩ := List.mem_flatMap.1 hu
      simp [blkC] at hb
      rcases hb with rfl | rfl | rfl <;> rfl
    have h63 : 0 + R.length ≤ maxLen := by simp only [maxLen]; omega
    have hby : (0 + R.length) * 40 ≤ 140737488355328 := by omega
    have HX := hid (SL.lit w 35 3 0 #[] rfl (by simp [maxLen]))
    have HU := hid (SL.alloc HR.out (.cells #[] 35))
    go_enter Tryz.func72, Tryz.ntmps72
    go_wp2_with (at_builtin; refine wpList_append_SLs rfl _ _ _ rfl 35 i0 _ 3 40 Tryz.underlying29 hi hz0 hz1 hz2 rfl (by decide) (.slice (some ⟨w.heap.size, 0, none⟩) 0 0) 0 [] rfl HX.out _ R.length _ rfl HU.out hone (0 + R.length) _ rfl rfl h63 hby ?_; intro A2 c2 w2 hs2 hg2 ho2; have HG := hid hg2; clear hs2 hg2 ho2)
    go_ret
    exact ⟨(balloc (Below.refl _ w) _).grown HG.out (by simp) (fun k hk => by cases hk; exact Nat.le_refl _), _, _, _, rfl⟩
set_option maxRecDepth 100000 in
set_option maxHeartbeats 2000000 in
theorem cloneW_c {w : World} {A : Option Addr} {c : Nat} {M : List Wd} (hM : WdS w (.slice A M.length c) M) (hl : M.length ≤ 65536) :
    Calls Tryz.prog 73 #[.slice A M.length c] w fun e w' => Below w.heap.size w w' ∧ ∃ A' n' c', e = .returned (.slice A' n' c') := by
  obtain ⟨i0, hi, hz0, hz1, hz2⟩ := info_parts info81
  have HR := hid hM
  clear hM
  have hql : ∀ (w : World) (a : Option Addr) (n c n' c' : Nat), (binOp .eql 44 (.slice a n c) (.slice none n' c')).run Tryz.prog w = .ok (.bool a.isNone) w := fun w a n c n' c' => Lib.run_eql_slice_nil w _ _ a n c n' c' Tryz.underlying44
  cases A with
  | none =>
    go_enter Tryz.func73, Tryz.ntmps73
    go_wp2
    go_ret
    exact ⟨Below.refl _ _, _, _, _, rfl⟩
  | some a =>
    have hsm : (some a).isNone = false := rfl
    have hone : ∀ u ∈ wdsC M, u.oneCell' = true := fun u hu => by
      obtain ⟨b, _, hb⟩ := List.mem_flatMap.1 hu
      simp [wdC] at hb
      rcases hb with rfl | rfl <;> rfl
    have h63 : 0 + M.length ≤ maxLen := by simp only [maxLen]; omega
    have hby : (0 + M.length) * 24 ≤ 140737488355328 := by omega
    have HX := hid (SL.lit w 81 2 0 #[] rfl (by simp [maxLen]))
    have HU := hid (SL.alloc HR.out (.cells #[] 81))
    go_enter Tryz.func73, Tryz.ntmps73
    go_wp2_with (at_builtin; refine wpList_append_SLs rfl _ _ _ rfl 81 i0 _ 2 24 Tryz.underlying44 hi hz0 hz1 hz2 rfl (by decide) (.slice (some ⟨w.heap.size, 0, none⟩) 0 0) 0 [] rfl HX.out _ M.length _ rfl HU.out hone (0 + M.length) _ rfl rfl h63 hby ?_; intro A2 c2 w2 hs2 hg2 ho2; have HG := hid hg2; clear hs2 hg2 ho2)
    go_ret
    exact ⟨(balloc (Below.refl _ w) _).grown HG.out (by simp) (fun k hk => by cases hk; exact Nat.le_refl _), _, _, _, rfl⟩
set_option maxRecDepth 100000 in
set_option maxHeartbeats 4000000 in
theorem own_c {w : World} {s : ByteArray} {A A2 : Option Addr} {c c2 : Nat} {R : List Blk} {M : List Wd} (hm : ModOk s R M) (hR : RuS w (.slice A R.length c) R) (hM : WdS w (.slice A2 M.length c2) M) :
    Calls Tryz.prog 41 #[.agg #[.slice A R.length c, .slice A2 M.length c2]] w fun e w' => Below w.heap.size w w' ∧ ∃ B1 n1 d1 B2 n2 d2, e = .returned (.agg #[.slice B1 n1 d1, .slice B2 n2 d2]) := by
  obtain ⟨W0, hW0⟩ : ∃ W0, (w.alloc (.cells #[.slice A R.length c, .slice A2 M.length c2] 46)).alloc (.cells #[.slice none 0 0, .slice none 0 0] 46) = W0 := ⟨_, rfl⟩
  have hb0 : Below w.heap.size w W0 := by rw [← hW0]; exact balloc (balloc (Below.refl _ w) _) _
  have hs0 : W0.heap.size = w.heap.size + 1 + 1 := by rw [← hW0]; simp
  have hk : ∀ W, Below W0.heap.size W0 W → W.cell? ⟨w.heap.size, 0, none⟩ = some (.slice A R.length c) ∧ W.cell? ⟨w.heap.size, 1, none⟩ = some (.slice A2 M.length c2) ∧ W.cell? ⟨w.heap.size + 1, 0, none⟩ = some (.slice none 0 0) ∧ W.cell? ⟨w.heap.size + 1, 1, none⟩ = some (.slice none 0 0) ∧ W.frozen? ⟨w.heap.size + 1, 0, none⟩ = false ∧ W.frozen? ⟨w.heap.size + 1, 1, none⟩ = false ∧ Hid (W.heap[w.heap.size + 1]? = some (.cells #[.slice none 0 0, .slice none 0 0] 46 (0, 0))) := fun W hW => by
    have p0 : W0.heap[w.heap.size]? = some (.cells #[.slice A R.length c, .slice A2 M.length c2] 46 (0, 0)) := by rw [← hW0]; exact al2_0 _ _ _
    have p1 : W0.heap[w.heap.size + 1]? = some (.cells #[.slice none 0 0, .slice none 0 0] 46 (0, 0)) := by rw [← hW0]; exact al2_1 _ _ _
    have g0 := (hW.block w.heap.size (by omega)).trans p0
    have g1 := (hW.block (w.heap.size + 1) (by omega)).trans p1
    exact ⟨by rw [cell_of_row W _ 0 _ _ _ g0]; rfl, by rw [cell_of_row W _ 1 _ _ _ g0]; rfl, by rw [cell_of_row W _ 0 _ _ _ g1]; rfl, by rw [cell_of_row W _ 1 _ _ _ g1]; rfl, frozen_of_row W _ _ _ _ g1, frozen_of_row W _ _ _ _ g1, g1⟩
  have HC1 : Hid (∀ W, Below W0.heap.size W0 W → Calls Tryz.prog 72 #[.slice A R.length c] W fun e w' => Below W.heap.size W w' ∧ ∃ A' n' c', e = .returned (.slice A' n' c')) := hid fun W hW => cloneR_c (hR.below (bthen hb0 hW)) hm.few
  have HC2 : Hid (∀ W, Below W0.heap.size W0 W → Calls Tryz.prog 73 #[.slice A2 M.length c2] W fun e w' => Below W.heap.size W w' ∧ ∃ A' n' c', e = .returned (.slice A' n' c')) := hid fun W hW => cloneW_c (hM.below (bthen hb0 hW)) hm.words.few
  have HB0 := hid hb0
  have HK := hid hk
  have hD : Below W0.heap.size W0 W0.drew := Below.drew (Below.refl _ W0)
  have HD := hid hD
  obtain ⟨k0, k1, k2, k3, k4, k5, -⟩ := hk _ hD
  have hwr : World.drew W0 = W0.drew := rfl
  clear hR hM hm hk hb0 hwr
  go_enter Tryz.func41, Tryz.ntmps41
  go_wp2
  try rw [hW0]
  go_region_with (first
    | (go_at_call 72; refine (HC1.out _ HD.out).mono ?_; rintro e w1 ⟨hb1, B1, n1, d1, rfl⟩; have HB1 := hid (bthen HD.out hb1); obtain ⟨q0, q1, q2, q3, q4, q5, q6⟩ := HK.out _ HB1.out; clear hb1)
    | (go_at_call 73; refine (HC2.out _ HB1.out).mono ?_; rintro e w2 ⟨hb2, B2, n2, d2, rfl⟩; have HB2 := hid (bthen HB1.out hb2); obtain ⟨r0, r1, r2, r3, r4, r5, r6⟩ := HK.out _ HB2.out; clear hb2))
  all_goals
    go_wp2
    refine bodyPost_ret (results_cell1 (fn := Tryz.f41) rfl _ _ (w.heap.size + 1) _ rfl (load46 (row2_set r6.out _ _))) rfl ?_
    exact ⟨((bthen HB0.out HB2.out).setCell (Nat.le_succ _) _).setCell (Nat.le_succ _) _, _, _, _, _, _, _, rfl⟩
/-- a corrector in memory, which knows all tokens of s -/
def CorAt (w : World) (p : Nat) (s : ByteArray) : Prop :=
  ∃ u v d D, w.heap[p]? = some (.cells #[u, v, .pointer (some ⟨d, 0, none⟩)] 103 (0, 0)) ∧ DawgAt w d D ∧ ∀ t ∈ wdsF s, acc (D.map dstR) 0 (runesOf (bys t)) = true
theorem CorAt.below {w W : World} {p : Nat} {s : ByteArray} (h : CorAt w p s) (hb : Below w.heap.size w W) : CorAt W p s := by
  obtain ⟨u, v, d, D, h1, h2, h3⟩ := h
  exact ⟨u, v, d, D, (hb.block p (blk_lt h1)).trans h1, h2.below hb, h3⟩
set_option maxRecDepth 100000 in
set_option maxHeartbeats 2000000 in
theorem knows_c {w : World} {p : Nat} {s t : ByteArray} (h : CorAt w p s) (hv : Lib.validD (bys s) = true) (hs : s.size ≤ 1048576) (ht : t ∈ wdsF s) (hT : Tab w) :
    Calls Tryz.prog 77 #[.pointer (some ⟨p, 0, none⟩), .string t] w fun e w' => e = .returned (.bool true) ∧ Below w.heap.size w w' := by
  obtain ⟨u, v, d, D, h1, h2, h3⟩ := h
  have htl := wdsF_law hv hs ht
  have HTK := hid (tokL_c htl w hT)
  have HPL : Hid (∀ W, Below w.heap.size w W → Calls Tryz.prog 119 #[.pointer (some ⟨d, 0, none⟩), .string t] W fun e w' => Below W.heap.size W w' ∧ ∃ n, e = .returned (.tuple #[.int .i64 n, .int .i64 0])) := hid fun W hW => place_c (h2.below hW) htl (h3 t ht) (hT.bel hW)
  have HK : Hid (∀ W, Below w.heap.size w W → W.cell? ⟨p, 2, none⟩ = some (.pointer (some ⟨d, 0, none⟩))) := hid fun W hW => by
    rw [cell_of_row W _ 2 _ _ _ ((hW.block p (blk_lt h1)).trans h1)]; rfl
  clear h1 h2 h3 htl ht hT
  go_enter Tryz.func77, Tryz.ntmps77
  go_wp2_with (first
    | (go_at_call 118; refine HTK.out.mono ?_; rintro e w1 ⟨hb1, A, c, rfl, -⟩; have HB1 := hid hb1; have k2 := HK.out _ hb1; clear hb1)
    | (go_at_call 119; refine (HPL.out _ HB1.out).mono ?_; rintro e w2 ⟨hb2, n, rfl⟩; have HB2 := hid (bthen HB1.out hb2); clear hb2))
  go_ret
  exact ⟨rfl, HB2.out⟩
/-- what New hands back, of such a model -/
def NewCP (s : ByteArray) (w : World) (e : Ending) (w' : World) : Prop :=
  Below w.heap.size w w' ∧ ∃ p, e = .returned (.tuple #[.pointer (some ⟨p, 0, none⟩), .int .i64 0]) ∧ CorAt w' p s
set_option maxRecDepth 100000 in
set_option maxHeartbeats 4000000 in
theorem newC_c {w : World} {s : ByteArray} {A A2 : Option Addr} {c c2 : Nat} {R : List Blk} {M : List Wd} (hm : ModOk s R M) (hR : RuS w (.slice A R.length c) R) (hM : WdS w (.slice A2 M.length c2) M) (hT : Tab w) :
    Calls Tryz.prog 16 #[.agg #[.slice A R.length c, .slice A2 M.length c2]] w (NewCP s w) := by
  obtain ⟨W0, hW0⟩ : ∃ W0, w.alloc (.cells #[.slice A R.length c, .slice A2 M.length c2] 46) = W0 := ⟨_, rfl⟩
  have hb0 : Below w.heap.size w W0 := by rw [← hW0]; exact balloc (Below.refl _ w) _
  have hs0 : W0.heap.size = w.heap.size + 1 := by rw [← hW0]; exact World.size_alloc _ _
  have hk : ∀ W, Below W0.heap.size W0 W → W.cell? ⟨w.heap.size, 0, none⟩ = some (.slice A R.length c) ∧ W.cell? ⟨w.heap.size, 1, none⟩ = some (.slice A2 M.length c2) ∧ W.frozen? ⟨w.heap.size, 0, none⟩ = false ∧ W.frozen? ⟨w.heap.size, 1, none⟩ = false := fun W hW => two_cells (lo := W0.heap.size) (by omega) (by rw [hW0]; exact hW)
  obtain ⟨k0, k1, -, -⟩ := hk W0 (Below.refl _ _)
  have HCK := hid (checkM_c hm (hR.below hb0) (hM.below hb0) (hT.bel hb0))
  have HNW : Hid (∀ W, Below w.heap.size w W → Calls Tryz.prog 40 #[.slice A2 M.length c2] W (NewP M W)) := hid fun W hW => new_c (hM.below hW) hm.words.law hm.words.ris hm.words.few (hT.bel hW)
  have HOW : Hid (∀ W, Below w.heap.size w W → Calls Tryz.prog 41 #[.agg #[.slice A R.length c, .slice A2 M.length c2]] W fun e w' => Below W.heap.size W w' ∧ ∃ B1 n1 d1 B2 n2 d2, e = .returned (.agg #[.slice B1 n1 d1, .slice B2 n2 d2])) := hid fun W hW => own_c hm (hR.below hW) (hM.below hW)
  have HB0 := hid hb0
  have HK := hid hk
  have HALL := hid hm.words.all
  clear hR hM hT hm hk hb0
  go_enter Tryz.func16, Tryz.ntmps16
  go_wp2_with (first
    | (go_at_call 39; refine HCK.out.mono ?_; rintro e w1 ⟨rfl, hb1⟩; obtain ⟨q0, q1, q2, q3⟩ := HK.out _ hb1; have HB1 := hid hb1; clear hb1)
    | (go_at_call 40; refine (HNW.out _ (bthen HB0.out HB1.out)).mono ?_; rintro e w2 ⟨hb2, d, D, rfl, hd, hac⟩; obtain ⟨r0, r1, r2, r3⟩ := HK.out _ (bthen HB1.out hb2); have HB2 := hid (bthen HB1.out hb2); have HD := hid hd; have HAC := hid hac; clear hb2 hd hac)
    | (go_at_call 41; refine (HOW.out _ (bthen HB0.out HB2.out)).mono ?_; rintro e w3 ⟨hb3, B1, n1, d1, B2, n2, d2, rfl⟩; have HB3 := hid hb3; clear hb3))
  go_ret2
  have hb3 := balloc HB3.out (.cells #[.slice B1 n1 d1, .slice B2 n2 d2, .pointer (some ⟨d, 0, none⟩)] 103)
  refine ⟨bthen (bthen HB0.out HB2.out) hb3, _, rfl, _, _, d, D, heap_alloc_new _ _, HD.out.below hb3, fun t ht => ?_⟩
  obtain ⟨x, hx, rfl⟩ := List.mem_map.1 (HALL.out t ht)
  exact HAC.out x hx
end Go.Proofs.YteigplfldhdakaaGreatDoor
/- document: unknown (nothing is), Unknown. -/
namespace Go.Proofs.YteigplfldhdakaaGreatDoor
open Go.RowKit Go.Shelf
attribute [local go_sem] Oper.semAt_some
theorem tok_word {s : ByteArray} {x : Spn} (hx : x ∈ spansF (bys s)) (ht : x.2.2 = true) (hr : Lib.runeCount (s.extract x.1 x.2.1) ≤ 64) : s.extract x.1 x.2.1 ∈ wdsF s :=
  List.mem_filter.2 ⟨List.mem_map.2 ⟨x, List.mem_filter.2 ⟨hx, ht⟩, rfl⟩, by simpa using hr⟩
set_option maxRecDepth 100000 in
set_option maxHeartbeats 4000000 in
theorem unk1_in (n : Nat) (hn : 1 ≤ n) (lp Bl Bs Bc p : Nat) (s : ByteArray) (hs : s.size ≤ 1048576) (hv : Lib.validD (bys s) = true) (A : Option Addr) (c : Nat)
    (w0 W : World) (hT : Tab w0) (hW0 : Below w0.heap.size w0 W) (hBl : w0.heap[Bl]? = some (.cells #[.slice A (spansF (bys s)).length c] 104 (0, 0))) (hBs : w0.heap[Bs]? = some (.cells #[.string s] 9 (0, 0)))
    (hBc : w0.heap[Bc]? = some (.cells #[.pointer (some ⟨p, 0, none⟩)] 53 (0, 0))) (hC : CorAt w0 p s) (hS : SpS w0 (.slice A (spansF (bys s)).length c) (spansF (bys s))) :
    CallsIn Fence.wide n Tryz.prog 76 #[.func (.yield lp) #[] #[], .pointer (some ⟨Bl, 0, none⟩), .pointer (some ⟨Bs, 0, none⟩), .pointer (some ⟨Bc, 0, none⟩)] W fun e W' => (∃ v, e = .returned v) ∧ Below W.heap.size W W' := by
  have hsp : ∀ x ∈ spansF (bys s), x.1 < x.2.1 ∧ x.2.1 ≤ s.size := fun x hx => ⟨(span_text hv hx).1, (span_text hv hx).2.1⟩
  have hkn : ∀ x ∈ spansF (bys s), x.2.2 = true → Lib.runeCount (s.extract x.1 x.2.1) ≤ 64 → ∀ X, Below w0.heap.size w0 X → Calls Tryz.prog 77 #[.pointer (some ⟨p, 0, none⟩), .string (s.extract x.1 x.2.1)] X fun e w' => e = .returned (.bool true) ∧ Below X.heap.size X w' := fun x hx ht hr X hX =>
    knows_c (hC.below hX) hv hs (tok_word hx ht hr) (hT.bel hX)
  have hll := Nat.le_trans (spansF_len s) hs
  obtain ⟨L, hL⟩ : ∃ L, spansF (bys s) = L := ⟨_, rfl⟩
  rw [hL] at hBl hS hsp hkn hll
  have hcl : ∀ X, Below w0.heap.size w0 X → X.cell? ⟨Bl, 0, none⟩ = some (.slice A L.length c) ∧ X.cell? ⟨Bs, 0, none⟩ = some (.string s) ∧ X.cell? ⟨Bc, 0, none⟩ = some (.pointer (some ⟨p, 0, none⟩)) := fun X hX =>
    ⟨(box_cell ((hX.block _ (blk_lt hBl)).trans hBl)).1, (box_cell ((hX.block _ (blk_lt hBs)).trans hBs)).1, (box_cell ((hX.block _ (blk_lt hBc)).trans hBc)).1⟩
  have HCL := hid hcl
  have HSP := hid hsp
  have HKN := hid hkn
  have HS := hid hS
  have HW0 := hid hW0
  obtain ⟨l0, -, -⟩ := hcl W hW0
  clear hL hBl hBs hBc hC hS hsp hkn hcl hW0 hT hv
  refine callsIn_of_wp Tryz.func76 rfl trivial ?_ rfl
  simp only [Tryz.ntmps76, List.size_toArray, List.length_cons, List.length_nil, Nat.reduceAdd, Nat.reduceSub, Array.replicate_succ, Array.replicate_zero, List.push_toArray, List.append_toArray, List.nil_append, List.cons_append]
  gi_wp2
  refine wpIn_scope_straight ?_
  gi_wp2
  refine wpIn_label ?_
  gi_wp2
  gi_loopw [10] (fun iv wr => ∃ i : Nat, i ≤ L.length ∧ iv = .int .i64 (i : Int) ∧ Hid (Below W.heap.size W wr)) (fun iv _ => L.length - (intOf iv).toNat)
  case atStart => exact ⟨0, Nat.zero_le _, rfl, hid (Below.refl _ _)⟩
  case round =>
    obtain ⟨i, hi, rfl, HB⟩ := hrel
    by_cases hil : i < L.length
    · have hil2 : (i : Int) < (L.length : Int) := by omega
      have HBW := hid (bthen HW0.out HB.out)
      obtain ⟨g, off, hA, hgl, k0, k1, k2⟩ := SpS.at3 (HS.out.below HBW.out) hil
      subst hA
      obtain ⟨x, hx⟩ : ∃ x, L[i] = x := ⟨_, rfl⟩
      have hmem := List.getElem_mem hil
      rw [hx] at k0 k1 k2 hmem
      have hok := HSP.out _ hmem
      have hk := HKN.out _ hmem
      obtain ⟨xf, xt, xb⟩ := x
      dsimp only at k0 k1 k2 hok hk
      have hbX := balloc (Below.refl _ wr) (.cells #[.int .i64 (xf : Int), .int .i64 (xt : Int), .bool xb] 112)
      have hgX := heap_alloc_new wr (.cells #[.int .i64 (xf : Int), .int .i64 (xt : Int), .bool xb] 112)
      obtain ⟨X, hX⟩ : ∃ X, wr.alloc (.cells #[.int .i64 (xf : Int), .int .i64 (xt : Int), .bool xb] 112) = X := ⟨_, rfl⟩
      rw [hX] at hbX hgX
      obtain ⟨-, s0, c0⟩ := HCL.out X (bthen HBW.out hbX)
      obtain ⟨x0, x1, x2, y0, y1, y2⟩ := row3 hgX
      have hq1 : (0 : Int) ≤ (xf : Int) := by omega
      have hq2 : (xf : Int) ≤ (xt : Int) := by omega
      have hq3 : (xt : Int) ≤ (s.size : Int) := by omega
      have HBX := hid (bthen HB.out hbX)
      have HBX0 := hid (bthen HBW.out hbX)
      have hts : (s.extract xf xt).size ≤ 1048576 := by rw [ByteArray.size_extract]; omega
      have HRC := hid (rcnt_c (s.extract xf xt) hts)
      have HKK := hid hk
      clear hx hmem hk hbX hgX hts
      cases xb with
      | false =>
        gi_wp2
        refine ⟨trivial, ?_⟩
        gi_wp2
        refine ⟨trivial, ?_⟩
        gi_wp2
        exact ⟨⟨i + 1, by omega, by simp, hid (HBX.out.setCell HB.out.size _)⟩, by simp [intOf]; omega⟩
      | true =>
        obtain ⟨t, ht⟩ : ∃ t, s.extract xf xt = t := ⟨_, rfl⟩
        rw [ht] at HRC HKK
        by_cases hr : Lib.runeCount t ≤ 64
        · have hri : ¬ (64 : Int) < ((Lib.runeCount t : Nat) : Int) := by omega
          have HKN2 := hid (HKK.out rfl hr)
          gi_wp2_with (first
            | (refine ⟨trivial, ?_⟩; gi_at_call 23; refine (callsIn_wide.2 (HRC.out _)).mono ?_; rintro e w1 ⟨rfl, hb1⟩; have HB1 := hid hb1; obtain ⟨-, -, c1⟩ := HCL.out w1 (bthen HBX0.out hb1); clear hb1)
            | (refine ⟨trivial, ?_⟩; gi_at_call 77; refine (callsIn_wide.2 (HKN2.out _ (bthen HBX0.out HB1.out))).mono ?_; rintro e w2 ⟨rfl, hb2⟩; have HB2 := hid (bthen (bthen HBX.out HB1.out) hb2); clear hb2))
          exact ⟨⟨i + 1, by omega, by simp, HB2⟩, by simp [intOf]; omega⟩
        · have hri : (64 : Int) < ((Lib.runeCount t : Nat) : Int) := by omega
          gi_wp2_with (first
            | (refine ⟨trivial, ?_⟩; gi_at_call 23; refine (callsIn_wide.2 (HRC.out _)).mono ?_; rintro e w1 ⟨rfl, hb1⟩; have HB1 := hid (bthen HBX.out hb1); clear hb1))
          refine ⟨trivial, ?_⟩
          gi_wp2
          exact ⟨⟨i + 1, by omega, by simp, HB1⟩, by simp [intOf]; omega⟩
    · obtain rfl : i = L.length := by omega
      have hil2 : ¬ (L.length : Int) < (L.length : Int) := by omega
      gi_wp2
      go_end0
      exact ⟨⟨_, rfl⟩, HB.out⟩
theorem unk_seq (n : Nat) (hn : 1 ≤ n) (Bl Bs Bc p : Nat) (s : ByteArray) (hs : s.size ≤ 1048576) (hv : Lib.validD (bys s) = true) (A : Option Addr) (c : Nat) (args : Nat → Array Value) (R : Nat → Nat → Prop)
    (w : World) (hT : Tab w) (hBl : w.heap[Bl]? = some (.cells #[.slice A (spansF (bys s)).length c] 104 (0, 0))) (hBs : w.heap[Bs]? = some (.cells #[.string s] 9 (0, 0)))
    (hBc : w.heap[Bc]? = some (.cells #[.pointer (some ⟨p, 0, none⟩)] 53 (0, 0))) (hC : CorAt w p s) (hS : SpS w (.slice A (spansF (bys s)).length c) (spansF (bys s))) :
    SeqL Fence.wide n Tryz.prog 76 #[.pointer (some ⟨Bl, 0, none⟩), .pointer (some ⟨Bs, 0, none⟩), .pointer (some ⟨Bc, 0, none⟩)] args 0 R (fun _ _ => False) w := fun l J Jx W hW hJ hJx hY h0 =>
  (unk1_in n hn l Bl Bs Bc p s hs hv A c w W hT hW hBl hBs hBc hC hS).mono fun e W' ⟨h1, h2⟩ => ⟨h1, .inl (hJ 0 W W' h0 (Touch.of_below h2 (Nat.le_refl _)))⟩
set_option maxRecDepth 100000 in
set_option maxHeartbeats 1000000 in
theorem unk43_c (p : Nat) (s : ByteArray) (A : Option Addr) (n c : Nat) (w : World) : Calls Tryz.prog 43 #[.pointer (some ⟨p, 0, none⟩), .string s, .slice A n c] w fun e w' =>
    e = .returned (.func (.func 76) #[] #[.pointer (some ⟨w.heap.size + 1 + 1, 0, none⟩), .pointer (some ⟨w.heap.size + 1, 0, none⟩), .pointer (some ⟨w.heap.size, 0, none⟩)]) ∧
    w' = ((w.alloc (.cells #[.pointer (some ⟨p, 0, none⟩)] 53)).alloc (.cells #[.string s] 9)).alloc (.cells #[.slice A n c] 104) := by
  go_enter Tryz.func43, Tryz.ntmps43
  go_wp2
  go_ret
  exact ⟨by simp, rfl⟩
/-- what lies behind the call of unknown -/
theorem unk_laid {w W : World} {p : Nat} {s : ByteArray} {A : Option Addr} {c : Nat} {L : List Spn} (hW : W = ((w.alloc (.cells #[.pointer (some ⟨p, 0, none⟩)] 53)).alloc (.cells #[.string s] 9)).alloc (.cells #[.slice A L.length c] 104)) :
    W.heap[w.heap.size]? = some (.cells #[.pointer (some ⟨p, 0, none⟩)] 53 (0, 0)) ∧ W.heap[w.heap.size + 1]? = some (.cells #[.string s] 9 (0, 0)) ∧ W.heap[w.heap.size + 1 + 1]? = some (.cells #[.slice A L.length c] 104 (0, 0)) ∧ Below w.heap.size w W ∧ W.heap.size = w.heap.size + 3 := by
  subst hW
  exact ⟨al3_0 _ _ _ _, al3_1 _ _ _ _, al3_2 _ _ _ _, balloc (balloc (balloc (Below.refl _ w) _) _) _, by simp⟩
/-- what Unknown's and Fix's loops leave -/
def UnkI (w : World) (B : Nat) (t : TypeId) (_ : Nat) (W : World) : Prop := W.heap[B]? = some (.cells #[.slice none 0 0] t (0, 0)) ∧ Below w.heap.size w W
theorem UnkI.cs {w A B : World} {b : Nat} {t : TypeId} {lo k : Nat} (h : UnkI w b t k A) (hcs : CS (fun _ => False) lo A B) (hlo : w.heap.size ≤ lo) : UnkI w b t k B :=
  ⟨hcs.cells h.1 (fun h => h), hcs.below h.2 hlo (fun b hb h => h)⟩
set_option maxRecDepth 100000 in
set_option maxHeartbeats 4000000 in
theorem unknown_c {w : World} {p : Nat} {s : ByteArray} (hC : CorAt w p s) (hv : Lib.validD (bys s) = true) (hs : s.size ≤ 1048576) (hT : Tab w) :
    Calls Tryz.prog 24 #[.pointer (some ⟨p, 0, none⟩), .string s] w fun e w' => Below w.heap.size w w' ∧ e = .returned (.tuple #[.slice none 0 0, .int .i64 0]) := by
  have hb0 : Below w.heap.size w (w.alloc (.cells #[.slice none 0 0] 40)) := balloc (Below.refl _ w) _
  have hsp : Calls Tryz.prog 42 #[.string s] (w.alloc (.cells #[.slice none 0 0] 40)) fun e w' => Below (w.alloc (.cells #[.slice none 0 0] 40)).heap.size (w.alloc (.cells #[.slice none 0 0] 40)) w' ∧ ∃ A c, e = .returned (.tuple #[.slice A (spansF (bys s)).length c, .int .i64 0]) ∧ SpS w' (.slice A (spansF (bys s)).length c) (spansF (bys s)) := (spans_c s hs _ (hT.bel hb0)).mono fun e w' ⟨h1, h2⟩ => ⟨h1, by
    rcases h2 with ⟨h2, _⟩ | ⟨_, A, c, h3, h4, _⟩
    · rw [hv] at h2; cases h2
    · exact ⟨A, c, h3, h4⟩⟩
  have HSP := hid hsp
  have HC := hid hC
  have HT := hid hT
  have HB0 := hid hb0
  have hbx := heap_alloc_new w (.cells #[.slice none 0 0] 40)
  have HBX := hid hbx
  clear hC hT hb0 hsp hbx
  refine (callsIn_wide (n := 6)).1 ?_
  refine callsIn_of_wp_marks Tryz.func24 rfl trivial ?_ rfl
  simp only [Tryz.ntmps24, List.size_toArray, List.length_cons, List.length_nil, Nat.reduceAdd, Nat.reduceSub, Array.replicate_succ, Array.replicate_zero, List.push_toArray, List.append_toArray, List.nil_append, List.cons_append]
  gi_wp2_with (first
    | (refine ⟨trivial, ?_⟩; gi_at_call 42; refine (callsIn_wide.2 HSP.out).mono ?_; rintro e w1 ⟨hb1, A, c, rfl, h1⟩; have HB1 := hid hb1; have H1 := hid h1; clear hb1 h1)
    | (refine ⟨trivial, ?_⟩; gi_at_call 43; refine (callsIn_wide.2 (unk43_c _ _ _ _ _ _)).mono ?_; rintro e w2 ⟨rfl, hw2⟩))
  obtain ⟨e0, e1, e2, e3, e4⟩ := unk_laid (L := spansF (bys s)) hw2
  try rw [← hw2]
  have hbt : Below w.heap.size w w2 := bthen (bthen HB0.out HB1.out) e3
  have hx2 : w2.heap[w.heap.size]? = some (.cells #[.slice none 0 0] 40 (0, 0)) := by
    have h1 := HB1.out.size
    rw [World.size_alloc] at h1
    rw [e3.block _ (by omega), HB1.out.block _ (by rw [World.size_alloc]; omega)]
    exact HBX.out
  have hsz := hbt.size
  refine wpIn_rangeL rfl (by omega) (gf := 76) (lb := #[.pointer (some ⟨w1.heap.size + 1 + 1, 0, none⟩), .pointer (some ⟨w1.heap.size + 1, 0, none⟩), .pointer (some ⟨w1.heap.size, 0, none⟩)]) rfl trivial (enters_of Tryz.func76 (by kernel_rfl) rfl)
    (unk_seq 5 (by omega) _ _ _ p s hs hv A c (fun _ => #[.bool false, .bool false]) (fun _ _ => False) w2 (HT.out.bel hbt) e2 e1 e0 (HC.out.below hbt) (H1.out.below e3)) (Below.refl _ _) (fun _ => rfl) (fun k hk => hk.elim) (fun k hk => hk.elim)
    (UnkI w w.heap.size 40) (fun _ _ _ => False) ?hI ?hIx ?h0 ?round ?done ?stop
  case hI => exact fun k X Y h hcs => h.cs hcs hsz
  case hIx => exact fun _ _ _ _ h _ => h
  case h0 => exact ⟨hx2, hbt⟩
  case round => exact fun l k W hk => absurd hk (Nat.not_lt_zero _)
  case stop => exact fun _ _ _ _ _ _ h _ => h.elim
  case done =>
    rintro D W hD ⟨h1, h2⟩ hK
    obtain ⟨q0, q1⟩ := box_cell h1
    have H1 := hid h1
    have H2 := hid h2
    clear h1 h2
    gi_wp2
    obtain ⟨X, hX⟩ : ∃ X, W.setCell ⟨w.heap.size, 0, none⟩ (.slice none 0 0) = X := ⟨_, rfl⟩
    have hto := Touch.setCell (F := fun b => b = w.heap.size) (p := ⟨w.heap.size, 0, none⟩) (Touch.refl _ W) (.inl rfl) (.slice none 0 0)
    have hwl : w.heap.size < w1.heap.size := by
      have h1 := HB1.out.size
      rw [World.size_alloc] at h1
      omega
    have hK' : X.heap[D]? = some (Obj.deferred (some [])) := by rw [← hX]; exact set_other hK (by omega) _ _
    have g0 : X.heap[w.heap.size]? = some (.cells #[.slice none 0 0] 40 (0, 0)) := by rw [← hX]; exact box_set H1.out _
    rw [hX] at hto ⊢
    refine ⟨by simp, .inl ⟨_, _, rfl, run_takeDeferred hK', ?_⟩⟩
    refine ⟨_, results_ct (fn := Tryz.f24) rfl _ _ w.heap.size _ rfl (load40 (put_other g0 (by omega))), ?_⟩
    exact ⟨fin_below (hto.below H2.out (fun b h => by omega)) (by omega), rfl⟩
end Go.Proofs.YteigplfldhdakaaGreatDoor
