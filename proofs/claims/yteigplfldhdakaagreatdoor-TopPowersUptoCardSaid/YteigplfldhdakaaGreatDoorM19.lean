/- The contracts that logcost's laws use: Ratio, Cost, Sum, alive. -/
import Derived.Test.YteigplfldhdakaaGreatDoorM18
import Derived.Test.YteigplfldhdakaaGreatDoorM17
import Derived.Laws.RangeString
import Derived.Lib.OthersKept
import Derived.Lib.MapLaws
import Derived.Lib.ValidLaws
import Derived.Test.YteigplfldhdakaaGreatDoorM16
namespace Go.Proofs.YteigplfldhdakaaGreatDoor.Lc
open Go.RowKit
theorem bthen {w w1 w2 : World} (h : Below w.heap.size w w1) (k : Below w1.heap.size w1 w2) : Below w.heap.size w w2 := h.trans (k.mono h.size)
/-- **Ratio, at whatever numbers.** -/
theorem ratio_any (a b : Int) (w : World) :
    Calls Tryz.prog 12 #[.int .i64 a, .int .i64 b] w fun e w' => e = .returned (.tuple #[.int .i64 (ratioK a b), .int .i64 (ratioE a b)]) ∧ Below w.heap.size w w' := by
  by_cases h : NoRatio a b
  · rw [ratioK_no h, ratioE_no h]
    exact ratio_no a b w h
  · have h' := h
    unfold NoRatio at h'
    refine (ratio_yes a b w (by omega) (by omega) (by omega)).mono ?_
    rintro e w' ⟨k, hk, rfl, hb⟩
    exact ⟨by rw [ratioK_of h hk, ratioE_yes h], hb⟩
theorem tup2 {k k' : IntKind} {a b c d : Int} (h : a = c) (h' : b = d) : Value.tuple #[.int k a, .int k' b] = Value.tuple #[.int k c, .int k' d] := by rw [h, h']
/-- what a cost is -/
def NoCost (t k n : Int) : Prop := t < 0 ∨ 1073741824 < t ∨ k < 1 ∨ 4096 < k ∨ n < 0 ∨ t < n
instance (t k n : Int) : Decidable (NoCost t k n) := by unfold NoCost; exact inferInstance
noncomputable def costV (t k n : Int) : Int := if NoCost t k n then 0 else min (max (ratioK (t + k) (n + 1)) 1) 255
noncomputable def costE (t k n : Int) : Int := if NoCost t k n then 2 else ratioE (t + k) (n + 1)
theorem costV_no {t k n : Int} (h : NoCost t k n) : costV t k n = 0 := by unfold costV; rw [if_pos h]
theorem costE_no {t k n : Int} (h : NoCost t k n) : costE t k n = 2 := by unfold costE; rw [if_pos h]
theorem costV_yes {t k n : Int} (h : ¬ NoCost t k n) : costV t k n = min (max (ratioK (t + k) (n + 1)) 1) 255 := by unfold costV; rw [if_neg h]
theorem costE_yes {t k n : Int} (h : ¬ NoCost t k n) : costE t k n = ratioE (t + k) (n + 1) := by unfold costE; rw [if_neg h]
set_option maxRecDepth 100000 in
set_option maxHeartbeats 1000000 in
theorem cost_any (t k n : Int) (w : World) :
    Calls Tryz.prog 26 #[.int .i64 t, .int .i64 k, .int .i64 n] w fun e w' => e = .returned (.tuple #[.int .i64 (costV t k n), .int .i64 (costE t k n)]) ∧ Below w.heap.size w w' := by
  have HB := Below.refl w.heap.size w
  go_enter Tryz.func26, Tryz.ntmps26
  go_wp2_with (go_at_call 12; refine (ratio_any _ _ _).mono ?_; rintro e w' ⟨rfl, hb⟩; replace HB := bthen HB hb; clear hb)
  all_goals go_ret2
  all_goals refine ⟨ret_val (tup2 ?_ ?_), HB⟩
  all_goals try simp only []
  all_goals rcases Decidable.em (NoCost t k n) with hn | hn
  all_goals first
    | exact (costV_no hn).symm
    | exact (costE_no hn).symm
    | exact (costE_yes hn).symm
    | (exfalso; unfold NoCost at hn; omega)
    | (rw [costV_yes hn]; try omega)
end Go.Proofs.YteigplfldhdakaaGreatDoor.Lc
/- rule: Make. -/
namespace Go.Proofs.YteigplfldhdakaaGreatDoor
set_option linter.unusedVariables false
set_option linter.unusedSimpArgs false
open Go.RowKit Go.Shelf
attribute [local go_sem ↓] Go.wp_at_zero Go.wp_at_succ
/-- v is a slice of rules: these -/
def RuS (w : World) (v : Value) (R : List Blk) : Prop := SL w 35 3 v R.length (R.flatMap blkC)
theorem RuS.below {w W : World} {v : Value} {L : List Blk} (h : RuS w v L) (hb : Below w.heap.size w W) : RuS W v L := SL.keep h fun k hk => hb.block k (SL.lt h k hk)
theorem info35 : (Tryz.prog.info? 35).map (fun i => (i.zero, i.size, i.bytes)) = some (some (.agg #[.string ⟨#[]⟩, .string ⟨#[]⟩, .int .i64 0]), 3, 40) := by kernel_rfl
noncomputable def ruleOf (t k : Int) (b : Blk) : Blk := (b.1, b.2.1, Lc.costV t k b.2.2)
noncomputable def makeG (t k least : Int) (M : List Blk) : List Blk := (M.filter fun b => decide (least ≤ b.2.2)).map (ruleOf t k)
noncomputable def makeR (M : List Blk) (least : Int) : List Blk := makeG (totB M) M.length least M
theorem makeG_take {t k least : Int} {M : List Blk} {j : Nat} (hj : j < M.length) : makeG t k least (M.take (j + 1)) = makeG t k least (M.take j) ++ if least ≤ M[j].2.2 then [ruleOf t k M[j]] else [] := by
  unfold makeG
  rw [List.take_add_one, List.getElem?_eq_getElem hj, List.filter_append, List.map_append]
  congr 1
  simp only [Option.toList, List.filter_cons, List.filter_nil]
  by_cases h : least ≤ M[j].2.2 <;> simp [h]
theorem makeG_len (t k least : Int) (M : List Blk) : (makeG t k least M).length ≤ M.length := by
  unfold makeG
  rw [List.length_map]
  exact List.length_filter_le _ _
/-- what Make hands back -/
def MakeP (M : List Blk) (least : Int) (w : World) (e : Ending) (w' : World) : Prop :=
  Below w.heap.size w w' ∧ ((chkC M ≠ 0 ∧ e = .returned (.tuple #[.slice none 0 0, .int .i64 (chkC M)])) ∨
    (chkC M = 0 ∧ (least < 1 ∨ 1073741824 < least) ∧ e = .returned (.tuple #[.slice none 0 0, .int .i64 2])) ∨
    (chkC M = 0 ∧ 1 ≤ least ∧ least ≤ 1073741824 ∧ ∃ A c, e = .returned (.tuple #[.slice A (makeR M least).length c, .int .i64 0]) ∧ RuS w' (.slice A (makeR M least).length c) (makeR M least) ∧
      ∀ k, (Value.slice A (makeR M least).length c).ownBlock = some k → w.heap.size ≤ k))
set_option maxRecDepth 100000 in
set_option maxHeartbeats 4000000 in
theorem make_c {w : World} {v : Value} {M : List Blk} (h : BlS w v M) (hM : ∀ b ∈ M, smallB b) (hT : Tab w) (hl : M.length ≤ 100000000) (least : Int) (hlm : -9223372036854775808 ≤ least ∧ least ≤ 9223372036854775807) : Calls Tryz.prog 10 #[v, .int .i64 least] w (MakeP M least w) := by
  have htot := total_c h hM hT (by omega)
  obtain ⟨A, c, rfl, hc⟩ := SL.form h
  have HS := hid h
  by_cases hq : chkC M = 0
  · obtain ⟨h1, h2, ⟨s, hs⟩, h4⟩ := chkC_zero hq
    have hpos : posC M := fun b hb => ((chkB_iff b).1 (eachB_all h1 b hb)).2.1
    have hsv := sumG_some hs
    have hE : totE M = (s, 0) := by rw [totE, if_pos hq, hs]; rfl
    have hst : s = totB M := by omega
    have hs2 : s ≤ 1073741824 := hsv.2 (by omega)
    have hs0 : 0 ≤ s := by rw [hst]; exact totB_nonneg hpos
    rw [hE] at htot
    dsimp only at htot
    have HTO := hid htot
    have HQ := hid hq
    have HPOS := hid hpos
    have HST := hid hst
    clear htot hE hq hpos hsv hst h1 h2 hs
    by_cases hl1 : least < 1
    · go_enter Tryz.func10, Tryz.ntmps10
      go_wp2_with (go_at_call 11; refine HTO.out.mono ?_; rintro e w1 ⟨rfl, hb1⟩; have HB1 := hid hb1; clear hb1)
      go_ret2
      exact ⟨HB1.out, .inr (.inl ⟨HQ.out, .inl hl1, rfl⟩)⟩
    · by_cases hl2 : 1073741824 < least
      · go_enter Tryz.func10, Tryz.ntmps10
        go_wp2_with (go_at_call 11; refine HTO.out.mono ?_; rintro e w1 ⟨rfl, hb1⟩; have HB1 := hid hb1; clear hb1)
        go_ret2
        exact ⟨HB1.out, .inr (.inl ⟨HQ.out, .inr hl2, rfl⟩)⟩
      · have HMR : Hid (∀ k, makeG s M.length least (M.take k) = makeG (totB M) M.length least (M.take k)) := hid (fun k => by rw [HST.out])
        go_enter Tryz.func10, Tryz.ntmps10
        go_wp2_with (go_at_call 11; refine HTO.out.mono ?_; rintro e w1 ⟨rfl, hb1⟩; have HB1 := hid hb1; clear hb1)
        go_loopw [8, 31] (fun ov iv wr => ∃ (k : Nat) (A' : Option Addr) (c' : Nat) (R : List Blk), k ≤ M.length ∧ iv = .int .i64 (k : Int) ∧ ov = .slice A' R.length c' ∧ Hid (R = makeG s M.length least (M.take k)) ∧ R.length ≤ k ∧ Hid (RuS wr (.slice A' R.length c') R) ∧ Hid (∀ b, (Value.slice A' R.length c').ownBlock = some b → w.heap.size ≤ b) ∧ Hid (Below w.heap.size w wr)) (fun ov iv _ => M.length - (intOf iv).toNat)
        case atStart => exact ⟨0, none, 0, [], Nat.zero_le _, rfl, rfl, hid rfl, Nat.le_refl _, hid (SL.nil _ _ _), hid (fun b hb => by simp [Value.ownBlock] at hb), HB1⟩
        case round =>
          obtain ⟨k, A', c', R, hk, rfl, rfl, HR, hRl, HRS, HOW, HB⟩ := hrel
          by_cases hkl : k < M.length
          · have hkl2 : (k : Int) < (M.length : Int) := by omega
            obtain ⟨g, off, rfl, hgl, k0, k1, k2⟩ := BlS.at3 (HS.out.below HB.out) hkl
            have hmk := makeG_take (t := s) (k := M.length) (least := least) hkl
            have hmem := List.getElem_mem hkl
            obtain ⟨b, hbb⟩ : ∃ b, M[k] = b := ⟨_, rfl⟩
            obtain ⟨f, t, m⟩ := b
            rw [hbb] at k0 k1 k2 hmk hmem
            rw [← HR.out] at hmk
            dsimp only at k0 k1 k2 hmk
            have hm1 : 1 ≤ m := HPOS.out _ hmem
            have hm2 : m ≤ s := by rw [HST.out]; exact le_totB HPOS.out _ hmem
            clear hbb hmem
            by_cases hml : m < least
            · have HMK : Hid (makeG s M.length least (M.take (k + 1)) = R) := hid (by rw [hmk, if_neg (by omega)]; simp)
              clear hmk
              go_wp2
              exact ⟨⟨k + 1, A', c', R, by omega, by simp, rfl, hid HMK.out.symm, by omega, hid (HRS.out.below (balloc (Below.refl _ wr) _)), HOW, hid (balloc HB.out _)⟩, by simp [intOf]; omega⟩
            · have HMK : Hid (makeG s M.length least (M.take (k + 1)) = R ++ [ruleOf s M.length (f, t, m)]) := hid (by rw [hmk, if_pos (by omega)])
              clear hmk
              have hcst := Lc.cost_any s M.length m
              have hce : Lc.costE s M.length m = 0 := by
                have hno : ¬ Lc.NoCost s M.length m := by unfold Lc.NoCost; omega
                rw [Lc.costE_yes hno, Lc.ratioE_yes (by unfold Lc.NoRatio; omega)]
              have hru : ruleOf s M.length (f, t, m) = (f, t, Lc.costV s M.length m) := rfl
              obtain ⟨cv, hcv⟩ : ∃ cv, Lc.costV s M.length m = cv := ⟨_, rfl⟩
              rw [hce] at hcst
              rw [hcv] at hcst hru
              rw [hru] at HMK
              have HCS := hid hcst
              obtain ⟨i0, hi, hz0, hz1, hz2⟩ := info_parts info35
              have hone : ∀ u ∈ [Value.string f, Value.string t, Value.int IntKind.i64 cv], u.oneCell' = true := by simp [Value.oneCell']
              have h63 : R.length + 1 ≤ maxLen := by simp only [maxLen]; omega
              have hby : (R.length + 1) * 40 ≤ 140737488355328 := by omega
              clear hcst hce hru hcv
              go_wp2_with (first
                | (go_at_call 26; refine (HCS.out _).mono ?_; rintro e w2 ⟨rfl, hb2⟩; have HBX := hid (bthen (balloc (Below.refl _ wr) _) hb2); have hxb := (hb2.block wr.heap.size (by simp)).trans (heap_alloc_new wr _); obtain ⟨x0, x1, x2, -, -, -⟩ := row3 hxb; have HR2 := hid (HRS.out.below HBX.out); have HLIT := hid (SL.lit w2 35 3 1 #[Value.string f, Value.string t, Value.int IntKind.i64 cv] rfl (by simp [maxLen])); clear hb2 hxb)
                | (at_builtin; refine wpList_append_SLs rfl _ _ _ rfl 35 i0 _ 3 40 Tryz.underlying29 hi hz0 hz1 hz2 rfl (by decide) (.slice A' R.length c') R.length (R.flatMap blkC) rfl (SL.alloc HR2.out _) _ 1 [Value.string f, Value.string t, Value.int IntKind.i64 cv] rfl HLIT.out hone (R.length + 1) _ rfl rfl h63 hby ?_; intro A2 c2 w3 hs2 hg2 ho2; have HS2 := hid hs2; have HG2 := hid hg2; have HO2 := hid ho2; clear hs2 hg2 ho2))
              have e1 : (makeG s M.length least (M.take (k + 1))).length = R.length + 1 := by rw [HMK.out]; simp
              refine ⟨⟨k + 1, A2, c2, makeG s M.length least (M.take (k + 1)), by omega, by simp, by rw [e1], hid rfl, by omega, hid ?_, hid (fun b hb => ?_), hid ?_⟩, by simp [intOf]; omega⟩
              · unfold RuS
                rw [e1, HMK.out, List.flatMap_append]
                exact HS2.out
              · rw [e1] at hb
                rcases HO2.out b hb with h1 | h1
                · exact HOW.out b h1
                · have := HBX.out.size
                  have := HB.out.size
                  rw [World.size_alloc] at h1
                  omega
              · exact (Touch.grown (F := fun k => (Value.slice A' R.length c').ownBlock = some k) (((Touch.of_below HBX.out (Nat.le_refl _)).mono (fun _ h => h.elim)).alloc _) HG2.out (fun k hk => .inl hk)).below HB.out (fun b hb => HOW.out b hb)
          · obtain rfl : k = M.length := by omega
            have hkl2 : ¬ (M.length : Int) < (M.length : Int) := by omega
            have hR2 : R = makeR M least := by have := HR.out; rw [HMR.out, List.take_length] at this; exact this
            subst hR2
            go_wp2
            go_ret2
            exact ⟨HB.out, .inr (.inr ⟨HQ.out, by omega, by omega, A', c', rfl, HRS.out, HOW.out⟩)⟩
  · have hE : totE M = (0, chkC M) := by rw [totE, if_neg hq]
    rw [hE] at htot
    obtain ⟨q, hqq⟩ : ∃ q, chkC M = q := ⟨_, rfl⟩
    rw [hqq] at htot hq
    have HQ := hid hqq
    have HN := hid hq
    have hqb : (q != 0) = true := by rw [bne_iff_ne]; exact hq
    have HTO := hid htot
    clear htot hE hqq
    go_enter Tryz.func10, Tryz.ntmps10
    go_wp2_with (go_at_call 11; refine HTO.out.mono ?_; rintro e w1 ⟨rfl, hb1⟩; have HB1 := hid hb1; clear hb1)
    go_ret2
    exact ⟨HB1.out, .inl ⟨by rw [HQ.out]; exact HN.out, by rw [HQ.out]; rfl⟩⟩
end Go.Proofs.YteigplfldhdakaaGreatDoor
/- erratatop: great. -/
namespace Go.Proofs.YteigplfldhdakaaGreatDoor
set_option linter.unusedVariables false
set_option linter.unusedSimpArgs false
open Go.RowKit Go.Shelf
attribute [local go_sem ↓] Go.wp_at_zero Go.wp_at_succ
/-- v is a slice of texts: these; wherever it came from -/
def TxS (W : World) (v : Value) (L : List ByteArray) : Prop :=
  ∃ a c, v = .slice a L.length c ∧ ∀ k (hk : k < L.length), ∃ x, a = some x ∧ x.block < W.heap.size ∧ W.cell? (x.add k) = some (.string L[k])
theorem TxS.below {w W : World} {v : Value} {L : List ByteArray} (h : TxS w v L) (hb : Below w.heap.size w W) : TxS W v L := by
  obtain ⟨a, c, hv, h⟩ := h
  refine ⟨a, c, hv, fun k hk => ?_⟩
  obtain ⟨x, hx, hl, hp⟩ := h k hk
  exact ⟨x, hx, Nat.lt_of_lt_of_le hl hb.size, (World.cell?_of_block (a := x.add k) (by rw [add_block]; exact hb.block x.block hl)).trans hp⟩
theorem TxS.nil (w : World) : TxS w (.slice none 0 0) [] := ⟨none, 0, rfl, fun k hk => by simp at hk⟩
def lenP : List (ByteArray × ByteArray) → Int
  | [] => 0
  | x :: r => (x.1.size : Int) + (x.2.size : Int) + lenP r
def lenS : List ByteArray → Int
  | [] => 0
  | x :: r => (x.size : Int) + lenS r
theorem lenP_take {L : List (ByteArray × ByteArray)} {k : Nat} (hk : k < L.length) : lenP (L.take (k + 1)) = lenP (L.take k) + ((L[k].1.size : Int) + (L[k].2.size : Int)) := by
  induction L generalizing k with
  | nil => simp at hk
  | cons x r ih =>
    cases k with
    | zero => simp [lenP]
    | succ k =>
      simp only [List.take_succ_cons, lenP, List.getElem_cons_succ]
      rw [ih (by simpa using hk)]
      omega
theorem lenS_take {L : List ByteArray} {k : Nat} (hk : k < L.length) : lenS (L.take (k + 1)) = lenS (L.take k) + (L[k].size : Int) := by
  induction L generalizing k with
  | nil => simp at hk
  | cons x r ih =>
    cases k with
    | zero => simp [lenS]
    | succ k =>
      simp only [List.take_succ_cons, lenS, List.getElem_cons_succ]
      rw [ih (by simpa using hk)]
      omega
def greatB (L : List (ByteArray × ByteArray)) (l2 : List ByteArray) : Bool := decide (1000 < lenP L + lenS l2) || decide (30 < L.length)
set_option maxRecDepth 100000 in
set_option maxHeartbeats 4000000 in
theorem great_c {w : World} {v v2 : Value} {L : List (ByteArray × ByteArray)} {l2 : List ByteArray} (h : PrS w v L) (hs : smallP L) (h2 : TxS w v2 l2) (hs2 : ∀ s ∈ l2, s.size ≤ 1048576) (hl : L.length ≤ 1000000000) (hl2 : l2.length ≤ 1000000000) :
    Calls Tryz.prog 9 #[v, .slice none 0 0, v2] w fun e w' => e = .returned (.bool (greatB L l2)) ∧ Below w.heap.size w w' := by
  have HS := hid h
  have HS2 := hid h2
  have HSM := hid hs
  have HSM2 := hid hs2
  obtain ⟨a, c, rfl, -⟩ := h
  obtain ⟨a2, c2, rfl, -⟩ := h2
  clear hs hs2
  go_enter Tryz.func9, Tryz.ntmps9
  go_wp2
  go_loopw [7, 16] (fun nv iv wr => ∃ (k : Nat) (n : Int), k ≤ L.length ∧ iv = .int .i64 (k : Int) ∧ nv = .int .i64 n ∧ 0 ≤ n ∧ n ≤ (k : Int) * 2097152 ∧ Hid (n = lenP (L.take k)) ∧ Hid (Below w.heap.size w wr)) (fun nv iv _ => L.length - (intOf iv).toNat)
  case atStart => exact ⟨0, 0, Nat.zero_le _, rfl, rfl, by omega, by omega, hid rfl, hid (Below.refl _ _)⟩
  case round =>
    obtain ⟨k, n, hk, rfl, rfl, hn0, hn1, HN, HB⟩ := hrel
    by_cases hkl : k < L.length
    · have hkl2 : (k : Int) < (L.length : Int) := by omega
      obtain ⟨a', c', hv, hp2⟩ := HS.out.below HB.out
      cases hv
      obtain ⟨x, rfl, hxl, q0, q1⟩ := hp2 k hkl
      have hsm := HSM.out _ (List.getElem_mem hkl)
      have htk := lenP_take hkl
      rw [← HN.out] at htk
      obtain ⟨y, hy⟩ : ∃ y, L[k] = y := ⟨_, rfl⟩
      obtain ⟨f, t⟩ := y
      rw [hy] at q0 q1 hsm htk
      dsimp only at q0 q1 hsm htk
      obtain ⟨ad, had⟩ : ∃ ad, x.add (k * 2) = ad := ⟨_, rfl⟩
      rw [had] at q0 q1
      have HTK := hid htk
      have hw1 : IntKind.i64.wrap ((f.size : Int) + (t.size : Int)) = (f.size : Int) + (t.size : Int) := by rw [IntKind.wrap_i64]; omega
      have hw2 : IntKind.i64.wrap (n + ((f.size : Int) + (t.size : Int))) = n + ((f.size : Int) + (t.size : Int)) := by rw [IntKind.wrap_i64]; omega
      clear hp2 hy htk
      go_wp2
      exact ⟨⟨k + 1, n + ((f.size : Int) + (t.size : Int)), by omega, by simp, by simp, by omega, by omega, hid HTK.out.symm, hid (balloc HB.out _)⟩, by simp [intOf]; omega⟩
    · obtain rfl : k = L.length := by omega
      have hkl2 : ¬ (L.length : Int) < (L.length : Int) := by omega
      rw [List.take_length] at HN
      go_wp2
      go_loopw [7, 32] (fun nv iv wq => nv = .int .i64 n ∧ iv = .int .i64 0 ∧ Hid (Below w.heap.size w wq)) (fun _ _ _ => 0)
      case atStart => exact ⟨rfl, rfl, HB⟩
      case round =>
        obtain ⟨rfl, rfl, HB2⟩ := hrel
        clear HB
        go_wp2
        go_loopw [7, 44] (fun nv iv wq => ∃ (k : Nat) (m : Int), k ≤ l2.length ∧ iv = .int .i64 (k : Int) ∧ nv = .int .i64 m ∧ 0 ≤ m ∧ m ≤ n + (k : Int) * 1048576 ∧ Hid (m = n + lenS (l2.take k)) ∧ Hid (Below w.heap.size w wq)) (fun nv iv _ => l2.length - (intOf iv).toNat)
        case atStart => exact ⟨0, n, Nat.zero_le _, rfl, rfl, by omega, by omega, hid (by simp [lenS]), HB2⟩
        case round =>
          obtain ⟨j, m, hj, rfl, rfl, hm0, hm1, HM, HB3⟩ := hrel
          clear HB2
          by_cases hjl : j < l2.length
          · have hjl2 : (j : Int) < (l2.length : Int) := by omega
            obtain ⟨a', c', hv, hp2⟩ := HS2.out.below HB3.out
            cases hv
            obtain ⟨x, rfl, hxl, q0⟩ := hp2 j hjl
            have hsm := HSM2.out _ (List.getElem_mem hjl)
            have htk := lenS_take hjl
            obtain ⟨y, hy⟩ : ∃ y, l2[j] = y := ⟨_, rfl⟩
            rw [hy] at q0 hsm htk
            obtain ⟨ad, had⟩ : ∃ ad, x.add j = ad := ⟨_, rfl⟩
            rw [had] at q0
            have HTK : Hid (m + (y.size : Int) = n + lenS (l2.take (j + 1))) := hid (by rw [htk, HM.out]; omega)
            have hw1 : IntKind.i64.wrap (m + (y.size : Int)) = m + (y.size : Int) := by rw [IntKind.wrap_i64]; omega
            clear hp2 hy htk
            go_wp2
            exact ⟨⟨j + 1, m + (y.size : Int), by omega, by simp, by simp, by omega, by omega, HTK, HB3⟩, by simp [intOf]; omega⟩
          · obtain rfl : j = l2.length := by omega
            have hjl2 : ¬ (l2.length : Int) < (l2.length : Int) := by omega
            have hE : greatB L l2 = (decide (1000 < m) || decide (30 < L.length)) := by
              have := HM.out
              rw [List.take_length, HN.out] at this
              rw [greatB, ← this]
            have HE := hid hE
            clear hE
            by_cases h1 : 1000 < m
            · have HE2 : Hid (greatB L l2 = true) := hid (by rw [HE.out]; simp [h1])
              go_wp2
              go_ret
              exact ⟨by rw [HE2.out]; rfl, HB3.out⟩
            · by_cases h3 : 30 < L.length
              · have h3i : (30 : Int) < (L.length : Int) := by omega
                have HE2 : Hid (greatB L l2 = true) := hid (by rw [HE.out]; simp [h3])
                go_wp2
                go_ret
                exact ⟨by rw [HE2.out]; rfl, HB3.out⟩
              · have h3i : ¬ (30 : Int) < (L.length : Int) := by omega
                have HE2 : Hid (greatB L l2 = false) := hid (by rw [HE.out]; simp [h1, h3])
                go_wp2
                go_ret
                exact ⟨by rw [HE2.out]; rfl, HB3.out⟩
end Go.Proofs.YteigplfldhdakaaGreatDoor
/- TopPowers, where awake is true. -/
namespace Go.Proofs.YteigplfldhdakaaGreatDoor
set_option linter.unusedVariables false
set_option linter.unusedSimpArgs false
open Go.RowKit Go.Shelf
attribute [local go_sem ↓] Go.wp_at_zero Go.wp_at_succ
/-- what is learnt corrects -/
def AwakeC : Prop := ∀ w : World, Tab w → Calls Tryz.prog 7 #[] w fun e w' => e = .returned (.bool true) ∧ Below w.heap.size w w'
theorem RuS.at3 {w : World} {A : Option Addr} {c : Nat} {L : List Blk} (h : RuS w (.slice A L.length c) L) {k : Nat} (hk : k < L.length) :
    ∃ g off, A = some ⟨g, off, none⟩ ∧ g < w.heap.size ∧ w.cell? ⟨g, off + k * 3, none⟩ = some (.string L[k].1) ∧ w.cell? ⟨g, off + k * 3 + 1, none⟩ = some (.string L[k].2.1) ∧ w.cell? ⟨g, off + k * 3 + 2, none⟩ = some (.int .i64 L[k].2.2) := by
  obtain ⟨g, off, cap, hv, _, _, _, _⟩ := SL.open_ h (by omega)
  obtain ⟨rfl, -, rfl⟩ := Value.slice.inj hv
  have hc := SL.cellsK (enc := blkC) blkC_len h k hk
  rw [getElem!_pos L k hk] at hc
  exact ⟨g, off, rfl, SL.lt h g rfl, hc 0 _ rfl, hc 1 _ rfl, hc 2 _ rfl⟩
theorem makeR_one {M : List Blk} (h : posC M) : makeR M 1 = M.map (ruleOf (totB M) M.length) := by
  unfold makeR makeG
  rw [List.filter_eq_self.2 (fun b hb => decide_eq_true (h b hb))]
theorem make_one {w : World} {v : Value} {M : List Blk} (h : BlS w v M) (hc : chkC M = 0) (hpos : posC M) (hM : ∀ b ∈ M, smallB b) (hT : Tab w) (hl : M.length ≤ 4096) : Calls Tryz.prog 10 #[v, .int .i64 1] w fun e w' =>
    Below w.heap.size w w' ∧ ∃ A c, e = .returned (.tuple #[.slice A (M.map (ruleOf (totB M) M.length)).length c, .int .i64 0]) ∧ RuS w' (.slice A (M.map (ruleOf (totB M) M.length)).length c) (M.map (ruleOf (totB M) M.length)) :=
  (make_c h hM hT (by omega) 1 (by omega)).mono fun e w' ⟨h1, h2⟩ => by
    rcases h2 with ⟨h2, _⟩ | ⟨_, h2, _⟩ | ⟨_, _, _, A, c, h3, h4, _⟩
    · exact absurd hc h2
    · omega
    · rw [makeR_one hpos] at h3 h4
      exact ⟨h1, A, c, h3, h4⟩
theorem total_one {w : World} {v : Value} {M : List Blk} (h : BlS w v M) (hc : chkC M = 0) (hM : ∀ b ∈ M, smallB b) (hT : Tab w) (hl : M.length ≤ 4096) : Calls Tryz.prog 11 #[v] w fun e w' =>
    e = .returned (.tuple #[.int .i64 (totB M), .int .i64 0]) ∧ Below w.heap.size w w' := by
  obtain ⟨_, _, ⟨s, hs⟩, _⟩ := chkC_zero hc
  have hE : totE M = (totB M, 0) := by
    have := (sumG_some hs).1
    rw [totE, if_pos hc, hs]
    show (s, (0 : Int)) = _
    rw [this, Int.zero_add]
  have := total_c h hM hT (by omega)
  rw [hE] at this
  exact this
set_option maxRecDepth 100000 in
set_option maxHeartbeats 4000000 in
theorem powers_law (hA : AwakeC) {w : World} {v : Value} {L : List (ByteArray × ByteArray)} (h : PrS w v L) (hs : smallP L) (hT : Tab w) (hl : L.length ≤ 1000000000) : Calls Tryz.prog 3 #[v] w fun e w' => e = .returned (.bool true) ∧ Below w.heap.size w w' := by
  have haw := hA w hT
  have hpr := fun W (hb : Below w.heap.size w W) => pairs_c (h.below hb) hs (hT.bel hb)
  have hgr := fun W (hb : Below w.heap.size w W) => great_c (h.below hb) hs (TxS.nil W) (fun s h => by simp at h) hl (by simp)
  have HAW := hid haw
  have HT := hid hT
  obtain ⟨a, c, rfl, -⟩ := h
  by_cases hg : greatB L [] = true
  · rw [hg] at hgr
    have hpr2 : ∀ W, Below w.heap.size w W → Calls Tryz.prog 8 #[.slice a L.length c] W fun e w' => (∃ A n c q, e = .returned (.tuple #[.slice A n c, .int .i64 q])) ∧ Below W.heap.size W w' := fun W hb => (hpr W hb).mono fun e w' hq => by
      rcases hq with ⟨_, h1, h2⟩ | ⟨_, _, h1, h2⟩ | ⟨_, _, _, h1⟩
      · exact ⟨⟨_, _, _, _, h1⟩, h2⟩
      · exact ⟨⟨_, _, _, _, h1⟩, h2⟩
      · exact ⟨h1.form, h1.1⟩
    have HPR := hid hpr2
    have HGR := hid hgr
    clear haw hpr hgr hpr2
    go_enter Tryz.func3, Tryz.ntmps3
    go_wp2_with (first
      | (go_at_call 7; refine HAW.out.mono ?_; rintro e w1 ⟨rfl, hb1⟩; have HB1 := hid hb1; clear hb1)
      | (go_at_call 8; refine (HPR.out _ HB1.out).mono ?_; rintro e w2 ⟨⟨A2, n2, c2, q2, rfl⟩, hb2⟩; have HB2 := hid (bthen HB1.out hb2); clear hb2)
      | (go_at_call 9; refine (HGR.out _ HB2.out).mono ?_; rintro e w3 ⟨rfl, hb3⟩; have HB3 := hid (bthen HB2.out hb3); clear hb3))
    go_ret
    exact ⟨rfl, HB3.out⟩
  · have hg2 : greatB L [] = false := by simpa using hg
    rw [hg2] at hgr
    have HGR := hid hgr
    have hcase : ∀ W, Below w.heap.size w W → Calls Tryz.prog 8 #[.slice a L.length c] W fun e w' => Below W.heap.size W w' ∧ ((∃ q, q ≠ 0 ∧ e = .returned (.tuple #[.slice none 0 0, .int .i64 q])) ∨
        ∃ A c M, e = .returned (.tuple #[.slice A M.length c, .int .i64 0]) ∧ BlS w' (.slice A M.length c) M ∧ chkC M = 0 ∧ posC M ∧ M.length ≤ 4096 ∧ (∀ b ∈ M, smallB b) ∧ ∃ s, sumG 0 M = some s) := fun W hb => (hpr W hb).mono fun e w' hq => by
      rcases hq with ⟨_, h1, h2⟩ | ⟨_, h0, h1, h2⟩ | ⟨_, _, hsm, h1, h2⟩
      · exact ⟨h2, .inl ⟨6, by decide, h1⟩⟩
      · exact ⟨h2, .inl ⟨_, h0, h1⟩⟩
      · rcases h2 with ⟨h2, h3⟩ | ⟨_, _, h3⟩ | ⟨h2, h3, h4, A, c, M', h5, h6, h7, h8, _⟩
        · exact ⟨h1, .inl ⟨_, h2, h3⟩⟩
        · exact ⟨h1, .inl ⟨6, by decide, h3⟩⟩
        · obtain ⟨s, hs⟩ : ∃ s, sumG 0 (prM L) = some s := by
            cases hq : sumG 0 (prM L) with
            | none => exact absurd hq h3
            | some s => exact ⟨s, rfl⟩
          obtain ⟨k1, k2, k3, k4⟩ := table_ok h2 hs h4 h6 h7
          exact ⟨h1, .inr ⟨A, c, M', h5, h8, k1, k3, k4, table_small hsm h6, s, k2⟩⟩
    have HPR := hid hcase
    clear haw hpr hgr hcase hg hg2
    go_enter Tryz.func3, Tryz.ntmps3
    go_wp2_with (first
      | (go_at_call 7; refine HAW.out.mono ?_; rintro e w1 ⟨rfl, hb1⟩; have HB1 := hid hb1; clear hb1)
      | (go_at_call 8; refine (HPR.out _ HB1.out).mono ?_; rintro e w2 ⟨hb2, ⟨q, hq, rfl⟩ | ⟨A, c2, M, rfl, hm1, hm2, hm3, hm4, hm5, s, hm6⟩⟩)
      | (go_at_call 9; refine (HGR.out _ (bthen HB1.out hb2)).mono ?_; rintro e w3 ⟨rfl, hb3⟩; have HB3 := hid (bthen (bthen HB1.out hb2) hb3))
      | (go_at_call 10; have HM3 := hid (hm1.below hb3); refine (make_one HM3.out hm2 hm3 hm5 (HT.out.bel HB3.out) hm4).mono ?_; rintro e w4 ⟨hb4, A4, c4, rfl, hr4⟩; have HB4 := hid (bthen HB3.out hb4); have HM4 := hid (HM3.out.below hb4); have HR4 := hid hr4; clear hb4 hr4)
      | (go_at_call 11; refine (total_one HM4.out hm2 hm5 (HT.out.bel HB4.out) hm4).mono ?_; rintro e w5 ⟨rfl, hb5⟩; have HB5 := hid (bthen HB4.out hb5); have HM5 := hid (HM4.out.below hb5); have HR5 := hid (HR4.out.below hb5); clear hb5))
    · go_ret
      exact ⟨rfl, HB3.out⟩
    · have hle : totB M ≤ 1073741824 ∧ 0 ≤ totB M := by
        have h1 := sumG_some hm6
        have := h1.2 (by omega)
        exact ⟨by omega, totB_nonneg hm3⟩
      have hR : ∀ k (hk : k < M.length), (M.map (ruleOf (totB M) M.length)).getD k blk0 = (M[k].1, M[k].2.1, Lc.costV (totB M) M.length M[k].2.2) := fun k hk => by
        rw [List.getD_eq_getElem?_getD, List.getElem?_map, List.getElem?_eq_getElem hk]; rfl
      have hRl : (M.map (ruleOf (totB M) M.length)).length = M.length := List.length_map _
      have HPOS := hid hm3
      have hlt := fun b hb => le_totB hm3 b hb
      have HLT := hid hlt
      obtain ⟨R, hRR⟩ : ∃ R, M.map (ruleOf (totB M) M.length) = R := ⟨_, rfl⟩
      rw [hRR] at HR5 hR hRl
      have HRG := hid hR
      rw [hRl] at HR5
      obtain ⟨tt, htt⟩ : ∃ tt, totB M = tt := ⟨_, rfl⟩
      rw [htt] at hle HLT HRG ⊢
      clear hm1 hm2 hm3 hm5 hm6 HR4 HM3 HM4 hlt hR hRR htt
      go_loopw [51] (fun iv wr => ∃ i : Nat, i ≤ M.length ∧ iv = .int .i64 (i : Int) ∧ Hid (Below w.heap.size w wr) ∧ Hid (BlS wr (.slice A M.length c2) M) ∧ Hid (SL wr 35 3 (.slice A4 M.length c4) M.length (R.flatMap blkC))) (fun iv _ => M.length - (intOf iv).toNat)
      case atStart =>
        refine ⟨0, Nat.zero_le _, rfl, HB5, HM5, hid ?_⟩
        have := HR5.out
        unfold RuS at this
        rw [hRl] at this
        exact this
      case round =>
        obtain ⟨i, hi, rfl, HB, HM, HR⟩ := hrel
        by_cases hil : i < M.length
        · have hil2 : (i : Int) < (M.length : Int) := by omega
          obtain ⟨g, off, rfl, hgl, k0, k1, k2⟩ := BlS.at3 HM.out hil
          have hrus : RuS wr (.slice A4 R.length c4) R := by unfold RuS; rw [hRl]; exact HR.out
          obtain ⟨g4, off4, rfl, hgl4, r0, r1, r2⟩ := RuS.at3 hrus (k := i) (by omega)
          have hg := HRG.out i hil
          rw [List.getD_eq_getElem?_getD, List.getElem?_eq_getElem (by omega), Option.getD_some] at hg
          have hmem := List.getElem_mem hil
          obtain ⟨b, hbb⟩ : ∃ b, M[i] = b := ⟨_, rfl⟩
          obtain ⟨f, t, m⟩ := b
          rw [hbb] at k0 k1 k2 hg hmem
          rw [hg] at r0 r1 r2
          have hm1 : 1 ≤ m := HPOS.out _ hmem
          have hm2 : m ≤ tt := HLT.out _ hmem
          dsimp only at k0 k1 k2 r0 r1 r2
          have hra := fun W => Lc.ratio_any (tt + M.length) (m + 1) W
          have hno : ¬ Lc.NoRatio (tt + M.length) (m + 1) := by unfold Lc.NoRatio; omega
          have hnc : ¬ Lc.NoCost tt M.length m := by unfold Lc.NoCost; omega
          rw [Lc.costV_yes hnc] at r2
          rw [Lc.ratioE_yes hno] at hra
          obtain ⟨kk, hkk⟩ : ∃ kk, Lc.ratioK (tt + M.length) (m + 1) = kk := ⟨_, rfl⟩
          rw [hkk] at hra r2
          have HRA := hid hra
          have hw1 : IntKind.i64.wrap (tt + (M.length : Int)) = tt + (M.length : Int) := by rw [IntKind.wrap_i64]; omega
          have hw2 : IntKind.i64.wrap (m + 1) = m + 1 := by rw [IntKind.wrap_i64]; omega
          clear hra hno hnc hkk hg hmem hbb hrus
          have hcl : ∀ W, Below wr.heap.size wr W → W.cell? ⟨g, off + i * 3, none⟩ = some (.string f) ∧ W.cell? ⟨g, off + i * 3 + 1, none⟩ = some (.string t) := fun W hb => ⟨(World.cell?_of_block (hb.block g hgl)).trans k0, (World.cell?_of_block (hb.block g hgl)).trans k1⟩
          have HCL := hid hcl
          clear hcl
          go_wp2_with (go_at_call 12; refine (HRA.out _).mono ?_; rintro e w6 ⟨rfl, hb6⟩; have HBX := hid (bthen (balloc (Below.refl _ wr) _) hb6); have hxb := (hb6.block wr.heap.size (by simp)).trans (heap_alloc_new wr _); obtain ⟨x0, x1, x2, -, -, -⟩ := row3 hxb; obtain ⟨y0, y1⟩ := HCL.out _ HBX.out; clear hb6 hxb)
          go_quiet (fail)
          go_wp2
          exact ⟨⟨i + 1, by omega, by simp, hid (Below.drewN' (bthen HB.out HBX.out) nq), hid ((HM.out.below HBX.out).drewN nq), hid (SL.drewN (SL.keep HR.out fun k hk => HBX.out.block k (SL.lt HR.out k hk)) nq)⟩, by simp [intOf]; omega⟩
        · obtain rfl : i = M.length := by omega
          have hil2 : ¬ (M.length : Int) < (M.length : Int) := by omega
          go_wp2
          go_ret
          exact ⟨rfl, HB.out⟩
end Go.Proofs.YteigplfldhdakaaGreatDoor
/- runes.Letter. -/
namespace Go.Proofs.YteigplfldhdakaaGreatDoor
set_option linter.unusedVariables false
set_option linter.unusedSimpArgs false
open Go.RowKit Go.Shelf
attribute [local go_sem ↓] Go.wp_at_zero Go.wp_at_succ
set_option maxRecDepth 100000 in
set_option maxHeartbeats 1000000 in
theorem between_c (r lo hi : Int) (w : World) : Calls Tryz.prog 167 #[.int .i32 r, .int .i32 lo, .int .i32 hi] w fun e w' => e = .returned (.bool (decide (lo ≤ r) && decide (r ≤ hi))) ∧ w' = w := by
  by_cases h1 : lo ≤ r
  · go_enter Tryz.func167, Tryz.ntmps167
    go_wp2
    go_ret
    exact ⟨by simp [h1], rfl⟩
  · go_enter Tryz.func167, Tryz.ntmps167
    go_wp2
    go_ret
    exact ⟨by have h2 : ¬ lo ≤ r := by omega
              simp [h2], rfl⟩
def btw (r lo hi : Int) : Bool := decide (lo ≤ r) && decide (r ≤ hi)
/-- is a rune a letter? -/
def letF (r : Int) : Bool := if Lib.validRune r = false ∨ r = 215 ∨ r = 247 ∨ btw r 8192 8303 = true then false else decide (192 ≤ r) || btw r 65 90 || btw r 97 122
theorem btw_c (r lo hi : Int) (w : World) : Calls Tryz.prog 167 #[.int .i32 r, .int .i32 lo, .int .i32 hi] w fun e w' => e = .returned (.bool (btw r lo hi)) ∧ w' = w := between_c r lo hi w
set_option maxRecDepth 100000 in
set_option maxHeartbeats 4000000 in
theorem letter_c (r : Int) (w : World) : Calls Tryz.prog 116 #[.int .i32 r] w fun e w' => e = .returned (.bool (letF r)) ∧ w' = w := by
  have hv := fun W => Tryz.utf8_ValidRune r W
  obtain ⟨vb, hvb⟩ : ∃ b, Lib.validRune r = b := ⟨_, rfl⟩
  have HE : Hid (letF r = if vb = false ∨ r = 215 ∨ r = 247 ∨ btw r 8192 8303 = true then false else decide (192 ≤ r) || btw r 65 90 || btw r 97 122) := hid (by rw [letF, hvb])
  rw [hvb] at hv
  have HV := hid hv
  clear hv hvb
  cases vb
  · have HE2 : Hid (letF r = false) := hid (by rw [HE.out]; simp)
    go_enter Tryz.func116, Tryz.ntmps116
    go_wp2_with (go_at_call 166; refine (HV.out _).mono ?_; rintro e w1 ⟨rfl, rfl⟩)
    go_ret
    exact ⟨by rw [HE2.out]; rfl, rfl⟩
  · by_cases h1 : r = 215
    · have HE2 : Hid (letF r = false) := hid (by rw [HE.out]; simp [h1])
      subst h1
      go_enter Tryz.func116, Tryz.ntmps116
      go_wp2_with (go_at_call 166; refine (HV.out _).mono ?_; rintro e w1 ⟨rfl, rfl⟩)
      go_ret
      exact ⟨by rw [HE2.out]; rfl, rfl⟩
    · by_cases h2 : r = 247
      · have HE2 : Hid (letF r = false) := hid (by rw [HE.out]; simp [h2])
        subst h2
        go_enter Tryz.func116, Tryz.ntmps116
        go_wp2_with (go_at_call 166; refine (HV.out _).mono ?_; rintro e w1 ⟨rfl, rfl⟩)
        go_ret
        exact ⟨by rw [HE2.out]; rfl, rfl⟩
      · have e1 : (r == 215) = false := by rw [beq_eq_false_iff_ne]; exact h1
        have e2 : (r == 247) = false := by rw [beq_eq_false_iff_ne]; exact h2
        cases hb1 : btw r 8192 8303
        · have HE2 : Hid (letF r = (decide (192 ≤ r) || btw r 65 90 || btw r 97 122)) := hid (by rw [HE.out]; simp [h1, h2, hb1])
          clear HE
          by_cases h3 : 192 ≤ r
          · have HE3 : Hid (letF r = true) := hid (by rw [HE2.out]; simp [h3])
            clear HE2
            go_enter Tryz.func116, Tryz.ntmps116
            go_wp2_with (first
              | (go_at_call 166; refine (HV.out _).mono ?_; rintro e w1 ⟨rfl, rfl⟩)
              | (go_at_call 167; refine (btw_c _ _ _ _).mono ?_; rintro e w1 ⟨rfl, rfl⟩; simp only [hb1]))
            go_ret
            exact ⟨by rw [HE3.out]; rfl, rfl⟩
          · cases hb2 : btw r 65 90
            · cases hb3 : btw r 97 122
              · have HE3 : Hid (letF r = false) := hid (by rw [HE2.out]; simp [h3, hb2, hb3])
                clear HE2
                go_enter Tryz.func116, Tryz.ntmps116
                go_wp2_with (first
                  | (go_at_call 166; refine (HV.out _).mono ?_; rintro e w1 ⟨rfl, rfl⟩)
                  | (go_at_call 167; refine (btw_c _ _ _ _).mono ?_; rintro e w1 ⟨rfl, rfl⟩; simp only [hb1, hb2, hb3]))
                go_ret
                exact ⟨by have h9 : ¬ 192 ≤ r := by omega
                          rw [HE3.out]; simp [h9], rfl⟩
              · have HE3 : Hid (letF r = true) := hid (by rw [HE2.out]; simp [h3, hb2, hb3])
                clear HE2
                go_enter Tryz.func116, Tryz.ntmps116
                go_wp2_with (first
                  | (go_at_call 166; refine (HV.out _).mono ?_; rintro e w1 ⟨rfl, rfl⟩)
                  | (go_at_call 167; refine (btw_c _ _ _ _).mono ?_; rintro e w1 ⟨rfl, rfl⟩; simp only [hb1, hb2, hb3]))
                go_ret
                exact ⟨by rw [HE3.out]; rfl, rfl⟩
            · have HE3 : Hid (letF r = true) := hid (by rw [HE2.out]; simp [h3, hb2])
              clear HE2
              go_enter Tryz.func116, Tryz.ntmps116
              go_wp2_with (first
                | (go_at_call 166; refine (HV.out _).mono ?_; rintro e w1 ⟨rfl, rfl⟩)
                | (go_at_call 167; refine (btw_c _ _ _ _).mono ?_; rintro e w1 ⟨rfl, rfl⟩; simp only [hb1, hb2]))
              go_ret
              exact ⟨by rw [HE3.out]; rfl, rfl⟩
        · have HE2 : Hid (letF r = false) := hid (by rw [HE.out]; simp [hb1])
          go_enter Tryz.func116, Tryz.ntmps116
          go_wp2_with (first
            | (go_at_call 166; refine (HV.out _).mono ?_; rintro e w1 ⟨rfl, rfl⟩)
            | (go_at_call 167; refine (btw_c _ _ _ _).mono ?_; rintro e w1 ⟨rfl, rfl⟩; simp only [hb1]))
          go_ret
          exact ⟨by rw [HE2.out]; rfl, rfl⟩
end Go.Proofs.YteigplfldhdakaaGreatDoor
/- text.row. -/
namespace Go.Proofs.YteigplfldhdakaaGreatDoor
set_option linter.unusedVariables false
set_option linter.unusedSimpArgs false
open Go.RowKit Go.Shelf
attribute [local go_sem ↓] Go.wp_at_zero Go.wp_at_succ
/-- how far a row of letters, or of others, goes -/
def rowG (s : ByteArray) (l : Bool) : Nat → Nat → Int → Int
  | 0, _, n => n
  | f + 1, p, n => if p < s.size then (if letF (Utf8.decode s p).1 = l then rowG s l f (p + (Utf8.decode s p).2) (p + Lib.runeLen (Utf8.decode s p).1) else n) else n
def rowF (s : ByteArray) (l : Bool) : Int := rowG s l s.size 0 0
theorem width_pos (s : ByteArray) (pos : Nat) (h : pos < s.size) : 1 ≤ (Utf8.decode s pos).2 := by
  unfold Utf8.decode
  dsimp only
  split
  · exact Nat.le_refl _
  · split
    · split <;> dsimp only <;> omega
    · split
      · split <;> dsimp only <;> omega
      · split
        · split <;> dsimp only <;> omega
        · exact Nat.le_refl _
theorem iterPos_of {w : World} {k : Nat} {s : ByteArray} {p : Nat} (h : w.heap[k]? = some (.stringIter s p)) : w.iterPos k = p := by simp [World.iterPos, h]
set_option maxRecDepth 100000 in
set_option maxHeartbeats 4000000 in
theorem row_c (s : ByteArray) (l : Bool) (hs : s.size ≤ 1048576) (w : World) : Calls Tryz.prog 75 #[.string s, .bool l] w fun e w' => e = .returned (.int .i64 (rowF s l)) ∧ Below w.heap.size w w' := by
  have hlet := fun r W => letter_c r W
  have hlen := fun r W => Tryz.utf8_RuneLen r W
  refine (callsIn_wide (n := 6)).1 ?_
  refine callsIn_of_wp Tryz.func75 rfl trivial ?_ rfl
  simp only [Tryz.ntmps75, List.size_toArray, List.length_cons, List.length_nil, Nat.reduceAdd, Nat.reduceSub, Array.replicate_succ, Array.replicate_zero, List.push_toArray, List.append_toArray, List.nil_append, List.cons_append]
  gi_wp2
  refine wpIn_scope_straight ?_
  gi_wp2
  refine wpIn_label ?_
  gi_wp2
  have hit0 := World.iter_heap w s 0
  have hb0 : Below w.heap.size w (w.iter s 0) := balloc (Below.refl _ w) _
  gi_loopw [4] (fun nv wr => ∃ (pos fuel : Nat) (n : Int), wr.heap[w.heap.size]? = some (.stringIter s pos) ∧ nv = .int .i64 n ∧ Below w.heap.size w wr ∧ Hid (rowF s l = rowG s l fuel pos n) ∧ s.size ≤ pos + fuel ∧ -1 ≤ n ∧ n ≤ pos + 4) (fun _ wr => s.size - wr.iterPos w.heap.size)
  case atStart => exact ⟨0, s.size, 0, hit0, rfl, hb0, hid rfl, by omega, by omega, by omega⟩
  case round =>
    obtain ⟨pos, fuel, n, hit, rfl, hb, HE, hf, hn0, hn1⟩ := hrel
    have hpos0 := iterPos_of hit
    by_cases hp : pos < s.size
    · have hnx : ∀ ty, (Instr.next (.pointer (some ⟨w.heap.size, 0, none⟩)) true ty).run Tryz.prog wr = _ := fun ty => Lib.run_next_any_at wr w.heap.size s pos ty hit hp
      have hwd := width_pos s pos hp
      obtain ⟨fuel, rfl⟩ : ∃ f', fuel = f' + 1 := ⟨fuel - 1, by omega⟩
      have hit2 := Lib.iterAt_heap wr w.heap.size s pos (pos + (Utf8.decode s pos).2) hit
      have hb2 := Lib.below_iterAt hb (k := w.heap.size) (Nat.le_refl _) s (pos + (Utf8.decode s pos).2)
      have hE2 : rowF s l = if letF (Utf8.decode s pos).1 = l then rowG s l fuel (pos + (Utf8.decode s pos).2) (pos + Lib.runeLen (Utf8.decode s pos).1) else n := by rw [HE.out, rowG, if_pos hp]
      obtain ⟨W1, hW1⟩ : ∃ W1, W1 = wr.iterAt w.heap.size s (pos + (Utf8.decode s pos).2) := ⟨_, rfl⟩
      rw [← hW1] at hnx hit2 hb2
      obtain ⟨dw, hdw⟩ : ∃ dw, (Utf8.decode s pos).2 = dw := ⟨_, rfl⟩
      obtain ⟨r, hr⟩ : ∃ r, (((Utf8.decode s pos).1 : Nat) : Int) = r := ⟨_, rfl⟩
      obtain ⟨rl, hrl⟩ : ∃ rl, Lib.runeLen r = rl := ⟨_, rfl⟩
      have hrl2 : -1 ≤ rl ∧ rl ≤ 4 := by
        rw [← hrl]
        unfold Lib.runeLen
        repeat (first | split | omega)
      have hle := hlet r
      have hln := hlen r
      rw [hr, hrl, hdw] at hE2
      rw [hdw] at hit2 hwd
      rw [hrl] at hln
      simp only [hr] at hnx
      obtain ⟨b, hbl⟩ : ∃ b, letF r = b := ⟨_, rfl⟩
      rw [hbl] at hle hE2
      have HLE := hid hle
      have HLN := hid hln
      have HE2 := hid hE2
      have hw1 : IntKind.i64.wrap ((pos : Int) + rl) = (pos : Int) + rl := by rw [IntKind.wrap_i64]; omega
      clear hle hln hE2 hlet hlen hbl hrl hr hdw hW1 HE hit hb
      cases b <;> cases l
      case false.false =>
        have HE3 : Hid (rowF s false = rowG s false fuel (pos + dw) (pos + rl)) := hid (by rw [HE2.out]; simp)
        gi_wp2_with (first
          | (refine ⟨trivial, ?_⟩; gi_at_call 116; refine (callsIn_wide.2 (HLE.out _)).mono ?_; rintro e w1 ⟨rfl, rfl⟩)
          | (refine ⟨trivial, ?_⟩; gi_at_call 117; refine (callsIn_wide.2 (HLN.out _)).mono ?_; rintro e w1 ⟨rfl, rfl⟩))
        exact ⟨⟨pos + dw, fuel, pos + rl, hit2, rfl, hb2, HE3, by omega, by omega, by omega⟩, by rw [iterPos_of hit2, hpos0]; omega⟩
      case true.true =>
        have HE3 : Hid (rowF s true = rowG s true fuel (pos + dw) (pos + rl)) := hid (by rw [HE2.out]; simp)
        gi_wp2_with (first
          | (refine ⟨trivial, ?_⟩; gi_at_call 116; refine (callsIn_wide.2 (HLE.out _)).mono ?_; rintro e w1 ⟨rfl, rfl⟩)
          | (refine ⟨trivial, ?_⟩; gi_at_call 117; refine (callsIn_wide.2 (HLN.out _)).mono ?_; rintro e w1 ⟨rfl, rfl⟩))
        exact ⟨⟨pos + dw, fuel, pos + rl, hit2, rfl, hb2, HE3, by omega, by omega, by omega⟩, by rw [iterPos_of hit2, hpos0]; omega⟩
      case false.true =>
        have HE3 : Hid (rowF s true = n) := hid (by rw [HE2.out]; simp)
        gi_wp2_with (refine ⟨trivial, ?_⟩; gi_at_call 116; refine (callsIn_wide.2 (HLE.out _)).mono ?_; rintro e w1 ⟨rfl, rfl⟩)
        simp only [Exit.noGoto]
        go_ret
        exact ⟨by rw [HE3.out]; rfl, hb2⟩
      case true.false =>
        have HE3 : Hid (rowF s false = n) := hid (by rw [HE2.out]; simp)
        gi_wp2_with (refine ⟨trivial, ?_⟩; gi_at_call 116; refine (callsIn_wide.2 (HLE.out _)).mono ?_; rintro e w1 ⟨rfl, rfl⟩)
        simp only [Exit.noGoto]
        go_ret
        exact ⟨by rw [HE3.out]; rfl, hb2⟩
    · have hnx : ∀ ty, (Instr.next (.pointer (some ⟨w.heap.size, 0, none⟩)) true ty).run Tryz.prog wr = _ := fun ty => Lib.run_next_end_at wr w.heap.size s pos ty hit hp
      have HE3 : Hid (rowF s l = n) := hid (by rw [HE.out]; cases fuel <;> simp [rowG, hp])
      gi_wp2
      simp only [Exit.noGoto]
      go_ret
      exact ⟨by rw [HE3.out]; rfl, hb⟩
end Go.Proofs.YteigplfldhdakaaGreatDoor
/- text, plain: rows of valid texts. -/
namespace Go.Proofs.YteigplfldhdakaaGreatDoor
set_option linter.unusedVariables false
set_option linter.unusedSimpArgs false
open Go.Lib
/-- how many bytes a row of letters, or of others, takes -/
def runB (l : Bool) : Nat → List UInt8 → Nat
  | 0, _ => 0
  | f + 1, L => if L = [] then 0 else if letF (decodeL L).1 = l then (decodeL L).2 + runB l f (L.drop (decodeL L).2) else 0
theorem runB_le (l : Bool) : ∀ (f : Nat) (L : List UInt8), runB l f L ≤ L.length
  | 0, L => Nat.zero_le _
  | f + 1, L => by
    unfold runB
    split
    · exact Nat.zero_le _
    · next h =>
      split
      · have h1 := runB_le l f (L.drop (decodeL L).2)
        have h2 := decodeL_le L h
        rw [List.length_drop] at h1
        omega
      · exact Nat.zero_le _
/-- of a lawful rune the length is its width -/
theorem width_eq {L : List UInt8} (hne : L ≠ []) (hv : validD L = true) : runeLen ((decodeL L).1 : Int) = ((decodeL L).2 : Int) := by
  by_cases h : (decodeL L).1 = 65533
  · rw [validD_step L hne] at hv
    have h2 : (decodeL L).2 ≠ 1 := fun e => by rw [if_pos ⟨h, e⟩] at hv; cases hv
    rw [h]
    have h3 : (decodeL L).2 = 3 := by
      clear hv
      unfold decodeL at h h2 ⊢
      revert h h2
      unfold Utf8.decode
      dsimp only
      split
      · intro _ h; exact absurd rfl h
      · split
        · split
          · intro h _; dsimp only at h; omega
          · intro _ h; exact absurd rfl h
        · split
          · split
            · intro _ _; rfl
            · intro _ h; exact absurd rfl h
          · split
            · split
              · next hc =>
                intro h _
                dsimp only at h
                simp only [Bool.and_eq_true, decide_eq_true_eq] at hc
                omega
              · intro _ h; exact absurd rfl h
            · intro _ h; exact absurd rfl h
    rw [h3]
    rfl
  · exact runeLen_decode L h
theorem valid_drop {L : List UInt8} (hne : L ≠ []) (hv : validD L = true) : validD (L.drop (decodeL L).2) = true := by
  rw [validD_step L hne] at hv
  split at hv
  · cases hv
  · exact hv
theorem rowG_eq (s : ByteArray) (l : Bool) : ∀ (f pos : Nat), validD ((bys s).drop pos) = true → s.size ≤ pos + f → rowG s l f pos pos = ((pos + runB l f ((bys s).drop pos) : Nat) : Int)
  | 0, pos, _, hf => by simp [rowG, runB]
  | f + 1, pos, hv, hf => by
    unfold rowG runB
    have hlen : ((bys s).drop pos).length = s.size - pos := by rw [List.length_drop, bys_size]
    have hd : decodeL ((bys s).drop pos) = Utf8.decode s pos := decodeL_drop s pos
    by_cases hp : pos < s.size
    · have hne : (bys s).drop pos ≠ [] := fun e => by rw [e] at hlen; simp at hlen; omega
      rw [if_pos hp, if_neg hne, hd]
      have hw := width_eq hne hv
      have hvd := valid_drop hne hv
      rw [hd] at hw hvd
      by_cases hl : letF (Utf8.decode s pos).1 = l
      · rw [if_pos hl, if_pos hl, hw]
        have hle := width_pos s pos hp
        rw [List.drop_drop] at hvd ⊢
        have := rowG_eq s l f (pos + (Utf8.decode s pos).2) hvd (by omega)
        rw [show ((pos : Int) + ((Utf8.decode s pos).2 : Int)) = ((pos + (Utf8.decode s pos).2 : Nat) : Int) by omega, this, Nat.add_assoc]
      · rw [if_neg hl, if_neg hl]; simp
    · have he : (bys s).drop pos = [] := List.eq_nil_of_length_eq_zero (by rw [hlen]; omega)
      rw [if_neg hp, if_pos he]; simp
theorem rowF_eq (s : ByteArray) (l : Bool) (hv : validD (bys s) = true) : rowF s l = ((runB l s.size (bys s) : Nat) : Int) := by
  obtain ⟨f, hf⟩ : ∃ f, s.size = f := ⟨_, rfl⟩
  unfold rowF
  rw [hf]
  have h := rowG_eq s l f 0 (by rw [List.drop_zero]; exact hv) (by omega)
  rw [List.drop_zero, Nat.zero_add] at h
  exact h
end Go.Proofs.YteigplfldhdakaaGreatDoor
/- What is taken by contract: seven functions, said of runs that are reckoned. -/
namespace Go.Proofs.YteigplfldhdakaaGreatDoor.Ev
set_option linter.unusedVariables false
set_option linter.unusedSimpArgs false
open Go Go.RowKit Go.Proofs.YteigplfldhdakaaGreatDoor Go.Shelf
section
variable {w0 w w' : World} {γ : Pl} {s : AS}
/-- a call that leaves all blocks as they were -/
theorem Done.below {v : AV} {u : Value} (h : HR γ s w) (hb : Below w.heap.size w w') (hv : RA γ v u) : Done γ s w v s u w' := by
  refine ⟨γ, ⟨fun b o ho => OR.mono (Sub.refl _) (fun B d S hg => hb.block B ?_) (h.obj b o ho), h.nod, h.inj, h.nxt⟩, ⟨Sub.refl _, hb.size, fun k hk _ => hb.block k hk, fun k hk => .inl hk, ⟨hb.os, hb.tape, hb.output⟩, fun k x hx => .inl hx, Nat.le_refl _⟩, hv⟩
  obtain ⟨B', d', S', h1, h2⟩ := OR.at_ (h.obj b o ho)
  rw [hg] at h1
  cases h1
  exact h2
theorem Inv.tab (hi : Inv w0 γ s w) (hT : Tab w0) : Tab w := hT.bel hi.bel
end
theorem args1 {γ : Pl} {x : AV} {us : List Value} (h : All2 (RA γ) [x] us) : ∃ u, us = [u] ∧ RA γ x u := by
  match us, h with
  | [u], h => exact ⟨u, rfl, h.1⟩
  | [], h => exact h.elim
  | _ :: _ :: _, h => exact h.2.elim
theorem args2 {γ : Pl} {x y : AV} {us : List Value} (h : All2 (RA γ) [x, y] us) : ∃ u v, us = [u, v] ∧ RA γ x u ∧ RA γ y v := by
  match us, h with
  | [u, v], h => exact ⟨u, v, rfl, h.1, h.2.1⟩
  | [], h => exact h.elim
  | [_], h => exact h.2.elim
  | _ :: _ :: _ :: _, h => exact h.2.2.elim
theorem args3 {γ : Pl} {x y z : AV} {us : List Value} (h : All2 (RA γ) [x, y, z] us) : ∃ u v t, us = [u, v, t] ∧ RA γ x u ∧ RA γ y v ∧ RA γ z t := by
  match us, h with
  | [u, v, t], h => exact ⟨u, v, t, rfl, h.1, h.2.1, h.2.2.1⟩
  | [], h => exact h.elim
  | [_], h => exact h.2.elim
  | [_, _], h => exact h.2.2.elim
  | _ :: _ :: _ :: _ :: _, h => exact h.2.2.2.elim
/-- logcost.Cost at (1, 1, 1) -/
def o26 : OrcF := fun f args s => if f = 26 ∧ args = [.sc (.f (.int .i64 1)), .sc (.f (.int .i64 1)), .sc (.f (.int .i64 1))] then some (.tu [(false, [.f (.int .i64 1)]), (false, [.f (.int .i64 0)])], s) else none
theorem cost_one : Lc.costV 1 1 1 = 1 ∧ Lc.costE 1 1 1 = 0 := by
  have hn : ¬ Lc.NoCost 1 1 1 := by decide
  have hr := Lc.ratio_lit 2 2 0 (by decide +kernel) (by decide) (by decide +kernel) (by decide +kernel)
  rw [Lc.costV_yes hn, Lc.costE_yes hn]
  show min (max (Lc.ratioK 2 2) 1) 255 = 1 ∧ Lc.ratioE 2 2 = 0
  rw [hr.1, hr.2]
  decide
theorem tup2_rel {γ : Pl} {x y : FV} : RA γ (.tu [(false, [.f x]), (false, [.f y])]) (.tuple #[x.val, y.val]) := ⟨[x.val, y.val], rfl, ⟨_, rfl, rfl⟩, ⟨_, rfl, rfl⟩, trivial⟩
theorem o26_ok (w0 : World) : Orc Tryz.prog w0 o26 := ⟨fun f args s r γ w us hi hu h => by
  unfold o26 at h
  split at h
  · rename_i hc
    obtain ⟨rfl, rfl⟩ := hc
    cases h
    obtain ⟨u, v, t, rfl, rfl, rfl, rfl⟩ := args3 hu
    refine (Lc.cost_any 1 1 1 w).mono fun e w' ⟨h1, h2⟩ => ?_
    rw [cost_one.1, cost_one.2] at h1
    exact ⟨_, h1, Done.below hi.hr h2 tup2_rel⟩
  · cases h⟩
def ascii (l : List UInt8) : Bool := l.all fun c => decide (c.toNat < 128)
theorem ascii_at {l : List UInt8} (h : ascii l = true) {c : UInt8} (hc : c ∈ l) : c.toNat < 128 := by
  have := List.all_eq_true.1 h c hc
  simpa using this
/-- utf8.DecodeRuneInString -/
def o199 : OrcF := fun f args s => if f = 199 then match args with
  | [.sc (.f (.str []))] => some (.tu [(false, [.f (.int .i32 65533)]), (false, [.f (.int .i64 0)])], s)
  | [.sc (.f (.str (c :: r)))] => if c.toNat < 128 then some (.tu [(false, [.f (.int .i32 c.toNat)]), (false, [.f (.int .i64 1)])], s) else none
  | _ => none
  else none
theorem o199_ok {w0 : World} (hT : Tab w0) : Orc Tryz.prog w0 o199 := ⟨fun f args s r γ w us hi hu h => by
  unfold o199 at h
  split at h
  · rename_i hf
    subst hf
    split at h
    · cases h
      obtain ⟨u, rfl, rfl⟩ := args1 hu
      exact (Tryz.utf8_DecodeRuneInString _ w (hi.tab hT)).mono fun e w' ⟨h1, h2⟩ => ⟨_, h1, Done.below hi.hr h2 (tup2_rel (x := .int .i32 65533) (y := .int .i64 0))⟩
    · rename_i c r0
      split at h
      · rename_i hc
        cases h
        obtain ⟨u, rfl, rfl⟩ := args1 hu
        refine (Tryz.utf8_DecodeRuneInString _ w (hi.tab hT)).mono fun e w' ⟨h1, h2⟩ => ⟨_, h1, Done.below hi.hr h2 ?_⟩
        have hd : Lib.decodeGo ⟨⟨c :: r0⟩⟩ = (c.toNat, 1) := by
          unfold Lib.decodeGo
          rw [if_neg (show ¬ ((⟨⟨c :: r0⟩⟩ : ByteArray).size = 0) from Nat.succ_ne_zero _)]
          exact decode_ascii ⟨⟨c :: r0⟩⟩ 0 (Nat.succ_pos _) hc
        rw [hd]
        exact tup2_rel (x := .int .i32 c.toNat) (y := .int .i64 1)
      · cases h
    · cases h
  · cases h⟩
/-- utf8.ValidString -/
def o74 : OrcF := fun f args s => if f = 74 then match args with
  | [.sc (.f (.str l))] => if ascii l = true ∧ l.length ≤ 1000 then some (.sc (.f (.bool true)), s) else none
  | _ => none
  else none
theorem o74_ok {w0 : World} (hT : Tab w0) : Orc Tryz.prog w0 o74 := ⟨fun f args s r γ w us hi hu h => by
  unfold o74 at h
  split at h
  · rename_i hf
    subst hf
    split at h
    · rename_i l
      split at h
      · rename_i hc
        cases h
        obtain ⟨u, rfl, rfl⟩ := args1 hu
        have hs : (⟨⟨l⟩⟩ : ByteArray).size = l.length := rfl
        refine (valid_c ⟨⟨l⟩⟩ (by omega) w (hi.tab hT)).mono fun e w' ⟨h1, h2⟩ => ⟨_, h1, Done.below hi.hr h2 ?_⟩
        have hv : Lib.validD (bys ⟨⟨l⟩⟩) = true := by
          rw [show bys ⟨⟨l⟩⟩ = l from rfl, Lib.validD_ascii l.length l fun b hb => ascii_at hc.1 (List.mem_of_mem_take hb), List.drop_length]
          rfl
        rw [hv]
        rfl
      · cases h
    · cases h
  · cases h⟩
/-- utf8.RuneCountInString -/
def o23 : OrcF := fun f args s => if f = 23 then match args with
  | [.sc (.f (.str l))] => if ascii l = true ∧ l.length ≤ 1000 then some (.sc (.f (.int .i64 l.length)), s) else none
  | _ => none
  else none
theorem o23_ok (w0 : World) : Orc Tryz.prog w0 o23 := ⟨fun f args s r γ w us hi hu h => by
  unfold o23 at h
  split at h
  · rename_i hf
    subst hf
    split at h
    · rename_i l
      split at h
      · rename_i hc
        cases h
        obtain ⟨u, rfl, rfl⟩ := args1 hu
        have hs : (⟨⟨l⟩⟩ : ByteArray).size = l.length := rfl
        refine (rcnt_c ⟨⟨l⟩⟩ (by omega) w).mono fun e w' ⟨h1, h2⟩ => ⟨_, h1, Done.below hi.hr h2 ?_⟩
        have hv : Lib.runeCount ⟨⟨l⟩⟩ = l.length := by
          rw [Lib.runeCount_ascii ⟨⟨l⟩⟩ fun j h => ascii_at hc.1 (List.getElem_mem _)]
          rfl
        rw [hv]
        rfl
      · cases h
    · cases h
  · cases h⟩
/-- text.row -/
def rowL (b : Bool) : List UInt8 → Nat
  | [] => 0
  | c :: r => if letF c.toNat = b then rowL b r + 1 else 0
theorem rowL_ok {b : Bool} : ∀ (r pre l : List UInt8), l = pre ++ r → ascii l = true → rowG ⟨⟨l⟩⟩ b r.length pre.length pre.length = ((pre.length + rowL b r : Nat) : Int)
  | [], pre, l, _, _ => by simp [rowG, rowL]
  | c :: r, pre, l, he, ha => by
    have hlt : pre.length < (⟨⟨l⟩⟩ : ByteArray).size := by
      show pre.length < l.length
      rw [he]
      simp
    have hl : l[pre.length]'hlt = c := by
      subst he
      simp
    have hg : ((⟨⟨l⟩⟩ : ByteArray)[pre.length]'hlt) = c := hl
    have hcm : c ∈ l := by rw [he]; simp
    have hd := decode_ascii ⟨⟨l⟩⟩ pre.length hlt (by rw [hg]; exact ascii_at ha hcm)
    rw [hg] at hd
    have hc := ascii_at ha hcm
    have hrl : Lib.runeLen (c.toNat : Int) = 1 := by
      unfold Lib.runeLen
      rw [if_neg (by omega), if_pos (by omega)]
    rw [List.length_cons, rowG, if_pos hlt, hd, rowL]
    dsimp only
    by_cases hq : letF (c.toNat : Int) = b
    · rw [if_pos hq, if_pos hq, hrl]
      have := rowL_ok (b := b) r (pre ++ [c]) l (by rw [he]; simp) ha
      rw [List.length_append, List.length_singleton] at this
      rw [show ((pre.length : Int) + 1) = ((pre.length + 1 : Nat) : Int) by omega, this]
      omega
    · rw [if_neg hq, if_neg hq]
      simp
def o75 : OrcF := fun f args s => if f = 75 then match args with
  | [.sc (.f (.str l)), .sc (.f (.bool b))] => if ascii l = true ∧ l.length ≤ 1000 then some (.sc (.f (.int .i64 (rowL b l))), s) else none
  | _ => none
  else none
theorem o75_ok (w0 : World) : Orc Tryz.prog w0 o75 := ⟨fun f args s r γ w us hi hu h => by
  unfold o75 at h
  split at h
  · rename_i hf
    subst hf
    split at h
    · rename_i l b
      split at h
      · rename_i hc
        cases h
        obtain ⟨u, v, rfl, rfl, rfl⟩ := args2 hu
        have hs : (⟨⟨l⟩⟩ : ByteArray).size = l.length := rfl
        refine (row_c ⟨⟨l⟩⟩ b (by omega) w).mono fun e w' ⟨h1, h2⟩ => ⟨_, h1, Done.below hi.hr h2 ?_⟩
        have hv : rowF ⟨⟨l⟩⟩ b = ((rowL b l : Nat) : Int) := by
          have := rowL_ok (b := b) l [] l rfl hc.1
          rw [List.length_nil, Nat.zero_add] at this
          exact this
        rw [hv]
        rfl
      · cases h
    · cases h
  · cases h⟩
end Go.Proofs.YteigplfldhdakaaGreatDoor.Ev
