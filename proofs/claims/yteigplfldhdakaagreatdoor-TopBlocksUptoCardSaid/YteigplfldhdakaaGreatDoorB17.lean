/- TopBlocks, where awake is true. -/
import Derived.Test.YteigplfldhdakaaGreatDoorB16
import Derived.AtR
import Derived.RangeFuncIn
import Derived.Below
namespace Go.Proofs.YteigplfldhdakaaGreatDoor
set_option linter.unusedVariables false
set_option linter.unusedSimpArgs false
open Go.RowKit Go.Shelf
attribute [local go_sem ↓] Go.wp_at_zero Go.wp_at_succ
theorem prE_all : ∀ {L : List (ByteArray × ByteArray)}, prE L = 0 → ∀ x ∈ L, pairE x.1 x.2 = 0
  | [], _, x, hx => by simp at hx
  | a :: r, h, x, hx => by
    unfold prE at h
    by_cases h0 : pairE a.1 a.2 = 0
    · rw [if_neg (by simp [h0])] at h
      rcases List.mem_cons.1 hx with rfl | hx
      · exact h0
      · exact prE_all h x hx
    · rw [if_pos h0] at h
      exact absurd h h0
theorem cntT_le {T : List Blk} (h : posC T) (f t : ByteArray) : 0 ≤ cntT f t T ∧ cntT f t T ≤ totB T := by
  unfold cntT
  split
  · next k hk =>
    have h0 := posB_some hk
    have h1 := h _ (getD_mem h0.1)
    have h2 := le_totB h _ (getD_mem h0.1)
    omega
  · exact ⟨Int.le_refl _, totB_nonneg h⟩
theorem touch_put {F : Nat → Prop} {a W : World} (h : Touch F a W) {b : Nat} (hb : F b) (l : List Blk) : Touch F a (mapPut W b l) :=
  ⟨h.os, h.tape, h.output, by unfold mapPut World.putObj; simpa using h.size, fun k hk hF => (mapPut_other l (by rintro rfl; exact hF hb)).trans (h.block k hk hF)⟩
theorem StepK.touch {It Bm : Nat} {T : List Blk} {a W w' : World} (h : StepK It Bm T W w') (ht : Touch (fun b => b = Bm) a W) (hIt : a.heap.size ≤ It) : Touch (fun b => b = Bm) a w' :=
  ⟨h.same.1.trans ht.os, h.same.2.1.trans ht.tape, h.same.2.2.trans ht.output, Nat.le_trans ht.size h.size, fun k hk hF => (h.keep k (Nat.lt_of_lt_of_le hk ht.size) (by omega) hF).trans (ht.block k hk hF)⟩
/-- how many a range has handed out -/
def handed (w : World) (It : Nat) : Nat := match w.heap[It]? with | some (.mapIter _ _ s _) => s.size | _ => 0
theorem handed_eq {w : World} {It Bm n : Nat} {seen : List Nat} (h : MIt w It Bm n seen) : handed w It = seen.length := by
  unfold handed MIt at *
  rw [h]
  simp
theorem fold_take {B T0 : List Blk} {j : Nat} (hj : j < B.length) : (B.take (j + 1)).foldl addB T0 = addB ((B.take j).foldl addB T0) B[j] := by
  rw [List.take_add_one, List.getElem?_eq_getElem hj, List.foldl_append]
  rfl
/-- one block more: seen[x]++ -/
theorem bump_r {X : World} {Bm : Nat} {T : List Blk} (h : MapAt X Bm T) (f t : ByteArray) : ∃ (kk : Nat) (v0 : Int) (Y : World),
    (Instr.mapEntry 67 (.map (some Bm)) (twoS f t)).run Tryz.prog X = .ok (.tuple #[.int .i64 v0, .int .i64 (kk : Int)]) Y ∧
    (Instr.lookup 67 (.map (some Bm)) (twoS f t) false).run Tryz.prog Y = .ok (.int .i64 (cntT f t T)) Y ∧
    (Instr.entryStore 67 (.map (some Bm)) (.int .i64 (kk : Int)) (.int .i64 (cntT f t T + 1))).run Tryz.prog Y = .ok () (mapPut Y Bm (addB T (f, t, 1))) ∧ MapAt (mapPut Y Bm (addB T (f, t, 1))) Bm (addB T (f, t, 1)) ∧
    ∀ F a, Touch F a X → F Bm → Touch F a (mapPut Y Bm (addB T (f, t, 1))) := by
  obtain ⟨l1, kk, v0, h1, h2, h3, h5⟩ := entry67 h f t
  have h4 := store67 (mapPut_at h l1) h1 (cntT f t T + 1)
  have h6 := look67 (mapPut_at h l1) f t
  rw [h3 1] at h4
  rw [h5] at h6
  exact ⟨kk, v0, _, h2, h6, h4, mapPut_at (mapPut_at h l1) _, fun F a hF hb => touch_put (touch_put hF hb _) hb _⟩
set_option maxRecDepth 100000 in
set_option maxHeartbeats 8000000 in
theorem blocks_law (hA : AwakeC) {w : World} {v : Value} {L : List (ByteArray × ByteArray)} (h : PrS w v L) (hs : smallP L) (hT : Tab w) (hl : L.length ≤ 1000000000) (x : Int) (hx : (Lit.int .u8 x).wf = true) :
    Calls Tryz.prog 5 #[v, .int .u8 x] w fun e w' => e = .returned (.bool true) ∧ Below w.heap.size w w' := by
  have hx1 : (decide (IntKind.u8.min ≤ x) && decide (x ≤ IntKind.u8.max)) = true := hx
  simp [IntKind.min, IntKind.max, IntKind.signed, IntKind.bits] at hx1
  have haw := hA w hT
  have hgr := fun W (hb : Below w.heap.size w W) => great_c (h.below hb) hs (TxS.nil W) (fun s h => by simp at h) hl (by simp)
  have hwx : IntKind.i64.wrap x = x := by rw [IntKind.wrap_i64]; omega
  have hw1 : IntKind.i64.wrap (x + 1) = x + 1 := by rw [IntKind.wrap_i64]; omega
  have hle := fun W (hb : Below w.heap.size w W) => learn_c (h.below hb) hs (hT.bel hb) (x + 1) (by omega)
  have HAW := hid haw
  have HT := hid hT
  have HS := hid h
  have HSM := hid hs
  obtain ⟨a, c, rfl, -⟩ := h
  by_cases hg : greatB L [] = true
  · rw [hg] at hgr
    have HGR := hid hgr
    clear haw hgr hle hT hs hx
    go_enter Tryz.func5, Tryz.ntmps5
    go_wp2_with (first
      | (go_at_call 7; refine HAW.out.mono ?_; rintro e w1 ⟨rfl, hb1⟩; have HB1 := hid hb1; clear hb1)
      | (go_at_call 9; refine (HGR.out _ HB1.out).mono ?_; rintro e w3 ⟨rfl, hb3⟩; have HB3 := hid (bthen HB1.out hb3); clear hb3))
    go_ret
    exact ⟨rfl, HB3.out⟩
  · have hg2 : greatB L [] = false := by simpa using hg
    have hl30 : L.length ≤ 30 := by unfold greatB at hg2; simp at hg2; omega
    rw [hg2] at hgr
    have HGR := hid hgr
    obtain ⟨n, hn⟩ : ∃ n, x + 1 = n := ⟨_, rfl⟩
    rw [hn] at hw1 hle
    have HLE := hid hle
    have hnb : 1 ≤ n ∧ n ≤ 256 := by omega
    have hmm := @run_makeMap Tryz.prog
    clear haw hgr hle hT hs hx hg hg2
    go_enter Tryz.func5, Tryz.ntmps5
    go_wp2_with (first
      | (go_at_call 7; refine HAW.out.mono ?_; rintro e w1 ⟨rfl, hb1⟩; have HB1 := hid hb1; clear hb1)
      | (go_at_call 9; refine (HGR.out _ HB1.out).mono ?_; rintro e w3 ⟨rfl, hb3⟩; have HB3 := hid (bthen HB1.out hb3); clear hb3)
      | (go_at_call 19; refine (HLE.out _ HB3.out).mono ?_; rintro e w4 ⟨hb4, ⟨q, hq, rfl⟩ | ⟨h0, M, hM, hp, A, c4, rfl, hR⟩⟩))
    · go_ret
      exact ⟨rfl, bthen HB3.out hb4⟩
    · have HB4 := hid (bthen HB3.out hb4)
      obtain ⟨r1, r2, r3⟩ := hM.rules n
      have hM1 := hM.len
      obtain ⟨R, hRR⟩ : ∃ R, makeR M n = R := ⟨_, rfl⟩
      have hlen := makeR_len (n := n) hp
      rw [hRR] at hR r1 r2 r3 hlen ⊢
      obtain ⟨W0, hW0⟩ : ∃ W0, w4.alloc (.map #[] 0) = W0 := ⟨_, rfl⟩
      obtain ⟨Bm, hBm⟩ : ∃ b, w4.heap.size = b := ⟨_, rfl⟩
      have hM0 : MapAt W0 Bm [] := by rw [← hW0, ← hBm]; exact heap_alloc_new w4 _
      have hB0 : Below w.heap.size w W0 := by rw [← hW0]; exact balloc HB4.out _
      have hR0 : RuS W0 (.slice A R.length c4) R := by rw [← hW0]; exact SL.alloc hR _
      have hRb : ∀ k, (Value.slice A R.length c4).ownBlock = some k → ¬ k = Bm := fun k hk => by have := SL.lt hR k hk; omega
      have hBw : w.heap.size ≤ Bm := by rw [← hBm]; exact HB4.out.size
      have hBW : Bm < W0.heap.size := blk_lt hM0
      have HM0 := hid hM0
      have HB0 := hid hB0
      have HR0 := hid hR0
      have HRB := hid hRb
      have HP := hid hp
      have HE := hid (prE_all h0)
      have HLN := hid hlen
      have HR1 := hid r1
      have HR2 := hid r2
      have hRe : ∀ x ∈ tabL (prM L), hasR R x.1 x.2.1 ↔ n ≤ x.2.2 := fun x hx => by rw [← hRR]; exact hasR_iff hp hx
      have hTl : (tabL (prM L)).length ≤ 4096 := by rw [← hp.length_eq]; exact hM1
      have HRE := hid hRe
      have hcl : ∀ W, Touch (fun b => b = Bm) W0 W → Below w.heap.size w W := fun W hW => hW.below hB0 (fun k hk => by rw [hk]; exact hBw)
      have hrl : ∀ W, Touch (fun b => b = Bm) W0 W → RuS W (.slice A R.length c4) R := fun W hW => SL.touch hR0 hW hRb
      have HCL := hid hcl
      have HRL := hid hrl
      try rw [hBm]
      try rw [hW0]
      clear hb4 hR hM0 hB0 hR0 hRb r1 r2 hlen hp h0 hM hRR hW0 hBm hRe hcl hrl
      go_loopw [38] (fun iv wr => ∃ k : Nat, k ≤ L.length ∧ iv = .int .i64 (k : Int) ∧ Hid (Touch (fun b => b = Bm) W0 wr) ∧ Hid (MapAt wr Bm (tabL (prM (L.take k)))) ∧ Hid (posC (tabL (prM (L.take k)))) ∧ totB (tabL (prM (L.take k))) ≤ (k : Int) * 129) (fun iv _ => L.length - (intOf iv).toNat)
      case atStart => exact ⟨0, Nat.zero_le _, rfl, hid (Touch.refl _ _), HM0, hid (fun x hx => by simp [prM, tabL] at hx), by simp [prM, tabL, totB]⟩
      case round =>
        obtain ⟨k, hk, rfl, HTo, HMp, HPO, hto⟩ := hrel
        have HB := hid (HCL.out _ HTo.out)
        by_cases hkl : k < L.length
        · have hkl2 : (k : Int) < (L.length : Int) := by omega
          obtain ⟨a2, c2, hv, hp2⟩ := HS.out.below HB.out
          cases hv
          obtain ⟨ad0, rfl, hxl, q0, q1⟩ := hp2 k hkl
          obtain ⟨y, hy⟩ : ∃ y, L[k] = y := ⟨_, rfl⟩
          have hsm := HSM.out _ (List.getElem_mem hkl)
          have htk := prM_take hkl
          have hE := HE.out _ (List.getElem_mem hkl)
          rw [hy] at q0 q1 hsm htk hE
          obtain ⟨f, t⟩ := y
          dsimp only at q0 q1 hsm htk hE
          have hone := fun b (hb : b ∈ pairM f t) => one_pairM hb
          have hsz := (pairE_ok hE).2
          have hpc : Calls Tryz.prog 20 #[.string f, .string t] (wr.alloc (.cells #[.string f, .string t] 69)) fun e w' => Below (wr.alloc (.cells #[.string f, .string t] 69)).heap.size (wr.alloc (.cells #[.string f, .string t] 69)) w' ∧
              ∃ A c, e = .returned (.tuple #[.slice A (pairM f t).length c, .int .i64 0]) ∧ BlS w' (.slice A (pairM f t).length c) (pairM f t) ∧ ∀ k, (Value.slice A (pairM f t).length c).ownBlock = some k → wr.heap.size + 1 ≤ k := (pair_c f t hsm.1 hsm.2 _ (HT.out.bel (balloc HB.out _))).mono fun e w' ⟨h1, h2⟩ => by
            rcases h2 with ⟨h2, _⟩ | ⟨_, A, c, h3, h4, h5⟩
            · exact absurd hE h2
            · exact ⟨h1, A, c, h3, h4, fun k hk => by have := h5 k hk; rw [World.size_alloc] at this; exact this⟩
          obtain ⟨B, hB⟩ : ∃ B, pairM f t = B := ⟨_, rfl⟩
          rw [hB] at hpc htk hone hsz
          have HPC := hid hpc
          obtain ⟨T0, hT0⟩ : ∃ T0, tabL (prM (L.take k)) = T0 := ⟨_, rfl⟩
          have hT1 : tabL (prM (L.take (k + 1))) = B.foldl addB T0 := by rw [htk, ← hT0]; unfold tabL; rw [List.foldl_append]
          rw [hT0] at HMp HPO hto
          have HT1 := hid hT1
          have HONE := hid hone
          obtain ⟨ad, had⟩ : ∃ ad, ad0.add (k * 2) = ad := ⟨_, rfl⟩
          rw [had] at q0 q1
          clear hpc htk hy hp2 hT1 hone hE hB hT0 hsm
          go_wp2_with (go_at_call 20; refine HPC.out.mono ?_; rintro e w1 ⟨hb1, A1, c1, rfl, hs1, ho1⟩; have HBe := hid (bthen (balloc (Below.refl _ wr) _) hb1); have HS1 := hid hs1; have HO1 := hid ho1; clear hb1 hs1 ho1)
          have hbm : Bm < wr.heap.size := blk_lt HMp.out
          have HM1 := hid ((HBe.out.block Bm hbm).trans HMp.out)
          have HTo1 := hid (HTo.out.trans (Touch.of_below HBe.out (Nat.le_refl _)) (fun i h => h.elim))
          have hnb1 : ∀ k, (Value.slice A1 B.length c1).ownBlock = some k → ¬ k = Bm := fun k hk => by have := HO1.out k hk; omega
          have HNB1 := hid hnb1
          clear HMp HTo q0 q1 hnb1
          go_loopw [54] (fun iv wr => ∃ (j : Nat) (T : List Blk), j ≤ B.length ∧ iv = .int .i64 (j : Int) ∧ Hid (Touch (fun b => b = Bm) w1 wr) ∧ Hid (MapAt wr Bm T) ∧ Hid (T = (B.take j).foldl addB T0) ∧ Hid (posC T) ∧ totB T ≤ (k : Int) * 129 + (j : Int)) (fun iv _ => B.length - (intOf iv).toNat)
          case atStart => exact ⟨0, T0, Nat.zero_le _, rfl, hid (Touch.refl _ _), HM1, hid rfl, HPO, by omega⟩
          case round =>
            obtain ⟨j, T, hj, rfl, HTq, HMq, HTE, HPq, htq⟩ := hrel
            by_cases hjl : j < B.length
            · have hjl2 : (j : Int) < (B.length : Int) := by omega
              obtain ⟨g, off, hA1, hgl, k0, k1, k2⟩ := BlS.at3 (SL.touch HS1.out HTq.out HNB1.out) hjl
              subst hA1
              have hm1 := HONE.out _ (List.getElem_mem hjl)
              have hst := fold_take (T0 := T0) hjl
              rw [← HTE.out] at hst
              obtain ⟨b, hb⟩ : ∃ b, B[j] = b := ⟨_, rfl⟩
              rw [hb] at k0 k1 k2 hm1 hst
              obtain ⟨bf, bt, bn⟩ := b
              dsimp only at k0 k1 k2 hm1
              subst hm1
              have HST := hid hst
              clear hb hst
              go_wp2
              obtain ⟨X, hX⟩ : ∃ X, wr.alloc (.cells #[.string bf, .string bt, .int .i64 1] 38) = X := ⟨_, rfl⟩
              have hbx : X.heap[wr.heap.size]? = some (.cells #[.string bf, .string bt, .int .i64 1] 38 (0, 0)) := by rw [← hX]; exact heap_alloc_new wr _
              have hMX : MapAt X.drew Bm T := by rw [← hX]; exact alloc_keep HMq.out _
              have hTX : Touch (fun b => b = Bm) w1 X.drew := by rw [← hX]; exact (HTq.out.alloc _).drew
              obtain ⟨x0, x1, x2, -, -, -⟩ := row3 hbx
              have hlk := look67 hMX bf bt
              obtain ⟨kk, v0, Y, he1, hlk2, he2, he3, he4⟩ := bump_r hMX bf bt
              have hcb := cntT_le HPq.out bf bt
              obtain ⟨cc, hcc⟩ : ∃ cc, cntT bf bt T = cc := ⟨_, rfl⟩
              rw [hcc] at hlk hlk2 he2 hcb
              have hwc : IntKind.i64.wrap (cc + 1) = cc + 1 := by rw [IntKind.wrap_i64]; omega
              have HT4 := hid (he4 _ _ hTX rfl)
              have HM4 := hid he3
              obtain ⟨Z, hZ⟩ : ∃ Z, mapPut Y Bm (addB T (bf, bt, 1)) = Z := ⟨_, rfl⟩
              rw [hZ] at he2 HT4 HM4
              unfold twoS at hlk hlk2 he1
              have HPX := hid (posC_add (b := (bf, bt, 1)) HPq.out (by show (1 : Int) ≤ 1; decide))
              have htx := totB_add T (bf, bt, 1)
              dsimp only at htx
              rw [← HST.out] at HPX htx HM4
              rw [hX]
              clear k0 k1 k2 hbx he3 he4 hcc hZ hMX hTX hX
              go_region
              go_wp2
              exact ⟨⟨j + 1, (B.take (j + 1)).foldl addB T0, by omega, by simp, HT4, HM4, hid rfl, HPX, by omega⟩, by simp [intOf]; omega⟩
            · obtain rfl : j = B.length := by omega
              have hjl2 : ¬ (B.length : Int) < (B.length : Int) := by omega
              have HT5 := hid (HTo1.out.trans HTq.out (fun i h => .inl h))
              have hTE := HTE.out
              rw [List.take_length, ← HT1.out] at hTE
              subst hTE
              go_wp2
              exact ⟨⟨k + 1, by omega, by simp, HT5, HMq, HPq, by omega⟩, by simp [intOf]; omega⟩
        · obtain rfl : k = L.length := by omega
          have hkl2 : ¬ (L.length : Int) < (L.length : Int) := by omega
          rw [List.take_length] at HMp HPO hto
          obtain ⟨T, hTT⟩ : ∃ T, tabL (prM L) = T := ⟨_, rfl⟩
          rw [hTT] at HMp HPO hto hTl HRE
          have HLN2 : Hid (R.length = (T.filter fun b => decide (n ≤ b.2.2)).length) := hid (by rw [← hTT]; exact HLN.out)
          have hrg := range_m HMp.out
          have hbm : Bm < wr.heap.size := blk_lt HMp.out
          have hws := HTo.out.size
          clear HM0
          go_wp2
          have HTa := hid (HTo.out.alloc (.mapIter (some Bm) T.length #[] T.length))
          have HMa := hid (alloc_keep HMp.out (.mapIter (some Bm) T.length #[] T.length))
          have HIa : Hid (MIt (wr.alloc (.mapIter (some Bm) T.length #[] T.length)) wr.heap.size Bm T.length []) := hid (heap_alloc_new wr _)
          obtain ⟨It, hIt⟩ : ∃ It, wr.heap.size = It := ⟨_, rfl⟩
          obtain ⟨Wa, hWa⟩ : ∃ Wa, wr.alloc (.mapIter (some Bm) T.length #[] T.length) = Wa := ⟨_, rfl⟩
          try rw [hIt] at HIa
          try rw [hIt]
          rw [hWa] at HTa HMa HIa
          try rw [hWa]
          have hne : It ≠ Bm := by omega
          have hIt0 : W0.heap.size ≤ It := by omega
          clear hrg HMp HTo
          go_loopw [15] (fun ov wr => ∃ seen : List Nat, ov = .int .i64 (seenN T n seen : Int) ∧ Hid (Touch (fun b => b = Bm) W0 wr) ∧ Hid (MapAt wr Bm T) ∧ Hid (MIt wr It Bm T.length seen) ∧ Hid seen.Nodup ∧ Hid (∀ i ∈ seen, i < T.length)) (fun _ wr => T.length - handed wr It)
          case atStart => exact ⟨[], rfl, HTa, HMa, HIa, hid List.nodup_nil, hid (fun i hi => by cases hi)⟩
          case round =>
            obtain ⟨seen, rfl, HTq, HMq, HIq, HND, HSL⟩ := hrel
            clear HTa HMa HIa
            have hsn := seenN_le T n seen
            have hsl := seen_len HND.out HSL.out
            have hhd := handed_eq HIq.out
            obtain ⟨u, w2, hnx, hst, hcase⟩ := next_m HMq.out HIq.out hne 0
            have HT2 := hid (hst.touch HTq.out hIt0)
            have HM2 := hid hst.map
            rcases hcase with ⟨hall, rfl, hI2⟩ | ⟨i, hi, hns, rfl, hI2⟩
            · have hfin := seenN_all (n := n) HND.out HSL.out hall
              rw [← HLN2.out] at hfin
              have hfi : ((seenN T n seen : Nat) : Int) = (R.length : Int) := by rw [hfin]
              rw [hfi]
              have HB2 := hid (HCL.out _ HT2.out)
              go_wp2
              go_ret
              exact ⟨by simp, HB2.out⟩
            · have hen := entry_m HM2.out hI2 hne hi
              have hI3 := hid hI2
              have hre := HRE.out _ (List.getElem_mem hi)
              have hsn2 := seenN_snoc T n seen i
              have hof : oft T n i = decide (n ≤ T[i].2.2) := by unfold oft; rw [getD_at hi]
              rw [hof] at hsn2
              have hnd2 : Hid (seen ++ [i]).Nodup := hid (List.nodup_append.2 ⟨HND.out, by simp, by
                intro a ha b hb
                rw [List.mem_singleton] at hb
                subst hb
                rintro rfl
                exact hns ha⟩)
              have hsl2 : Hid (∀ j ∈ seen ++ [i], j < T.length) := hid (fun j hj => by
                rcases List.mem_append.1 hj with h1 | h1
                · exact HSL.out j h1
                · rw [List.mem_singleton] at h1; subst h1; exact hi)
              obtain ⟨b, hb⟩ : ∃ b, T[i] = b := ⟨_, rfl⟩
              rw [hb] at hnx hen hre hsn2
              obtain ⟨bf, bt, bn⟩ := b
              dsimp only at hnx hen hre hsn2
              have hlt := seen_len hnd2.out hsl2.out
              rw [List.length_append] at hlt
              have hfc := fun W (hW : Below w2.heap.size w2 W) => find_c (HRL.out _ (HT2.out.trans (Touch.of_below hW (Nat.le_refl _)) (fun i h => h.elim))) HR1.out HR2.out r3 bf bt (HT.out.bel (HCL.out _ (HT2.out.trans (Touch.of_below hW (Nat.le_refl _)) (fun i h => h.elim))))
              unfold twoS at hnx hen
              by_cases hnn : n ≤ bn
              · have hfc2 : ∀ W, Below w2.heap.size w2 W → Calls Tryz.prog 21 #[.slice A R.length c4, .string bf, .string bt] W fun e w' => Below W.heap.size W w' ∧ ∃ q, e = .returned (.tuple #[.int .i64 q, .int .i64 0]) := fun W hW => (hfc W hW).mono fun e w' ⟨h1, h2⟩ => ⟨h1, by
                  rcases h2 with ⟨_, h2⟩ | ⟨h2, _⟩
                  · exact h2
                  · exact absurd (hre.2 hnn) h2⟩
                have HFC := hid hfc2
                rw [decide_eq_true hnn, if_pos rfl] at hsn2
                have hwk : IntKind.i64.wrap ((seenN T n seen : Int) + 1) = ((seenN T n (seen ++ [i]) : Nat) : Int) := by rw [IntKind.wrap_i64, hsn2]; simp at hlt; omega
                clear hfc hfc2 hre
                go_wp2_with (go_at_call 21; refine (HFC.out _ (balloc (Below.refl _ w2) _)).mono ?_; rintro e w5 ⟨hb5, q, rfl⟩; have HB5 := hid (bthen (balloc (Below.refl _ w2) _) hb5); clear hb5)
                have HI5 := hid ((HB5.out.block It (blk_lt hI3.out)).trans hI3.out)
                have hh5 := handed_eq HI5.out
                exact ⟨⟨seen ++ [i], by simp [hsn2], hid (HT2.out.trans (Touch.of_below HB5.out (Nat.le_refl _)) (fun i h => h.elim)), hid ((HB5.out.block Bm (blk_lt HM2.out)).trans HM2.out), HI5, hnd2, hsl2⟩, by rw [hh5, hhd, List.length_append]; simp; simp at hlt; omega⟩
              · have hfc2 : ∀ W, Below w2.heap.size w2 W → Calls Tryz.prog 21 #[.slice A R.length c4, .string bf, .string bt] W fun e w' => Below W.heap.size W w' ∧ e = .returned (.tuple #[.int .i64 0, .int .i64 10]) := fun W hW => (hfc W hW).mono fun e w' ⟨h1, h2⟩ => ⟨h1, by
                  rcases h2 with ⟨h2, _⟩ | ⟨_, h2⟩
                  · exact absurd (hre.1 h2) hnn
                  · exact h2⟩
                have HFC := hid hfc2
                rw [decide_eq_false hnn, if_neg (by decide), Nat.add_zero] at hsn2
                clear hfc hfc2 hre
                go_wp2_with (go_at_call 21; refine (HFC.out _ (balloc (Below.refl _ w2) _)).mono ?_; rintro e w5 ⟨hb5, rfl⟩; have HB5 := hid (bthen (balloc (Below.refl _ w2) _) hb5); clear hb5)
                have HI5 := hid ((HB5.out.block It (blk_lt hI3.out)).trans hI3.out)
                have hh5 := handed_eq HI5.out
                exact ⟨⟨seen ++ [i], by rw [hsn2], hid (HT2.out.trans (Touch.of_below HB5.out (Nat.le_refl _)) (fun i h => h.elim)), hid ((HB5.out.block Bm (blk_lt HM2.out)).trans HM2.out), HI5, hnd2, hsl2⟩, by rw [hh5, hhd, List.length_append]; simp; simp at hlt; omega⟩
end Go.Proofs.YteigplfldhdakaaGreatDoor
/- Any operation but a call of a function. -/
namespace Go.Proofs.YteigplfldhdakaaGreatDoor.Ev
set_option linter.unusedVariables false
set_option linter.unusedSimpArgs false
open Go Go.RowKit
def partsA (ρ : Operand → Option AV) : List (Nat × Operand) → Option (List (Nat × AV))
  | [] => some []
  | (i, x) :: r => match ρ x, partsA ρ r with
    | some v, some vs => some ((i, v) :: vs)
    | _, _ => none
def capsA (ρ : Operand → Option AV) : List Operand → Option (List Nat)
  | [] => some []
  | x :: r => match ρ x, capsA ρ r with
    | some (.sc (.pt b 0)), some bs => some (b :: bs)
    | _, _ => none
def fvsA (ρ : Operand → Option AV) : List Operand → Option (List Value)
  | [] => some []
  | x :: r => match (ρ x).bind AV.fv, fvsA ρ r with
    | some v, some vs => some (v :: vs)
    | _, _ => none
def isAMap (P : Program) (t : Nat) : Bool := match P.underlying t with | some (.map _ _) => true | _ => false
def lenA (P : Program) (s : AS) (t : Nat) (a : AV) : Option AV :=
  match a with
  | .sc (.sl _ _ n _ _) => if isSl P t then some (.sc (.f (.int .i64 n))) else none
  | .sc (.se _ _) => if isSl P t then some (.sc (.f (.int .i64 0))) else none
  | .sc (.f (.str l)) => match P.underlying t with | some .string => some (.sc (.f (.int .i64 l.length))) | _ => none
  | .sc (.f .nils) => if isSl P t then some (.sc (.f (.int .i64 0))) else none
  | .sc (.mp b) => match fnd s.H b with
    | some (.map es) => if isAMap P t then some (.sc (.f (.int .i64 es.length))) else none
    | _ => none
  | _ => none
def bltA (P : Program) (ρ : Operand → Option AV) (s : AS) (b : Builtin) (ty : Nat) (args : List Operand) (ats : List Nat) : Option (AV × AS) :=
  match b, args, ats with
  | .append, [a, x], [t, tx] => match ρ a, ρ x with
    | some a, some x => appA P s t tx a x
    | _, _ => none
  | .len, [x], [t] => match ρ x with
    | some a => (lenA P s t a).map fun v => (v, s)
    | none => none
  | .min, xs, ts => match fvsA ρ xs with
    | some vs => ((flatS P (Builtin.min_ ts.toArray ty vs.toArray)).bind absV).map fun v => (v, s)
    | none => none
  | .max, xs, ts => match fvsA ρ xs with
    | some vs => ((flatS P (Builtin.max_ ts.toArray ty vs.toArray)).bind absV).map fun v => (v, s)
    | none => none
  | _, _, _ => none
def q1 (s : AS) (v : Option AV) : Option (List (AV × AS)) := v.map fun v => [(v, s)]
def w1 (r : Option (AV × AS)) : Option (List (AV × AS)) := r.map fun r => [r]
def u1 (r : Option AS) : Option (List (AV × AS)) := r.map fun s' => [(undA, s')]
def aop (P : Program) (ks : Nat → Bool × List FV → Bool) (o : Oper) (ρ : Operand → Option AV) (s : AS) : Option (List (AV × AS)) :=
  match o.op with
  | .move x => q1 s (ρ x)
  | .assign x => q1 s (ρ x)
  | .pick c a b => match ρ c with
    | some (.sc (.f (.bool true))) => q1 s (ρ a)
    | some (.sc (.f (.bool false))) => q1 s (ρ b)
    | _ => none
  | .alloc t => w1 ((zL P t).map fun L => (.sc (.pt s.nx 0), newA s t L))
  | .box t x => w1 (((ρ x).bind AV.cells).map fun L => (.sc (.pt s.nx 0), newA s t L))
  | .build t ps => q1 s ((partsA ρ ps.toList).bind (buildA P t))
  | .buildSlice t n ps => w1 ((partsA ρ ps.toList).bind (bsliceA P s t n))
  | .load t x => match ρ x with
    | some (.sc (.pt b o)) => match fnd s.H b with
      | some (.cells _ L) => q1 s (loadA P t L o)
      | _ => none
    | _ => none
  | .store t a x => match ρ a, ρ x with
    | some a, some v => u1 (storeA P s t a v)
    | _, _ => none
  | .nilCheck x => match ρ x with
    | some (.sc (.pt b o)) => q1 s (some (.sc (.pt b o)))
    | _ => none
  | .binOp op t x y _ => match ρ x, ρ y with
    | some a, some b => q1 s (binA P op t x y a b)
    | _, _ => none
  | .unOp op t x => match (ρ x).bind AV.fv with
    | some v => q1 s ((flatS P (Op.unary op v)).bind absV)
    | none => none
  | .convert a b x => match ρ x with
    | some v => q1 s (convA P s a b v)
    | none => none
  | .makeFunc (.func f) first caps => if first.isEmpty then (capsA ρ caps.toList).map fun cs => [(.sc (.cl f cs), s)] else none
  | .makeMap t none => some [(.sc (.mp s.nx), ⟨(s.nx, .map []) :: s.H, s.nx + 1⟩)]
  | .makeSlice t l c => match ρ l, ρ c with
    | some l, some c => w1 (mslA P s t l c)
    | _, _ => none
  | .slice t x lo hi mx => match ρ x, bnd ρ lo, bnd ρ hi, bnd ρ mx with
    | some (.sc v), some l, some h, some m => q1 s ((sliceR P t v l h m).map .sc)
    | _, _, _, _ => none
  | .fieldAddr t x f => match ρ x, fieldOff P t f with
    | some (.sc (.pt b o)), some k => q1 s (some (.sc (.pt b (o + k))))
    | _, _ => none
  | .indexAddr t x i => match ρ x, ρ i, elemP P t with
    | some (.sc (.sl b o n c z)), some (.sc (.f (.int k j))), some e => if sizeP P e = some z ∧ 0 ≤ j ∧ j < (n : Int) then q1 s (some (.sc (.pt b (o + j.toNat * z)))) else none
    | _, _, _ => none
  | .index t x i => match (ρ x).bind AV.fv, (ρ i).bind AV.fv with
    | some v, some j => q1 s ((flatS P (Instr.index t v j)).bind absV)
    | _, _ => none
  | .lookup t m k ok => match ρ m, ρ k with
    | some m, some k => q1 s (lookA P ks s t m k ok)
    | _, _ => none
  | .mapUpdate t m k v => match ρ m, ρ k, ρ v with
    | some m, some k, some v => u1 (updA P ks s t m k v)
    | _, _, _ => none
  | .range t x => match ρ x with
    | some x => w1 (rangeA P s t x)
    | none => none
  | .next it false => match ρ it with
    | some x => if keysFit s x then nextA s x else none
    | none => none
  | .entry it => match ρ it with
    | some x => q1 s (entryA s x)
    | none => none
  | .extract x i => match ρ x with
    | some (.tu ys) => q1 s ((ys[i]?).map AE.av)
    | _ => none
  | .call { callee := .builtin b, args, argTypes } => w1 (bltA P ρ s b o.type args.toList argTypes.toList)
  | _ => none
/-- an operation's run, as it comes out -/
def Ran (P : Program) (e : Sem Next) (γ : Pl) (s : AS) (w : World) (outs : List (AV × AS)) : Prop :=
  ∃ v s' u w', (v, s') ∈ outs ∧ (e.run P w = .ok (.value u) w' ∨ (e.run P w = .ok .skip w' ∧ u = undef)) ∧ Done γ s w v s' u w'
section
variable {P : Program} {γ : Pl} {s : AS} {w : World} {ρa : Operand → Option AV} {ρ : Operand → Value}
theorem q1_ok {v : Option AV} {outs : List (AV × AS)} {e : Sem Value} (h : HR γ s w) (hv : q1 s v = some outs) (he : ∀ a, v = some a → ∃ u, e.run P w = .ok u w ∧ RA γ a u) : Ran P (do pure (.value (← e))) γ s w outs := by
  obtain ⟨a, ha, rfl⟩ := Option.map_eq_some_iff.1 hv
  obtain ⟨u, h1, h2⟩ := he a ha
  exact ⟨a, s, u, w, List.mem_cons_self .., .inl (by simp only [Sem.run_bind, h1, Result.andThen_ok, Sem.run_pure]), Done.quiet h h2⟩
theorem w1_ok {r : Option (AV × AS)} {outs : List (AV × AS)} {e : Sem Value} (hv : w1 r = some outs) (he : ∀ a, r = some a → ∃ u w', e.run P w = .ok u w' ∧ Done γ s w a.1 a.2 u w') : Ran P (do pure (.value (← e))) γ s w outs := by
  obtain ⟨a, ha, rfl⟩ := Option.map_eq_some_iff.1 hv
  obtain ⟨u, w', h1, h2⟩ := he a ha
  exact ⟨a.1, a.2, u, w', List.mem_cons_self .., .inl (by simp only [Sem.run_bind, h1, Result.andThen_ok, Sem.run_pure]), h2⟩
theorem u1_ok {r : Option AS} {outs : List (AV × AS)} {e : Sem Unit} (hv : u1 r = some outs) (he : ∀ a, r = some a → ∃ w', e.run P w = .ok () w' ∧ HR γ a w' ∧ Fr γ s w γ a w') : Ran P (do e; pure .skip) γ s w outs := by
  obtain ⟨a, ha, rfl⟩ := Option.map_eq_some_iff.1 hv
  obtain ⟨w', h1, h2, h3⟩ := he a ha
  exact ⟨undA, a, undef, w', List.mem_cons_self .., .inr ⟨by simp only [Sem.run_bind, h1, Result.andThen_ok, Sem.run_pure], rfl⟩, ⟨γ, h2, h3, und_rel γ⟩⟩
theorem parts_ok (hr : Op2 γ ρa ρ) : ∀ {ps : List (Nat × Operand)} {qs : List (Nat × AV)}, partsA ρa ps = some qs → All2 (fun p q => p.1 = q.1 ∧ RA γ p.2 q.2) qs (ps.map fun (i, x) => (i, ρ x))
  | [], _, h => by cases h; trivial
  | (i, x) :: r, _, h => by
    unfold partsA at h
    split at h
    · rename_i v vs h1 h2
      cases h
      exact ⟨⟨rfl, hr _ _ h1⟩, parts_ok hr h2⟩
    · cases h
theorem caps_ok (hr : Op2 γ ρa ρ) : ∀ {ps : List Operand} {qs : List Nat}, capsA ρa ps = some qs → All2 (RP γ) qs (ps.map ρ)
  | [], _, h => by cases h; trivial
  | x :: r, _, h => by
    unfold capsA at h
    split at h
    · rename_i v vs h1 h2
      cases h
      obtain ⟨B, d, S, k1, k2⟩ := hr _ _ h1
      exact ⟨⟨B, d, S, k1, k2⟩, caps_ok hr h2⟩
    · cases h
theorem fvs_ok (hr : Op2 γ ρa ρ) : ∀ {ps : List Operand} {qs : List Value}, fvsA ρa ps = some qs → ps.map ρ = qs
  | [], _, h => by cases h; rfl
  | x :: r, _, h => by
    unfold fvsA at h
    split at h
    · rename_i v vs h1 h2
      cases h
      obtain ⟨a, ha, hav⟩ := Option.bind_eq_some_iff.1 h1
      rw [List.map_cons, fvs_ok hr h2, fv_eq hav (hr _ _ ha)]
    · cases h
theorem isSl_some {t : Nat} (h : isSl P t = true) : ∃ e, P.underlying t = some (.slice e) := by
  unfold isSl at h
  split at h
  · rename_i e he; exact ⟨e, he⟩
  · cases h
theorem lenA_ok {t ty : Nat} {a r : AV} {u : Value} (h : HR γ s w) (ha : RA γ a u) (hr : lenA P s t a = some r) : ∃ u', (Builtin.len_ #[t] ty #[u]).run P w = .ok u' w ∧ RA γ r u' := by
  unfold lenA at hr
  split at hr
  · split at hr
    · rename_i hs
      obtain ⟨e, hu⟩ := isSl_some hs
      cases hr
      obtain ⟨B, d, S, c', _, rfl, _⟩ := ha
      exact ⟨_, by simp [Builtin.len_, run_underlying hu]; rfl, rfl⟩
    · cases hr
  · split at hr
    · rename_i hs
      obtain ⟨e, hu⟩ := isSl_some hs
      cases hr
      obtain ⟨B, d, S, o', c', _, rfl, _⟩ := ha
      exact ⟨_, by simp [Builtin.len_, run_underlying hu]; rfl, rfl⟩
    · cases hr
  · rename_i l
    split at hr
    · rename_i hu
      cases hr
      have : u = .string ⟨⟨l⟩⟩ := ha
      subst this
      exact ⟨_, by simp [Builtin.len_, run_underlying hu]; rfl, rfl⟩
    · cases hr
  · split at hr
    · rename_i hs
      obtain ⟨e, hu⟩ := isSl_some hs
      cases hr
      have : u = .slice none 0 0 := ha
      subst this
      exact ⟨_, by simp [Builtin.len_, run_underlying hu]; rfl, rfl⟩
    · cases hr
  · rename_i b
    split at hr
    · rename_i es hf
      split at hr
      · rename_i hm
        have hu : ∃ k e, P.underlying t = some (.map k e) := by
          unfold isAMap at hm
          split at hm
          · rename_i k e he; exact ⟨k, e, he⟩
          · cases hm
        obtain ⟨k, e, hu⟩ := hu
        cases hr
        obtain ⟨B, d, S, hb, rfl⟩ := ha
        obtain ⟨B', d', S', cs, h1, h2, h3⟩ := h.obj _ _ (fnd_mem hf)
        rw [hb] at h1
        cases h1
        have hl : cs.size = es.length := by
          have := entsR_len h3
          have e : cs.toList.length = cs.size := Array.length_toList
          omega
        exact ⟨.int .i64 es.length, by simp [Builtin.len_, run_underlying hu, MapKept.run_getObj_map h2, hl, goInt], rfl⟩
      · cases hr
    · cases hr
  · cases hr
theorem blt_ok {b : Builtin} {ty : Nat} {args : List Operand} {ats : List Nat} {consts : Array Bool} {r : AV × AS} (h : HR γ s w) (hr : Op2 γ ρa ρ) (hb : bltA P ρa s b ty args ats = some r) :
    ∃ u w', (builtin b ats.toArray ty consts (args.map ρ).toArray).run P w = .ok (.value u) w' ∧ Done γ s w r.1 r.2 u w' := by
  unfold bltA at hb
  split at hb
  · split at hb
    · rename_i a x ha hx
      obtain ⟨u, w', k1, k2⟩ := app_ok (ty := ty) h (hr _ _ ha) (hr _ _ hx) hb
      refine ⟨u, w', ?_, k2⟩
      simp only [builtin, List.map_cons, List.map_nil, Sem.run_bind, k1, Result.andThen_ok, Sem.run_pure]
    · cases hb
  · split at hb
    · rename_i a ha
      obtain ⟨v, hv, rfl⟩ := Option.map_eq_some_iff.1 hb
      obtain ⟨u, k1, k2⟩ := lenA_ok (ty := ty) h (hr _ _ ha) hv
      refine ⟨u, w, ?_, Done.quiet h k2⟩
      simp only [builtin, List.map_cons, List.map_nil, Sem.run_bind, k1, Result.andThen_ok, Sem.run_pure]
    · cases hb
  · split at hb
    · rename_i vs hvs
      obtain ⟨v, hv, rfl⟩ := Option.map_eq_some_iff.1 hb
      obtain ⟨z, hz, hr2⟩ := Option.bind_eq_some_iff.1 hv
      have k1 := flatS_run hz w
      rw [← fvs_ok hr hvs] at k1
      refine ⟨z, w, ?_, Done.quiet h (absV_rel hr2)⟩
      simp only [builtin, Sem.run_bind, k1, Result.andThen_ok, Sem.run_pure]
    · cases hb
  · split at hb
    · rename_i vs hvs
      obtain ⟨v, hv, rfl⟩ := Option.map_eq_some_iff.1 hb
      obtain ⟨z, hz, hr2⟩ := Option.bind_eq_some_iff.1 hv
      have k1 := flatS_run hz w
      rw [← fvs_ok hr hvs] at k1
      refine ⟨z, w, ?_, Done.quiet h (absV_rel hr2)⟩
      simp only [builtin, Sem.run_bind, k1, Result.andThen_ok, Sem.run_pure]
    · cases hb
  · cases hb
end
end Go.Proofs.YteigplfldhdakaaGreatDoor.Ev
/- Any operation but a call of a function: it runs as it was reckoned. -/
namespace Go.Proofs.YteigplfldhdakaaGreatDoor.Ev
set_option linter.unusedVariables false
set_option linter.unusedSimpArgs false
open Go Go.RowKit
section
variable {P : Program} {ks : Nat → Bool × List FV → Bool} {γ : Pl} {s : AS} {w : World} {ρa : Operand → Option AV} {ρ : Operand → Value}
theorem execOp_move {o : Oper} {x : Operand} (h : o.op = .move x ∨ o.op = .assign x) : execOp ρ o = (do pure (.value (← (pure (ρ x) : Sem Value))) : Sem Next) := by
  rcases h with h | h <;> (unfold execOp; rw [h]; rfl)
set_option maxHeartbeats 4000000 in
theorem aop_ok (hK : KeyLaw P ks) {o : Oper} {outs : List (AV × AS)} (h : HR γ s w) (hr : Op2 γ ρa ρ) (ha : aop P ks o ρa s = some outs) : Ran P (execOp ρ o) γ s w outs := by
  unfold aop at ha
  split at ha
  · rename_i x ho
    rw [execOp_move (.inl ho)]
    exact q1_ok h ha fun a e => ⟨_, rfl, hr _ _ e⟩
  · rename_i x ho
    rw [execOp_move (.inr ho)]
    exact q1_ok h ha fun a e => ⟨_, rfl, hr _ _ e⟩
  · rename_i c a b ho
    have hx : ∀ t : Bool, ρa c = some (.sc (.f (.bool t))) → execOp ρ o = (do pure (.value (← (pure (if t then ρ a else ρ b) : Sem Value))) : Sem Next) := fun t ht => by
      have : ρ c = .bool t := hr _ _ ht
      unfold execOp
      rw [ho]
      simp only [this, asBool]
      rfl
    split at ha
    · rename_i hc
      rw [hx _ hc]
      exact q1_ok h ha fun a e => ⟨_, rfl, hr _ _ e⟩
    · rename_i hc
      rw [hx _ hc]
      exact q1_ok h ha fun a e => ⟨_, rfl, hr _ _ e⟩
    · cases ha
  · rename_i t ho
    unfold execOp
    rw [ho]
    refine w1_ok ha fun a e => ?_
    obtain ⟨L, hL, rfl⟩ := Option.map_eq_some_iff.1 e
    exact alloc_ok h hL
  · rename_i t x ho
    unfold execOp
    rw [ho]
    refine w1_ok ha fun a e => ?_
    obtain ⟨L, hL, rfl⟩ := Option.map_eq_some_iff.1 e
    obtain ⟨v, hv, hl⟩ := Option.bind_eq_some_iff.1 hL
    exact box_ok h (hr _ _ hv) hl
  · rename_i t ps ho
    unfold execOp
    rw [ho]
    refine q1_ok h ha fun a e => ?_
    obtain ⟨qs, hq, hb⟩ := Option.bind_eq_some_iff.1 e
    exact build_ok (by simpa using parts_ok hr hq) hb
  · rename_i t n ps ho
    unfold execOp
    rw [ho]
    refine w1_ok ha fun a e => ?_
    obtain ⟨qs, hq, hb⟩ := Option.bind_eq_some_iff.1 e
    exact bslice_ok h (by simpa using parts_ok hr hq) hb
  · rename_i t x ho
    split at ha
    · rename_i b off hx
      split at ha
      · rename_i ty L hf
        unfold execOp
        rw [ho]
        obtain ⟨B, d, S, hb, hv⟩ := hr _ _ hx
        dsimp only
        rw [hv]
        exact q1_ok h ha fun a e => load_ok (h.obj _ _ (fnd_mem hf)) hb e
      · cases ha
    · cases ha
  · rename_i t a x ho
    split at ha
    · rename_i av xv h1 h2
      unfold execOp
      rw [ho]
      exact u1_ok ha fun s' e => store_ok h (hr _ _ h1) (hr _ _ h2) e
    · cases ha
  · rename_i x ho
    split at ha
    · rename_i b off hx
      have hv := hr _ _ hx
      obtain ⟨B, d, S, hb, hv'⟩ := hv
      have he : execOp ρ o = (do pure (.value (← (pure (ρ x) : Sem Value))) : Sem Next) := by
        unfold execOp
        rw [ho]
        simp only [hv']
        rfl
      rw [he]
      exact q1_ok h ha fun a e => ⟨_, rfl, by cases e; exact hr _ _ hx⟩
    · cases ha
  · rename_i op t x y yt ho
    split at ha
    · rename_i av bv h1 h2
      unfold execOp
      rw [ho]
      exact q1_ok h ha fun a e => binA_ok (hr _ _ h1) (hr _ _ h2) e
    · cases ha
  · rename_i op t x ho
    split at ha
    · rename_i v hv
      obtain ⟨av, h1, h2⟩ := Option.bind_eq_some_iff.1 hv
      have hx := fv_eq h2 (hr _ _ h1)
      unfold execOp
      rw [ho]
      dsimp only
      rw [hx]
      refine q1_ok h ha fun a e => ?_
      obtain ⟨z, hz, hr2⟩ := Option.bind_eq_some_iff.1 e
      exact ⟨z, flatS_run hz w, absV_rel hr2⟩
    · cases ha
  · rename_i a b x ho
    split at ha
    · rename_i v hv
      unfold execOp
      rw [ho]
      exact q1_ok h ha fun a e => convA_ok h (hr _ _ hv) e
    · cases ha
  · rename_i f first caps ho
    split at ha
    · rename_i hfi
      have hfe : first = #[] := by simpa using hfi
      subst hfe
      obtain ⟨cs, hcs, rfl⟩ := Option.map_eq_some_iff.1 ha
      refine ⟨_, s, .func (.func f) #[] (caps.map ρ), w, List.mem_cons_self .., .inl ?_, Done.quiet h ⟨caps.toList.map ρ, ?_, caps_ok hr hcs⟩⟩
      · unfold execOp
        rw [ho]
        simp [Instr.makeFunc]
      · congr 1
        apply Array.ext'
        simp
    · cases ha
  · rename_i t ho
    cases ha
    obtain ⟨u, w', h1, h2⟩ := makeMap_ok (P := P) (t := t) h
    refine ⟨_, _, u, w', List.mem_cons_self .., .inl ?_, h2⟩
    unfold execOp
    rw [ho]
    simp only [Option.map_none, Sem.run_bind, h1, Result.andThen_ok, Sem.run_pure]
  · rename_i t l c ho
    split at ha
    · rename_i lv cv h1 h2
      unfold execOp
      rw [ho]
      exact w1_ok ha fun r e => msl_ok h (hr _ _ h1) (hr _ _ h2) e
    · cases ha
  · rename_i t x lo hi mx ho
    split at ha
    · rename_i v l hh m h1 h2 h3 h4
      unfold execOp
      rw [ho]
      refine q1_ok h ha fun a e => ?_
      obtain ⟨y, hy, rfl⟩ := Option.map_eq_some_iff.1 e
      exact slice_ok (hr _ _ h1) (bnd_ok hr h2) (bnd_ok hr h3) (bnd_ok hr h4) hy
    · cases ha
  · rename_i t x f ho
    split at ha
    · rename_i b off k hx hk
      obtain ⟨B, d, S, hb, hv⟩ := hr _ _ hx
      unfold execOp
      rw [ho]
      dsimp only
      rw [hv]
      exact q1_ok h ha fun a e => ⟨_, fieldAt_ok hk, by cases e; exact ⟨B, d, S, hb, by rw [Nat.add_assoc]⟩⟩
    · cases ha
  · rename_i t x i ho
    split at ha
    · rename_i b off n c z k j e hx hi he
      split at ha
      · rename_i hc
        obtain ⟨B, d, S, c', hb, hv, hn, hcc⟩ := hr _ _ hx
        have hj : ρ i = .int k j := hr _ _ hi
        unfold execOp
        rw [ho]
        dsimp only
        rw [hv, hj]
        exact q1_ok h ha fun a e2 => ⟨_, indexAt_ok he hc.1 hc.2.1 hc.2.2, by cases e2; exact ⟨B, d, S, hb, by rw [Nat.add_assoc]⟩⟩
      · cases ha
    · cases ha
  · rename_i t x i ho
    split at ha
    · rename_i v j h1 h2
      obtain ⟨av, k1, k2⟩ := Option.bind_eq_some_iff.1 h1
      obtain ⟨jv, k3, k4⟩ := Option.bind_eq_some_iff.1 h2
      have hx := fv_eq k2 (hr _ _ k1)
      have hi := fv_eq k4 (hr _ _ k3)
      unfold execOp
      rw [ho]
      dsimp only
      rw [hx, hi]
      refine q1_ok h ha fun a e => ?_
      obtain ⟨z, hz, hr2⟩ := Option.bind_eq_some_iff.1 e
      exact ⟨z, flatS_run hz w, absV_rel hr2⟩
    · cases ha
  · rename_i t m k ok ho
    split at ha
    · rename_i mv kv h1 h2
      unfold execOp
      rw [ho]
      exact q1_ok h ha fun a e => lookA_ok hK h (hr _ _ h1) (hr _ _ h2) e
    · cases ha
  · rename_i t m k v ho
    split at ha
    · rename_i mv kv vv h1 h2 h3
      unfold execOp
      rw [ho]
      exact u1_ok ha fun s' e => updA_ok hK h (hr _ _ h1) (hr _ _ h2) (hr _ _ h3) e
    · cases ha
  · rename_i t x ho
    split at ha
    · rename_i xv hx
      unfold execOp
      rw [ho]
      exact w1_ok ha fun r e => range_ok h (hr _ _ hx) e
    · cases ha
  · rename_i it ho
    split at ha
    · rename_i xv hx
      split at ha
      · rename_i hkf
        obtain ⟨v, s', u', w', k1, k2, k3⟩ := next_ok (P := P) (ty := o.type) h (hr _ _ hx) hkf ha
        refine ⟨v, s', u', w', k1, .inl ?_, k3⟩
        unfold execOp
        rw [ho]
        simp only [Sem.run_bind, k2, Result.andThen_ok, Sem.run_pure]
      · cases ha
    · cases ha
  · rename_i it ho
    split at ha
    · rename_i xv hx
      unfold execOp
      rw [ho]
      exact q1_ok h ha fun a e => entry_ok h (hr _ _ hx) e
    · cases ha
  · rename_i x i ho
    split at ha
    · rename_i ys hx
      obtain ⟨us, hv, h2⟩ := hr _ _ hx
      unfold execOp
      rw [ho]
      dsimp only
      rw [hv]
      refine q1_ok h ha fun a e => ?_
      obtain ⟨y, hy, rfl⟩ := Option.map_eq_some_iff.1 e
      obtain ⟨u, k1, k2⟩ := All2.get i h2 hy
      exact ⟨u, by simp [Instr.extract, k1], AE.av_rel k2⟩
    · cases ha
  · rename_i b args ats ho
    obtain ⟨r, hr2, rfl⟩ := Option.map_eq_some_iff.1 ha
    obtain ⟨u, w', k1, k2⟩ := blt_ok (consts := args.map fun | .const _ => true | _ => false) h hr hr2
    refine ⟨r.1, r.2, u, w', List.mem_cons_self .., .inl ?_, k2⟩
    unfold execOp
    rw [ho]
    have e1 : (args.toList.map ρ).toArray = args.map ρ := by apply Array.ext'; simp
    have e2 : ats.toList.toArray = ats := by simp
    rw [e1, e2] at k1
    simp only [resolve, Sem.run_bind, Sem.run_pure, Result.andThen_ok, invoke]
    exact k1
  · cases ha
end
end Go.Proofs.YteigplfldhdakaaGreatDoor.Ev
/- A region's operations, calls among them, in the text's order. -/
namespace Go.Proofs.YteigplfldhdakaaGreatDoor.Ev
set_option linter.unusedVariables false
set_option linter.unusedSimpArgs false
open Go Go.RowKit
inductive Cal where
  | fn (f : Nat) | yl (l : Nat)
abbrev CF := Cal → List AV → AS → Option (List (AV × AS))
/-- what stands for all that the run began with -/
structure Inv (w0 : World) (γ : Pl) (s : AS) (w : World) : Prop where
  hr : HR γ s w
  im : ∀ k, Im γ s k → w0.heap.size ≤ k
  bel : Below w0.heap.size w0 w
theorem Inv.step {w0 : World} {γ γ' : Pl} {s s' : AS} {w w' : World} (h : Inv w0 γ s w) (hr : HR γ' s' w') (hf : Fr γ s w γ' s' w') : Inv w0 γ' s' w' := by
  refine ⟨hr, fun k hk => ?_, ⟨hf.same.1.trans h.bel.os, hf.same.2.1.trans h.bel.tape, hf.same.2.2.trans h.bel.output, Nat.le_trans h.bel.size hf.size, fun k hk => ?_⟩⟩
  · rcases hf.im k hk with h1 | h1
    · exact h.im k h1
    · exact Nat.le_trans h.bel.size h1
  · exact (hf.keep k (Nat.lt_of_lt_of_le hk h.bel.size) fun hi => by have := h.im k hi; omega).trans (h.bel.block k hk)
def aeval (tm : List AV) : Operand → Option AV
  | .tmp t => tm[t]?
  | .const v => absV v
  | .func f => some (.sc (.f (.fn f)))
  | .global _ => none
abbrev TR (γ : Pl) (tm : List AV) (a : Act) : Prop := All2 (RA γ) tm a.tmps.toList
theorem aeval_ok {γ : Pl} {tm : List AV} {a : Act} (h : TR γ tm a) : Op2 γ (aeval tm) a.eval := fun x v hx => by
  cases x with
  | tmp t =>
    obtain ⟨u, h1, h2⟩ := All2.get t h hx
    have e : a.eval (.tmp t) = u := by
      show a.tmps.getD t undef = u
      rw [Array.getElem?_toList] at h1
      rw [Array.getD_eq_getD_getElem?, h1]
      rfl
    rw [e]
    exact h2
  | const v => exact absV_rel hx
  | func f => cases hx; exact rfl
  | global g => cases hx
def putA (dst : Option Nat) (v : AV) (tm : List AV) : List AV := match dst with | some d => tm.set d v | none => tm
theorem putA_ok {γ : Pl} {tm : List AV} {a : Act} {dst : Option Nat} {v : AV} {u : Value} (h : TR γ tm a) (hv : RA γ v u) : TR γ (putA dst v tm) (a.put dst u) := by
  cases dst with
  | none => exact h
  | some d =>
    show All2 (RA γ) (tm.set d v) (a.tmps.setIfInBounds d u).toList
    rw [Array.toList_setIfInBounds]
    exact All2.set d h hv
theorem put_defers (a : Act) (dst : Option Nat) (u : Value) : (a.put dst u).defers = a.defers := by cases dst <;> rfl
def wantA (ops : Array Oper) (o : Oper) (tm : List AV) : Option Bool :=
  match o.guard with
  | none => some true
  | some (j, want) => match (ops[j]?).bind (·.dst) with
    | some d => match tm[d]? with
      | some (.sc (.f (.bool b))) => some (b == want)
      | _ => none
    | none => none
theorem wantA_ok {γ : Pl} {tm : List AV} {a : Act} {ops : Array Oper} {o : Oper} {b : Bool} (h : TR γ tm a) (hw : wantA ops o tm = some b) : Region.wanted o (yielded ops a.tmps) = b := by
  unfold wantA at hw
  unfold Region.wanted
  split at hw
  · rename_i hg
    rw [hg]
    cases hw
    rfl
  · rename_i j want hg
    rw [hg]
    split at hw
    · rename_i d hd
      split at hw
      · rename_i v hv
        cases hw
        obtain ⟨u, h1, h2⟩ := All2.get d h hv
        have hu : u = .bool v := h2
        rw [Array.getElem?_toList] at h1
        simp only [yielded, hd, Option.bind_some, h1, hu]
        cases v <;> cases want <;> rfl
      · cases hw
    · cases hw
def argsA (tm : List AV) : List Operand → Option (List AV)
  | [] => some []
  | x :: r => match aeval tm x, argsA tm r with
    | some v, some vs => some (v :: vs)
    | _, _ => none
theorem argsA_ok {γ : Pl} {tm : List AV} {a : Act} (h : TR γ tm a) : ∀ {xs : List Operand} {vs : List AV}, argsA tm xs = some vs → All2 (RA γ) vs (xs.map a.eval)
  | [], _, e => by cases e; trivial
  | x :: r, _, e => by
    unfold argsA at e
    split at e
    · rename_i v vs h1 h2
      cases e
      exact ⟨aeval_ok h _ _ h1, argsA_ok h h2⟩
    · cases e
def capV (cs : List Nat) : List AV := cs.map fun b => .sc (.pt b 0)
theorem capV_ok {γ : Pl} : ∀ {cs : List Nat} {us : List Value}, All2 (RP γ) cs us → All2 (RA γ) (capV cs) us
  | [], [], _ => trivial
  | _ :: _, _ :: _, h => ⟨by obtain ⟨B, d, S, h1, h2⟩ := h.1; exact ⟨B, d, S, h1, h2⟩, capV_ok h.2⟩
  | [], _ :: _, h => h.elim
  | _ :: _, [], h => h.elim
def evO (P : Program) (ks : Nat → Bool × List FV → Bool) (cf : CF) (o : Oper) (tm : List AV) (s : AS) : Option (List (AV × AS)) :=
  match o.op with
  | .call { callee := .value f, args, argTypes } => match aeval tm f, argsA tm args.toList with
    | some (.sc (.f (.fn g))), some xs => cf (.fn g) xs s
    | some (.sc (.cl g cs)), some xs => cf (.fn g) (xs ++ capV cs) s
    | some (.sc (.yl l)), some xs => cf (.yl l) xs s
    | _, _ => none
  | _ => aop P ks o (aeval tm) s
/-- what a call of a function, of a round, is reckoned to do -/
structure SoundC (P : Program) (w0 : World) (cf : CF) : Prop where
  fn : ∀ f args s outs γ w us, Inv w0 γ s w → All2 (RA γ) args us → cf (.fn f) args s = some outs →
    (callFunc f us.toArray).run P w = .ok (.enter f us.toArray) w ∧ Calls P f us.toArray w fun e w' => ∃ v s' u, (v, s') ∈ outs ∧ e = .returned u ∧ Done γ s w v s' u w'
  yl : ∀ l args s outs γ w us, Inv w0 γ s w → All2 (RA γ) args us → cf (.yl l) args s = some outs → ∀ B d S, γ l = some (B, d, S) →
    ∃ fn tmps assign body, (Instr.yield B us.toArray).run P w = .ok (.round B fn tmps assign body) w ∧ ∀ cfr cs, ∃ v s' u w', (v, s') ∈ outs ∧ Done γ s w v s' u w' ∧
      Steps P (lone (Frame.round B fn tmps assign body .normal) (cfr :: cs) w) (lone (cfr.finish u) cs w')
section
variable {P : Program} {ks : Nat → Bool × List FV → Bool} {w0 : World} {cf : CF} {γ : Pl} {s : AS} {w : World}
theorem arr_app (xs ys : List Value) : #[] ++ xs.toArray ++ ys.toArray = (xs ++ ys).toArray := by simp
/-- one operation, where it stands in its region -/
theorem evO_ok (hK : KeyLaw P ks) (hC : SoundC P w0 cf) {b : Frame} {a : Act} {k : List Item} {cs : List Frame} {ops : Array Oper} {i : Nat} {rest : List Nat} {o : Oper} {tm : List AV} {outs : List (AV × AS)}
    (h : Inv w0 γ s w) (ht : TR γ tm a) (ho : ops[i]? = some o) (hw : Region.wanted o (yielded ops a.tmps) = true) (he : evO P ks cf o tm s = some outs) :
    ∃ v s' u w', (v, s') ∈ outs ∧ Done γ s w v s' u w' ∧ Steps P (lone (b.atR a (.inRegion ops (i :: rest) :: k)) cs w) (lone (b.atR (a.put o.dst u) (.inRegion ops rest :: k)) cs w') := by
  have hfin : ∀ v, (b.atR a (.inRegion ops (i :: rest) :: k)).finish v = b.atR (a.put o.dst v) (.inRegion ops rest :: k) := by
    intro v; rw [Frame.finish_atR, ho]; rfl
  have hg := stepGR_op (P := P) (b := b) (k := k) (cs := cs) (w := w) (rest := rest) ho hw
  have henter : ∀ {f args}, (execOp a.eval o).run P w = .ok (.enter f args) w → (∀ c, o.op ≠ .defer c) →
      step P (lone (b.atR a (.inRegion ops (i :: rest) :: k)) cs w) = .next (lone (Frame.enter P f args .normal) (b.atR a (.inRegion ops (i :: rest) :: k) :: cs) w) := fun hr hd =>
    step_lone_go (by rw [hg, Oper.semAt_eq _ _ _ hd]; simp [stepG.apply, hr, Frame.atR])
  have hcall : ∀ {f : Nat} {args : Array Value} {vs : List (AV × AS)}, (execOp a.eval o).run P w = .ok (.enter f args) w → (∀ c, o.op ≠ .defer c) → Calls P f args w (fun e w' => ∃ v s' u, (v, s') ∈ vs ∧ e = .returned u ∧ Done γ s w v s' u w') →
      ∃ v s' u w', (v, s') ∈ vs ∧ Done γ s w v s' u w' ∧ Steps P (lone (b.atR a (.inRegion ops (i :: rest) :: k)) cs w) (lone (b.atR (a.put o.dst u) (.inRegion ops rest :: k)) cs w') := fun hr hd hc => by
    obtain ⟨e, w', fr, ⟨v, s', u, h1, rfl, h2⟩, hcomes, hfn, hleave⟩ := hc (b.atR a (.inRegion ops (i :: rest) :: k) :: cs)
    refine ⟨v, s', u, w', h1, h2, .head (henter hr hd) (Steps.trans hcomes (.one ?_))⟩
    rw [← hfin]
    exact step_leave_returned hleave
  unfold evO at he
  split at he
  · rename_i f args ats hop
    have hd : ∀ c, o.op ≠ .defer c := fun c e => by rw [hop] at e; cases e
    have hrun : ∀ {fn first captured}, a.eval f = .func fn first captured → (execOp a.eval o).run P w = (invoke (.fn fn captured) (first ++ args.map a.eval)).run P w := fun hf => by
      unfold execOp
      rw [hop]
      simp only [resolve, hf, Deferred.ofValue, Sem.run_bind, Sem.run_pure, Result.andThen_ok]
    split at he
    · rename_i g xs h1 h2
      have hf : a.eval f = .func (.func g) #[] #[] := aeval_ok ht _ _ h1
      have hargs := argsA_ok ht h2
      obtain ⟨k1, k2⟩ := hC.fn g xs s outs γ w _ h hargs he
      refine hcall ?_ hd k2
      rw [hrun hf]
      have e1 : (#[] : Array Value) ++ args.map a.eval ++ #[] = (args.toList.map a.eval).toArray := by apply Array.ext'; simp
      show (callFunc g ((#[] : Array Value) ++ args.map a.eval ++ #[])).run P w = _
      rw [e1]
      exact k1
    · rename_i g cps xs h1 h2
      obtain ⟨us, hf, hus⟩ := aeval_ok ht _ _ h1
      have hargs := All2.app (argsA_ok ht h2) (capV_ok hus)
      obtain ⟨k1, k2⟩ := hC.fn g _ s outs γ w _ h hargs he
      refine hcall ?_ hd k2
      rw [hrun hf]
      have e1 : (#[] : Array Value) ++ args.map a.eval ++ us.toArray = (args.toList.map a.eval ++ us).toArray := by apply Array.ext'; simp
      show (callFunc g ((#[] : Array Value) ++ args.map a.eval ++ us.toArray)).run P w = _
      rw [e1]
      exact k1
    · rename_i l xs h1 h2
      obtain ⟨B, d, S, hb, hf⟩ := aeval_ok ht _ _ h1
      have hargs := argsA_ok ht h2
      obtain ⟨fn, tmps, assign, body, k1, k2⟩ := hC.yl l xs s outs γ w _ h hargs he B d S hb
      obtain ⟨v, s', u, w', q1, q2, q3⟩ := k2 (b.atR a (.inRegion ops (i :: rest) :: k)) cs
      refine ⟨v, s', u, w', q1, q2, ?_⟩
      rw [← hfin]
      refine .head ?_ q3
      refine step_lone_go ?_
      have e1 : (#[] : Array Value) ++ args.map a.eval = (args.toList.map a.eval).toArray := by apply Array.ext'; simp
      have hrn : (execOp a.eval o).run P w = .ok (.round B fn tmps assign body) w := by
        rw [hrun hf]
        show (Instr.yield B ((#[] : Array Value) ++ args.map a.eval)).run P w = _
        rw [e1]
        exact k1
      rw [hg, Oper.semAt_eq _ _ _ hd]
      simp [stepG.apply, hrn, Frame.atR]
    · cases he
  · rename_i hnot
    have hd : ∀ c, o.op ≠ .defer c := fun c e => by
      unfold aop at he
      rw [e] at he
      cases he
    obtain ⟨v, s', u, w', q1, q2, q3⟩ := aop_ok hK h.hr (aeval_ok ht) he
    refine ⟨v, s', u, w', q1, q3, .one (step_lone_go ?_)⟩
    rw [hg, Oper.semAt_eq _ _ _ hd, ← hfin]
    rcases q2 with q2 | ⟨q2, rfl⟩
    · simp [stepG.apply, q2]
    · simp [stepG.apply, q2]
def bindL {α β : Type} : List α → (α → Option (List β)) → Option (List β)
  | [], _ => some []
  | x :: r, f => match f x, bindL r f with
    | some ys, some zs => some (ys ++ zs)
    | _, _ => none
theorem bindL_mem {α β : Type} {f : α → Option (List β)} : ∀ {l : List α} {zs : List β} {x : α}, bindL l f = some zs → x ∈ l → ∃ ys, f x = some ys ∧ ∀ y ∈ ys, y ∈ zs
  | a :: r, zs, x, h, hx => by
    unfold bindL at h
    split at h
    · rename_i ys qs h1 h2
      cases h
      rcases List.mem_cons.1 hx with rfl | hx
      · exact ⟨ys, h1, fun y hy => List.mem_append_left _ hy⟩
      · obtain ⟨ys', k1, k2⟩ := bindL_mem h2 hx
        exact ⟨ys', k1, fun y hy => List.mem_append_right _ (k2 y hy)⟩
    · cases h
/-- a region's operations in the text's order -/
def evOps (P : Program) (ks : Nat → Bool × List FV → Bool) (cf : CF) (ops : Array Oper) : List Nat → List AV → AS → Option (List (List AV × AS))
  | [], tm, s => some [(tm, s)]
  | i :: rest, tm, s => match ops[i]? with
    | none => none
    | some o => match wantA ops o tm with
      | some true => match evO P ks cf o tm s with
        | some outs => bindL outs fun r => evOps P ks cf ops rest (putA o.dst r.1 tm) r.2
        | none => none
      | some false => evOps P ks cf ops rest (putA o.dst undA tm) s
      | none => none
theorem evOps_ok (hK : KeyLaw P ks) (hC : SoundC P w0 cf) {b : Frame} {k : List Item} {cs : List Frame} {ops : Array Oper} : ∀ (l : List Nat) {γ : Pl} {s : AS} {w : World} {a : Act} {tm : List AV} {outs : List (List AV × AS)},
    Inv w0 γ s w → TR γ tm a → evOps P ks cf ops l tm s = some outs →
    ∃ tm' s' γ' w' a', (tm', s') ∈ outs ∧ HR γ' s' w' ∧ Fr γ s w γ' s' w' ∧ TR γ' tm' a' ∧ a'.defers = a.defers ∧ Steps P (lone (b.atR a (.inRegion ops l :: k)) cs w) (lone (b.atR a' k) cs w')
  | [], γ, s, w, a, tm, outs, h, ht, he => by
    cases he
    exact ⟨tm, s, γ, w, a, List.mem_cons_self .., h.hr, Fr.refl _ _ _, ht, rfl, .one stepR_region_end⟩
  | i :: rest, γ, s, w, a, tm, outs, h, ht, he => by
    unfold evOps at he
    split at he
    · cases he
    · rename_i o ho
      split at he
      · rename_i hw
        split at he
        · rename_i outs1 he1
          obtain ⟨v, s1, u, w1, q1, ⟨γ1, k1, k2, k3⟩, q3⟩ := evO_ok hK hC (b := b) (k := k) (cs := cs) (rest := rest) h ht ho (wantA_ok ht hw) he1
          obtain ⟨ys, e1, e2⟩ := bindL_mem he q1
          have hi := h.step k1 k2
          obtain ⟨tm', s', γ', w', a', r1, r2, r3, r4, r5, r6⟩ := evOps_ok hK hC (b := b) (k := k) (cs := cs) rest hi (putA_ok (All2.mono (fun _ _ x => RA.mono k2.sub x) ht) k3) e1
          exact ⟨tm', s', γ', w', a', e2 _ r1, r2, k2.trans r3, r4, r5.trans (put_defers _ _ _), q3.trans r6⟩
        · cases he
      · rename_i hw
        have hwc := wantA_ok ht hw
        have hs := stepR_op_skip (P := P) (b := b) (a := a) (k := k) (cs := cs) (w := w) (ops := ops) (i := i) (rest := rest) (by simp [ho, hwc])
        simp only [ho, Option.bind_some] at hs
        obtain ⟨tm', s', γ', w', a', r1, r2, r3, r4, r5, r6⟩ := evOps_ok hK hC (b := b) (k := k) (cs := cs) rest h (putA_ok ht (und_rel γ)) he
        exact ⟨tm', s', γ', w', a', r1, r2, r3, r4, r5.trans (put_defers _ _ _), .head hs r6⟩
      · cases he
end
end Go.Proofs.YteigplfldhdakaaGreatDoor.Ev
