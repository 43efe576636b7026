/- strings.Builder: WriteString, out of the kit's shelf. -/
import Derived.Test.YteigplfldhdakaaGreatDoorD03
import Derived.Test.YteigplfldhdakaaGreatDoorD01
import Derived.Test.YteigplfldhdakaaGreatDoorD26
import Derived.Test.YteigplfldhdakaaGreatDoorD13
import Derived.Test.YteigplfldhdakaaGreatDoorD17
import Derived.AtR
import Derived.RangeFuncIn
import Derived.Below
set_option linter.unusedVariables false
set_option linter.unusedSimpArgs false
namespace Go.Proofs.YteigplfldhdakaaGreatDoor
open Go.RowKit Go.Shelf
def ren166 : Go.Shelf.Ren := ⟨fun | 166 => 45 | 240 => 80 | 276 => 123 | n => n, fun | 37 => 119 | 70 => 118 | 72 => 121 | 75 => 123 | 80 => 126 | 164 => 234 | n => n, fun | n => n⟩
theorem lays166 : Go.Proofs.Lays.n166 Tryz.prog ren166 := {
  mixed := by kernel_rfl
  f166 := Tryz.func45.trans (congrArg some (by kernel_rfl))
  f240 := Tryz.func80.trans (congrArg some (by kernel_rfl))
  f276 := Tryz.func123.trans (congrArg some (by kernel_rfl))
  t0 := Tryz.underlying0
  a0 := Tryz.isAgg0
  z0 := Tryz.sizeOf0
  v0 := Tryz.zeroValue0
  t3 := Tryz.underlying3
  a3 := Tryz.isAgg3
  z3 := Tryz.sizeOf3
  v3 := Tryz.zeroValue3
  t4 := Tryz.underlying4
  a4 := Tryz.isAgg4
  z4 := Tryz.sizeOf4
  v4 := Tryz.zeroValue4
  t9 := Tryz.underlying9
  a9 := Tryz.isAgg9
  z9 := Tryz.sizeOf9
  v9 := Tryz.zeroValue9
  t20 := Tryz.underlying20
  a20 := Tryz.isAgg20
  z20 := Tryz.sizeOf20
  v20 := Tryz.zeroValue20
  t37 := Tryz.underlying119
  a37 := Tryz.isAgg119
  z37 := Tryz.sizeOf119
  v37 := Tryz.zeroValue119
  t70 := Tryz.underlying118
  a70 := Tryz.isAgg118
  z70 := Tryz.sizeOf118
  v70 := Tryz.zeroValue118
  t72 := Tryz.underlying121
  a72 := Tryz.isAgg121
  z72 := Tryz.sizeOf121
  v72 := Tryz.zeroValue121
  t75 := Tryz.underlying123
  a75 := Tryz.isAgg123
  z75 := Tryz.sizeOf123
  v75 := Tryz.zeroValue123
  t164 := Tryz.underlying234
  a164 := Tryz.isAgg234
  z164 := Tryz.sizeOf234
  v164 := Tryz.zeroValue234 }
theorem extra166 : Builder.Extra Tryz.prog ren166 := {
  sizeBuilder := by kernel_rfl
  liesBuilder := by kernel_rfl
  t5 := Tryz.underlying5
  a5 := Tryz.isAgg5
  z5 := Tryz.sizeOf5
  v5 := Tryz.zeroValue5
  infoByte := by kernel_rfl
  cellsByte := by kernel_rfl
  sizeByte := by kernel_rfl
  neB5 := by decide }
theorem writeString_c (B b : Nat) (bs : List Value) (s : ByteArray) (w : World) (h : Lib.IsBuilderF 121 5 B b bs w) (hlen : bs.length + s.size ≤ 140737488355328) (hBw : B ≤ w.heap.size) :
    Calls Tryz.prog 45 #[.pointer (some ⟨b, 0, none⟩), .string s] w fun e w' => e = .returned (.tuple #[.int .i64 s.size, .nilIface]) ∧ (Lib.BuilderAtF 121 5 B b (.pointer (some ⟨b, 0, none⟩)) (bs ++ Lib.strCells s) w' ∧ Below B w w' ∧ Lib.OthersKept 5 (some b) w w') :=
  Any.Builder_WriteString_k lays166 extra166 B b bs s w h hlen hBw
end Go.Proofs.YteigplfldhdakaaGreatDoor
/- document: Fix, where nothing is unknown. -/
namespace Go.Proofs.YteigplfldhdakaaGreatDoor
open Go.RowKit Go.Shelf
attribute [local go_sem] Oper.semAt_some
theorem wp_quietly {P : Program} {c : Code} {K : Act → World → Prop} {Q : Exit → Act → World → Prop} {a : Act} {w : World} (h : c.wp P (Exit.then K (fun _ _ _ => False)) a w) : c.wp P (Exit.then K Q) a w :=
  wp_mono h fun e a w h => by cases e <;> first | exact h | exact h.elim
set_option maxRecDepth 100000 in
set_option maxHeartbeats 4000000 in
theorem fix_c {w : World} {p : Nat} {s : ByteArray} (hC : CorAt w p s) (hv : Lib.validD (bys s) = true) (hs : s.size ≤ 1048576) (hT : Tab w) (x : Int) (hx : 0 ≤ x ∧ x ≤ 4096) :
    Calls Tryz.prog 17 #[.pointer (some ⟨p, 0, none⟩), .string s, .int .i64 x] w fun e w' => Below w.heap.size w w' ∧ e = .returned (.tuple #[.string s, .slice none 0 0, .int .i64 0]) := by
  obtain ⟨W0, hW0⟩ : ∃ W0, (w.alloc (.cells #[.pointer (some ⟨p, 0, none⟩)] 53)).alloc (.cells #[.int .i64 x] 3) = W0 := ⟨_, rfl⟩
  have hb0 : Below w.heap.size w W0 := by rw [← hW0]; exact balloc (balloc (Below.refl _ w) _) _
  have hs0 : W0.heap.size = w.heap.size + 1 + 1 := by rw [← hW0]; simp
  have p0 : W0.heap[w.heap.size]? = some (.cells #[.pointer (some ⟨p, 0, none⟩)] 53 (0, 0)) := by rw [← hW0]; exact al2_0 _ _ _
  have p1 : W0.heap[w.heap.size + 1]? = some (.cells #[.int .i64 x] 3 (0, 0)) := by rw [← hW0]; exact al2_1 _ _ _
  have hk : ∀ W, Below W0.heap.size W0 W → W.cell? ⟨w.heap.size, 0, none⟩ = some (.pointer (some ⟨p, 0, none⟩)) ∧ W.cell? ⟨w.heap.size + 1, 0, none⟩ = some (.int .i64 x) := fun W hW =>
    ⟨(box_cell ((hW.block _ (by omega)).trans p0)).1, (box_cell ((hW.block _ (by omega)).trans p1)).1⟩
  have hsp : Calls Tryz.prog 42 #[.string s] W0 fun e w' => Below W0.heap.size W0 w' ∧ ∃ A c, e = .returned (.tuple #[.slice A (spansF (bys s)).length c, .int .i64 0]) ∧ SpS w' (.slice A (spansF (bys s)).length c) (spansF (bys s)) := (spans_c s hs _ (hT.bel hb0)).mono fun e w' ⟨h1, h2⟩ => ⟨h1, by
    rcases h2 with ⟨h2, _⟩ | ⟨_, A, c, h3, h4, _⟩
    · rw [hv] at h2; cases h2
    · exact ⟨A, c, h3, h4⟩⟩
  have hmm := @run_makeMap Tryz.prog
  obtain ⟨c0, c1⟩ := hk W0 (Below.refl _ _)
  have HSP := hid hsp
  have HC := hid hC
  have HT := hid hT
  have HB0 := hid hb0
  have HK := hid hk
  have hxn : ¬ x < 0 := by omega
  have hxm : ¬ (4096 : Int) < x := by omega
  clear hC hT hb0 hsp hk p0 p1
  refine (callsIn_wide (n := 6)).1 ?_
  refine callsIn_of_wp_marks Tryz.func17 rfl trivial ?_ rfl
  simp only [Tryz.ntmps17, List.size_toArray, List.length_cons, List.length_nil, Nat.reduceAdd, Nat.reduceSub, Array.replicate_succ, Array.replicate_zero, List.push_toArray, List.append_toArray, List.nil_append, List.cons_append]
  gi_wp2_with (first
    | (refine ⟨trivial, ?_⟩; gi_at_call 42; refine (callsIn_wide.2 HSP.out).mono ?_; rintro e w1 ⟨hb1, A, c, rfl, h1⟩; obtain ⟨d0, d1⟩ := HK.out _ hb1; obtain ⟨W3, hW3⟩ : ∃ W3, ((w1.alloc (.cells #[.slice none 0 0] 56)).alloc (.map #[] 0)).alloc (.cells #[.map (some (w1.heap.size + 1))] 107) = W3 := ⟨_, rfl⟩; have hb3 : Below w1.heap.size w1 W3 := (by rw [← hW3]; exact balloc (balloc (balloc (Below.refl _ w1) _) _) _); have hx3 : W3.heap[w1.heap.size]? = some (.cells #[.slice none 0 0] 56 (0, 0)) := (by rw [← hW3]; exact alloc_keep (al2_0 _ _ _) _); obtain ⟨f0, f1⟩ := HK.out _ (bthen hb1 hb3); have HB1 := hid hb1; have HB3 := hid hb3; have HX3 := hid hx3; have H1 := hid h1; clear hb1 h1 hb3 hx3)
    | (refine ⟨trivial, ?_⟩; gi_at_call 43; refine (callsIn_wide.2 (unk43_c _ _ _ _ _ _)).mono ?_; rintro e w2 ⟨rfl, hw2⟩))
  obtain ⟨e0, e1, e2, e3, e4⟩ := unk_laid (L := spansF (bys s)) hw2
  try rw [← hw2]
  have hbt : Below w.heap.size w w2 := bthen (bthen HB0.out (bthen HB1.out HB3.out)) e3
  have hx2 : w2.heap[w1.heap.size]? = some (.cells #[.slice none 0 0] 56 (0, 0)) := (e3.block _ (blk_lt HX3.out)).trans HX3.out
  have hlt1 := blk_lt hx2
  have hsz := hbt.size
  have hw01 : w.heap.size ≤ w1.heap.size := Nat.le_trans HB0.out.size HB1.out.size
  refine wpIn_rangeL rfl (by omega) (gf := 76) (lb := #[.pointer (some ⟨W3.heap.size + 1 + 1, 0, none⟩), .pointer (some ⟨W3.heap.size + 1, 0, none⟩), .pointer (some ⟨W3.heap.size, 0, none⟩)]) rfl trivial (enters_of Tryz.func76 (by kernel_rfl) rfl)
    (unk_seq 5 (by omega) _ _ _ p s hs hv A c (fun _ => #[.bool false, .bool false]) (fun _ _ => False) w2 (HT.out.bel hbt) e2 e1 e0 (HC.out.below hbt) (H1.out.below (bthen HB3.out e3))) (Below.refl _ _) (fun _ => rfl) (fun k hk => hk.elim) (fun k hk => hk.elim)
    (UnkI w w1.heap.size 56) (fun _ _ _ => False) ?hI ?hIx ?h0 ?round ?done ?stop
  case hI => exact fun k X Y h hcs => h.cs hcs hsz
  case hIx => exact fun _ _ _ _ h _ => h
  case h0 => exact ⟨hx2, hbt⟩
  case round => exact fun l k W hk => absurd hk (Nat.not_lt_zero _)
  case stop => exact fun _ _ _ _ _ _ h _ => h.elim
  case done =>
    rintro D W hD ⟨h1, h2⟩ hK
    obtain ⟨X, hX⟩ : ∃ X, W.alloc (.cells #[.pointer none, .slice none 0 0] 121) = X := ⟨_, rfl⟩
    have hXb : Below W.heap.size W X := by rw [← hX]; exact balloc (Below.refl _ W) _
    have hXn : X.heap[W.heap.size]? = some (.cells #[.pointer none, .slice none 0 0] 121 (0, 0)) := by rw [← hX]; exact heap_alloc_new _ _
    have hXs : X.heap.size = W.heap.size + 1 := by rw [← hX]; exact World.size_alloc _ _
    have hX1 : X.heap[w1.heap.size]? = some (.cells #[.slice none 0 0] 56 (0, 0)) := (hXb.block _ (blk_lt h1)).trans h1
    obtain ⟨q0, q1⟩ := box_cell hX1
    have hbd : Lib.IsBuilderF 121 5 W.heap.size W.heap.size [] X := .inl ⟨Nat.le_refl _, _, hXn, World.ownsRowF_of (World.ownsRow_nil _ _ _ _), by simp [Value.ownBlock]⟩
    have hse : s.extract 0 s.size = s := by simp
    have HWS := hid (writeString_c W.heap.size W.heap.size [] s X hbd (by simp; omega) (by omega))
    have HX1 := hid hX1
    have H2 := hid h2
    have HK := hid hK
    have HXB := hid hXb
    have HD : w1.heap.size < D := by omega
    have hDW := blk_lt hK
    clear h1 h2 hD hX1 hK hXb hXn hbd
    gi_wp2
    gi_loopw [18, 80] (fun av iv wr => av = .int .i64 0 ∧ iv = .int .i64 0 ∧ Hid (wr = X)) (fun av iv _ => 1 - (intOf iv).toNat)
    case atStart => exact ⟨rfl, rfl, hid rfl⟩
    case round =>
      obtain ⟨rfl, rfl, HW⟩ := hrel
      have hw : wr = X := HW.out
      subst hw
      gi_wp2_with (refine ⟨trivial, ?_⟩; gi_at_call 45; refine (callsIn_wide.2 HWS.out).mono ?_; rintro e w4 ⟨rfl, hbl4, hb4, ho4⟩; have HBL := hid hbl4; have HB4 := hid hb4; clear hbl4 hb4 ho4)
      have hX4 := (HB4.out.block w1.heap.size (by omega)).trans HX1.out
      have hX4d : w4.drew.heap[w1.heap.size]? = some (.cells #[.slice none 0 0] 56 (0, 0)) := hX4
      obtain ⟨z0, z1⟩ := box_cell hX4d
      have hss : (⟨s.data.toList.toArray⟩ : ByteArray) = s := by cases s; simp
      have hsz4 := HB4.out.size
      have h46 : Calls Tryz.prog 46 #[.pointer (some ⟨W.heap.size, 0, none⟩)] w4.drew fun e w' => e = .returned (.string s) ∧ Below W.heap.size w4.drew w' :=
        (Tryz.Builder_String_any_k W.heap.size W.heap.size s.data.toList w4.drew (.inr HBL.out) (by show W.heap.size ≤ w4.heap.size; omega)).mono fun e w' ⟨h1, _, h2, _⟩ => ⟨by rw [h1, hss], h2⟩
      have H46 := hid h46
      have HX4 := hid hX4d
      clear h46 hX4 hX4d hss
      refine wpIn_wide.2 ?_
      refine wp_quietly ?_
      go_region_with (go_at_call 46; refine H46.out.mono ?_; rintro e w5 ⟨rfl, hb5⟩; have hX5 := (hb5.block w1.heap.size (by omega)).trans HX4.out; obtain ⟨y0, y1⟩ := box_cell hX5; have HB5 := hid hb5; clear hb5 hX5)
      all_goals
        gi_wp2
        have hle := H2.out.size
        have hK' : w5.heap[D]? = some (Obj.deferred (some [])) := (HB5.out.block D hDW).trans ((HB4.out.block D hDW).trans ((HXB.out.block D hDW).trans HK.out))
        have hbe : Below w.heap.size w w5 := (((bthen H2.out HXB.out).trans (HB4.out.mono hle)).drew).trans (HB5.out.mono hle)
        refine ⟨by simp, .inl ⟨_, _, rfl, run_takeDeferred hK', ?_⟩⟩
        refine ⟨_, results_tmp3 (fn := Tryz.f17) rfl _ _ _, ?_⟩
        exact ⟨fin_below hbe (by omega), rfl⟩
end Go.Proofs.YteigplfldhdakaaGreatDoor
/- TopClean, where awake is true, whatever the sizes are. -/
namespace Go.Proofs.YteigplfldhdakaaGreatDoor
open Go.RowKit Go.Shelf
attribute [local go_sem ↓] Go.wp_at_zero Go.wp_at_succ
theorem doc_at3 (w : World) (s : ByteArray) : TtS (w.alloc (.cells #[.string s] 9)) (.slice (some ⟨w.heap.size, 0, none⟩) 1 1) [s] ∧ TxS (w.alloc (.cells #[.string s] 9)) (.slice (some ⟨w.heap.size, 0, none⟩) 1 1) [s] := by
  have h1 : TtS (w.alloc (.cells #[.string s] 9)) (.slice (some ⟨w.heap.size, 0, none⟩) 1 1) [s] := SL.lit w 9 1 1 #[.string s] rfl (by simp [maxLen])
  refine ⟨h1, _, _, rfl, fun k hk => ?_⟩
  obtain rfl : k = 0 := by simpa using hk
  refine ⟨_, rfl, by simp, ?_⟩
  simp [Addr.add]
set_option maxRecDepth 100000 in
set_option maxHeartbeats 8000000 in
theorem clean_whole (hA : AwakeC) {w : World} {v : Value} {L : List (ByteArray × ByteArray)} (h : PrS w v L) (hs : bigP L) (hT : Tab w) (hl : L.length ≤ 140737488355328) (s : ByteArray) (hss : s.size ≤ 140737488355328) (x : Int) (hx : (Lit.int .u16 x).wf = true) :
    Calls Tryz.prog 6 #[v, .string s, .int .u16 x] w fun e w' => e = .returned (.bool true) ∧ Below w.heap.size w w' := by
  have hx1 : (decide (IntKind.u16.min ≤ x) && decide (x ≤ IntKind.u16.max)) = true := hx
  simp [IntKind.min, IntKind.max, IntKind.signed, IntKind.bits] at hx1
  have haw := hA w hT
  have hwx : IntKind.i64.wrap x = x := by rw [IntKind.wrap_i64]; omega
  have hgr : ∀ W, Below w.heap.size w W → Calls Tryz.prog 9 #[v, .slice none 0 0, .slice (some ⟨W.heap.size, 0, none⟩) 1 1] (W.alloc (.cells #[.string s] 9)) fun e w' => e = .returned (.bool (greatW L [s])) ∧ Below (W.alloc (.cells #[.string s] 9)).heap.size (W.alloc (.cells #[.string s] 9)) w' := fun W hb =>
    great_big (h.below (balloc hb _)) hs (doc_at3 W s).2 hl (by simp)
  have HAW := hid haw
  have HT := hid hT
  obtain ⟨G, hG⟩ : ∃ G, greatW L [s] = G := ⟨_, rfl⟩
  rw [hG] at hgr
  cases G with
  | true =>
    have HGR := hid hgr
    obtain ⟨a, c, rfl, -⟩ := h
    clear haw hgr hT hs hx
    go_enter Tryz.func6, Tryz.ntmps6
    go_wp2_with (first
      | (go_at_call 7; refine HAW.out.mono ?_; rintro e w1 ⟨rfl, hb1⟩; have HB1 := hid hb1; clear hb1)
      | (go_at_call 9; refine (HGR.out _ HB1.out).mono ?_; rintro e w3 ⟨rfl, hb3⟩; have HB3 := hid (bthen (balloc HB1.out _) hb3); clear hb3))
    go_ret
    exact ⟨rfl, HB3.out⟩
  | false =>
    have hS : lenS [s] = (s.size : Int) := by simp [lenS]
    obtain ⟨g1, g2⟩ := greatW_small hs (by rw [hS]; omega) (by rw [hS]; omega) hG
    rw [hS] at g2
    have g3 := lenP_nonneg L
    have hs1 : s.size ≤ 1000 := by omega
    have hss : s.size ≤ 1048576 := by omega
    have hs : smallP L := small_of (by omega)
    clear hS g1 g2 g3 hG
    have hdo : ∀ W, Below w.heap.size w W → Calls Tryz.prog 13 #[v, .slice (some ⟨W.heap.size, 0, none⟩) 1 1, .int .i64 1] (W.alloc (.cells #[.string s] 9)) (DocsP s (W.alloc (.cells #[.string s] 9))) := fun W hb =>
      docs_c (h.below (balloc hb _)) hs hs1 (doc_at3 W s).1 (hT.bel (balloc hb _))
    have HGR := hid hgr
    have HDO := hid hdo
    obtain ⟨a, c, rfl, -⟩ := h
    clear haw hgr hT hs hx hdo
    go_enter Tryz.func6, Tryz.ntmps6
    go_wp2_with (first
      | (go_at_call 7; refine HAW.out.mono ?_; rintro e w1 ⟨rfl, hb1⟩; have HB1 := hid hb1; clear hb1)
      | (go_at_call 9; refine (HGR.out _ HB1.out).mono ?_; rintro e w3 ⟨rfl, hb3⟩; have HB3 := hid (bthen (balloc HB1.out _) hb3); clear hb3)
      | (go_at_call 13; refine (HDO.out _ HB3.out).mono ?_; rintro e w4 ⟨hb4, ⟨q, hq, rfl⟩ | ⟨hv, A1, c1, R, A2, c2, M, rfl, hm, hR, hM⟩⟩))
    · go_ret
      exact ⟨rfl, balloc (bthen (balloc HB3.out _) hb4) _⟩
    · have HB4 := hid (bthen (balloc HB3.out (.cells #[.string s] 9)) hb4)
      obtain ⟨w5, hw5⟩ : ∃ w5, w4.alloc (.cells #[.slice A1 R.length c1, .slice A2 M.length c2] 46) = w5 := ⟨_, rfl⟩
      have hb5 : Below w4.heap.size w4 w5 := by rw [← hw5]; exact balloc (Below.refl _ w4) _
      have HB5 := hid (bthen HB4.out hb5)
      have HNC := hid (newC_c hm (RuS.below hR hb5) (WdS.below hM hb5) (HT.out.bel HB5.out))
      clear hm hR hM hb4 hb5
      try rw [hw5]
      have hy : 0 ≤ x % 4097 ∧ x % 4097 ≤ 4096 := by omega
      have hto : ∀ W, Below w.heap.size w W → Calls Tryz.prog 22 #[.string s] W fun e w' => Below W.heap.size W w' ∧ ∃ A c, e = .returned (.tuple #[.slice A (toksF s).length c, .int .i64 0]) ∧ TtS w' (.slice A (toksF s).length c) (toksF s) := fun W hb => tokensT_c s hss hv W (HT.out.bel hb)
      have htl := Nat.le_trans (toksF_len s) hss
      have hts : ∀ t ∈ toksF s, t.size ≤ 1048576 := fun t ht => by
        obtain ⟨z, hz, rfl⟩ := List.mem_map.1 ht
        obtain ⟨h1, h2, h3, h4⟩ := span_text hv (List.mem_filter.1 hz).1
        omega
      obtain ⟨T, hTT⟩ : ∃ T, toksF s = T := ⟨_, rfl⟩
      rw [hTT] at hto htl hts
      have HTO := hid hto
      have HTS := hid hts
      have HV := hid hv
      clear hTT hto hts hv
      go_wp2_with (first
        | (go_at_call 16; refine HNC.out.mono ?_; rintro e w6 ⟨hb6, p, rfl, hc6⟩; have HB6 := hid (bthen HB5.out hb6); have HC6 := hid hc6; clear hb6 hc6)
        | (go_at_call 17; refine (fix_c HC6.out HV.out hss (HT.out.bel HB6.out) _ hy).mono ?_; rintro e w7 ⟨hb7, rfl⟩; have HB7 := hid (bthen HB6.out hb7); have HC7 := hid (HC6.out.below hb7); clear hb7)
        | (go_at_call 22; refine (HTO.out _ HB7.out).mono ?_; rintro e w8 ⟨hb8, A8, c8, rfl, h8⟩; have HB8 := hid (bthen HB7.out hb8); have HC8 := hid (HC7.out.below hb8); have H8 := hid h8; clear hb8 h8))
      go_loopw [59] (fun iv wr => ∃ k : Nat, k ≤ T.length ∧ iv = .int .i64 (k : Int) ∧ Hid (Below w8.heap.size w8 wr)) (fun iv _ => T.length - (intOf iv).toNat)
      case atStart => exact ⟨0, Nat.zero_le _, rfl, hid (Below.refl _ _)⟩
      case round =>
        obtain ⟨k, hk, rfl, HB⟩ := hrel
        by_cases hkl : k < T.length
        · have hkl2 : (k : Int) < (T.length : Int) := by omega
          obtain ⟨g, off, rfl, hgl, k0⟩ := TtS.at1 (H8.out.below HB.out) hkl
          have hsz := HTS.out _ (List.getElem_mem hkl)
          obtain ⟨t, ht⟩ : ∃ t, T[k] = t := ⟨_, rfl⟩
          rw [ht] at k0 hsz
          have HRC := hid (rcnt_c t hsz)
          clear ht hsz
          by_cases hr : Lib.runeCount t ≤ 64
          · have hri : ¬ (64 : Int) < ((Lib.runeCount t : Nat) : Int) := by omega
            go_wp2_with (go_at_call 23; refine (HRC.out _).mono ?_; rintro e w9 ⟨rfl, hb9⟩; have HB9 := hid (bthen HB.out hb9); clear hb9)
            exact ⟨⟨k + 1, by omega, by simp, HB9⟩, by simp [intOf]; omega⟩
          · have hri : (64 : Int) < ((Lib.runeCount t : Nat) : Int) := by omega
            go_wp2_with (go_at_call 23; refine (HRC.out _).mono ?_; rintro e w9 ⟨rfl, hb9⟩; have HB9 := hid (bthen HB.out hb9); clear hb9)
            go_ret
            exact ⟨rfl, bthen HB8.out HB9.out⟩
        · obtain rfl : k = T.length := by omega
          have hkl2 : ¬ (T.length : Int) < (T.length : Int) := by omega
          have hbe := bthen HB8.out HB.out
          have HUN := hid (unknown_c (HC8.out.below HB.out) HV.out hss (HT.out.bel hbe))
          have HBE := hid hbe
          clear hbe
          go_wp2_with (go_at_call 24; refine HUN.out.mono ?_; rintro e w9 ⟨hb9, rfl⟩; have HB9 := hid (bthen HBE.out hb9); clear hb9)
          go_ret
          exact ⟨rfl, HB9.out⟩
end Go.Proofs.YteigplfldhdakaaGreatDoor
/- Any operation but a call of a function. -/
namespace Go.Proofs.YteigplfldhdakaaGreatDoor.Ev
open Go Go.RowKit
def partsA (ρ : Operand → Option AV) : List (Nat × Operand) → Option (List (Nat × AV))
  | [] => some []
  | (i, x) :: r => match ρ x, partsA ρ r with
    | some v, some vs => some ((i, v) :: vs)
    | _, _ => none
def capsA (ρ : Operand → Option AV) : List Operand → Option (List Nat)
  | [] => some []
  | x :: r => match ρ x, capsA ρ r with
    | some (.sc (.pt b 0)), some bs => some (b :: bs)
    | _, _ => none
def fvsA (ρ : Operand → Option AV) : List Operand → Option (List Value)
  | [] => some []
  | x :: r => match (ρ x).bind AV.fv, fvsA ρ r with
    | some v, some vs => some (v :: vs)
    | _, _ => none
def isAMap (P : Program) (t : Nat) : Bool := match P.underlying t with | some (.map _ _) => true | _ => false
def lenA (P : Program) (s : AS) (t : Nat) (a : AV) : Option AV :=
  match a with
  | .sc (.sl _ _ n _ _) => if isSl P t then some (.sc (.f (.int .i64 n))) else none
  | .sc (.se _ _) => if isSl P t then some (.sc (.f (.int .i64 0))) else none
  | .sc (.f (.str l)) => match P.underlying t with | some .string => some (.sc (.f (.int .i64 l.length))) | _ => none
  | .sc (.f .nils) => if isSl P t then some (.sc (.f (.int .i64 0))) else none
  | .sc (.mp b) => match fnd s.H b with
    | some (.map es) => if isAMap P t then some (.sc (.f (.int .i64 es.length))) else none
    | _ => none
  | _ => none
def bltA (P : Program) (ρ : Operand → Option AV) (s : AS) (b : Builtin) (ty : Nat) (args : List Operand) (ats : List Nat) : Option (AV × AS) :=
  match b, args, ats with
  | .append, [a, x], [t, tx] => match ρ a, ρ x with
    | some a, some x => appA P s t tx a x
    | _, _ => none
  | .len, [x], [t] => match ρ x with
    | some a => (lenA P s t a).map fun v => (v, s)
    | none => none
  | .min, xs, ts => match fvsA ρ xs with
    | some vs => ((flatS P (Builtin.min_ ts.toArray ty vs.toArray)).bind absV).map fun v => (v, s)
    | none => none
  | .max, xs, ts => match fvsA ρ xs with
    | some vs => ((flatS P (Builtin.max_ ts.toArray ty vs.toArray)).bind absV).map fun v => (v, s)
    | none => none
  | _, _, _ => none
def q1 (s : AS) (v : Option AV) : Option (List (AV × AS)) := v.map fun v => [(v, s)]
def w1 (r : Option (AV × AS)) : Option (List (AV × AS)) := r.map fun r => [r]
def u1 (r : Option AS) : Option (List (AV × AS)) := r.map fun s' => [(undA, s')]
def aop (P : Program) (ks : Nat → Bool × List FV → Bool) (o : Oper) (ρ : Operand → Option AV) (s : AS) : Option (List (AV × AS)) :=
  match o.op with
  | .move x => q1 s (ρ x)
  | .assign x => q1 s (ρ x)
  | .pick c a b => match ρ c with
    | some (.sc (.f (.bool true))) => q1 s (ρ a)
    | some (.sc (.f (.bool false))) => q1 s (ρ b)
    | _ => none
  | .alloc t => w1 ((zL P t).map fun L => (.sc (.pt s.nx 0), newA s t L))
  | .box t x => w1 (((ρ x).bind AV.cells).map fun L => (.sc (.pt s.nx 0), newA s t L))
  | .build t ps => q1 s ((partsA ρ ps.toList).bind (buildA P t))
  | .buildSlice t n ps => w1 ((partsA ρ ps.toList).bind (bsliceA P s t n))
  | .load t x => match ρ x with
    | some (.sc (.pt b o)) => match fnd s.H b with
      | some (.cells _ L) => q1 s (loadA P t L o)
      | _ => none
    | _ => none
  | .store t a x => match ρ a, ρ x with
    | some a, some v => u1 (storeA P s t a v)
    | _, _ => none
  | .nilCheck x => match ρ x with
    | some (.sc (.pt b o)) => q1 s (some (.sc (.pt b o)))
    | _ => none
  | .binOp op t x y _ => match ρ x, ρ y with
    | some a, some b => q1 s (binA P op t x y a b)
    | _, _ => none
  | .unOp op t x => match (ρ x).bind AV.fv with
    | some v => q1 s ((flatS P (Op.unary op v)).bind absV)
    | none => none
  | .convert a b x => match ρ x with
    | some v => q1 s (convA P s a b v)
    | none => none
  | .makeFunc (.func f) first caps => if first.isEmpty then (capsA ρ caps.toList).map fun cs => [(.sc (.cl f cs), s)] else none
  | .makeMap t none => some [(.sc (.mp s.nx), ⟨(s.nx, .map []) :: s.H, s.nx + 1⟩)]
  | .makeSlice t l c => match ρ l, ρ c with
    | some l, some c => w1 (mslA P s t l c)
    | _, _ => none
  | .slice t x lo hi mx => match ρ x, bnd ρ lo, bnd ρ hi, bnd ρ mx with
    | some (.sc v), some l, some h, some m => q1 s ((sliceR P t v l h m).map .sc)
    | _, _, _, _ => none
  | .fieldAddr t x f => match ρ x, fieldOff P t f with
    | some (.sc (.pt b o)), some k => q1 s (some (.sc (.pt b (o + k))))
    | _, _ => none
  | .indexAddr t x i => match ρ x, ρ i, elemP P t with
    | some (.sc (.sl b o n c z)), some (.sc (.f (.int k j))), some e => if sizeP P e = some z ∧ 0 ≤ j ∧ j < (n : Int) then q1 s (some (.sc (.pt b (o + j.toNat * z)))) else none
    | _, _, _ => none
  | .index t x i => match (ρ x).bind AV.fv, (ρ i).bind AV.fv with
    | some v, some j => q1 s ((flatS P (Instr.index t v j)).bind absV)
    | _, _ => none
  | .lookup t m k ok => match ρ m, ρ k with
    | some m, some k => q1 s (lookA P ks s t m k ok)
    | _, _ => none
  | .mapUpdate t m k v => match ρ m, ρ k, ρ v with
    | some m, some k, some v => u1 (updA P ks s t m k v)
    | _, _, _ => none
  | .range t x => match ρ x with
    | some x => w1 (rangeA P s t x)
    | none => none
  | .next it false => match ρ it with
    | some x => if keysFit s x then nextA s x else none
    | none => none
  | .entry it => match ρ it with
    | some x => q1 s (entryA s x)
    | none => none
  | .extract x i => match ρ x with
    | some (.tu ys) => q1 s ((ys[i]?).map AE.av)
    | _ => none
  | .call { callee := .builtin b, args, argTypes } => w1 (bltA P ρ s b o.type args.toList argTypes.toList)
  | _ => none
/-- an operation's run, as it comes out -/
def Ran (P : Program) (e : Sem Next) (γ : Pl) (s : AS) (w : World) (outs : List (AV × AS)) : Prop :=
  ∃ v s' u w', (v, s') ∈ outs ∧ (e.run P w = .ok (.value u) w' ∨ (e.run P w = .ok .skip w' ∧ u = undef)) ∧ Done γ s w v s' u w'
section
variable {P : Program} {γ : Pl} {s : AS} {w : World} {ρa : Operand → Option AV} {ρ : Operand → Value}
theorem q1_ok {v : Option AV} {outs : List (AV × AS)} {e : Sem Value} (h : HR γ s w) (hv : q1 s v = some outs) (he : ∀ a, v = some a → ∃ u, e.run P w = .ok u w ∧ RA γ a u) : Ran P (do pure (.value (← e))) γ s w outs := by
  obtain ⟨a, ha, rfl⟩ := Option.map_eq_some_iff.1 hv
  obtain ⟨u, h1, h2⟩ := he a ha
  exact ⟨a, s, u, w, List.mem_cons_self .., .inl (by simp only [Sem.run_bind, h1, Result.andThen_ok, Sem.run_pure]), Done.quiet h h2⟩
theorem w1_ok {r : Option (AV × AS)} {outs : List (AV × AS)} {e : Sem Value} (hv : w1 r = some outs) (he : ∀ a, r = some a → ∃ u w', e.run P w = .ok u w' ∧ Done γ s w a.1 a.2 u w') : Ran P (do pure (.value (← e))) γ s w outs := by
  obtain ⟨a, ha, rfl⟩ := Option.map_eq_some_iff.1 hv
  obtain ⟨u, w', h1, h2⟩ := he a ha
  exact ⟨a.1, a.2, u, w', List.mem_cons_self .., .inl (by simp only [Sem.run_bind, h1, Result.andThen_ok, Sem.run_pure]), h2⟩
theorem u1_ok {r : Option AS} {outs : List (AV × AS)} {e : Sem Unit} (hv : u1 r = some outs) (he : ∀ a, r = some a → ∃ w', e.run P w = .ok () w' ∧ HR γ a w' ∧ Fr γ s w γ a w') : Ran P (do e; pure .skip) γ s w outs := by
  obtain ⟨a, ha, rfl⟩ := Option.map_eq_some_iff.1 hv
  obtain ⟨w', h1, h2, h3⟩ := he a ha
  exact ⟨undA, a, undef, w', List.mem_cons_self .., .inr ⟨by simp only [Sem.run_bind, h1, Result.andThen_ok, Sem.run_pure], rfl⟩, ⟨γ, h2, h3, und_rel γ⟩⟩
theorem parts_ok (hr : Op2 γ ρa ρ) : ∀ {ps : List (Nat × Operand)} {qs : List (Nat × AV)}, partsA ρa ps = some qs → All2 (fun p q => p.1 = q.1 ∧ RA γ p.2 q.2) qs (ps.map fun (i, x) => (i, ρ x))
  | [], _, h => by cases h; trivial
  | (i, x) :: r, _, h => by
    unfold partsA at h
    split at h
    · rename_i v vs h1 h2
      cases h
      exact ⟨⟨rfl, hr _ _ h1⟩, parts_ok hr h2⟩
    · cases h
theorem caps_ok (hr : Op2 γ ρa ρ) : ∀ {ps : List Operand} {qs : List Nat}, capsA ρa ps = some qs → All2 (RP γ) qs (ps.map ρ)
  | [], _, h => by cases h; trivial
  | x :: r, _, h => by
    unfold capsA at h
    split at h
    · rename_i v vs h1 h2
      cases h
      obtain ⟨B, d, S, k1, k2⟩ := hr _ _ h1
      exact ⟨⟨B, d, S, k1, k2⟩, caps_ok hr h2⟩
    · cases h
theorem fvs_ok (hr : Op2 γ ρa ρ) : ∀ {ps : List Operand} {qs : List Value}, fvsA ρa ps = some qs → ps.map ρ = qs
  | [], _, h => by cases h; rfl
  | x :: r, _, h => by
    unfold fvsA at h
    split at h
    · rename_i v vs h1 h2
      cases h
      obtain ⟨a, ha, hav⟩ := Option.bind_eq_some_iff.1 h1
      rw [List.map_cons, fvs_ok hr h2, fv_eq hav (hr _ _ ha)]
    · cases h
theorem isSl_some {t : Nat} (h : isSl P t = true) : ∃ e, P.underlying t = some (.slice e) := by
  unfold isSl at h
  split at h
  · rename_i e he; exact ⟨e, he⟩
  · cases h
theorem lenA_ok {t ty : Nat} {a r : AV} {u : Value} (h : HR γ s w) (ha : RA γ a u) (hr : lenA P s t a = some r) : ∃ u', (Builtin.len_ #[t] ty #[u]).run P w = .ok u' w ∧ RA γ r u' := by
  unfold lenA at hr
  split at hr
  · split at hr
    · rename_i hs
      obtain ⟨e, hu⟩ := isSl_some hs
      cases hr
      obtain ⟨B, d, S, c', _, rfl, _⟩ := ha
      exact ⟨_, by simp [Builtin.len_, run_underlying hu]; rfl, rfl⟩
    · cases hr
  · split at hr
    · rename_i hs
      obtain ⟨e, hu⟩ := isSl_some hs
      cases hr
      obtain ⟨B, d, S, o', c', _, rfl, _⟩ := ha
      exact ⟨_, by simp [Builtin.len_, run_underlying hu]; rfl, rfl⟩
    · cases hr
  · rename_i l
    split at hr
    · rename_i hu
      cases hr
      have : u = .string ⟨⟨l⟩⟩ := ha
      subst this
      exact ⟨_, by simp [Builtin.len_, run_underlying hu]; rfl, rfl⟩
    · cases hr
  · split at hr
    · rename_i hs
      obtain ⟨e, hu⟩ := isSl_some hs
      cases hr
      have : u = .slice none 0 0 := ha
      subst this
      exact ⟨_, by simp [Builtin.len_, run_underlying hu]; rfl, rfl⟩
    · cases hr
  · rename_i b
    split at hr
    · rename_i es hf
      split at hr
      · rename_i hm
        have hu : ∃ k e, P.underlying t = some (.map k e) := by
          unfold isAMap at hm
          split at hm
          · rename_i k e he; exact ⟨k, e, he⟩
          · cases hm
        obtain ⟨k, e, hu⟩ := hu
        cases hr
        obtain ⟨B, d, S, hb, rfl⟩ := ha
        obtain ⟨B', d', S', cs, h1, h2, h3⟩ := h.obj _ _ (fnd_mem hf)
        rw [hb] at h1
        cases h1
        have hl : cs.size = es.length := by
          have := entsR_len h3
          have e : cs.toList.length = cs.size := Array.length_toList
          omega
        exact ⟨.int .i64 es.length, by simp [Builtin.len_, run_underlying hu, MapKept.run_getObj_map h2, hl, goInt], rfl⟩
      · cases hr
    · cases hr
  · cases hr
theorem blt_ok {b : Builtin} {ty : Nat} {args : List Operand} {ats : List Nat} {consts : Array Bool} {r : AV × AS} (h : HR γ s w) (hr : Op2 γ ρa ρ) (hb : bltA P ρa s b ty args ats = some r) :
    ∃ u w', (builtin b ats.toArray ty consts (args.map ρ).toArray).run P w = .ok (.value u) w' ∧ Done γ s w r.1 r.2 u w' := by
  unfold bltA at hb
  split at hb
  · split at hb
    · rename_i a x ha hx
      obtain ⟨u, w', k1, k2⟩ := app_ok (ty := ty) h (hr _ _ ha) (hr _ _ hx) hb
      refine ⟨u, w', ?_, k2⟩
      simp only [builtin, List.map_cons, List.map_nil, Sem.run_bind, k1, Result.andThen_ok, Sem.run_pure]
    · cases hb
  · split at hb
    · rename_i a ha
      obtain ⟨v, hv, rfl⟩ := Option.map_eq_some_iff.1 hb
      obtain ⟨u, k1, k2⟩ := lenA_ok (ty := ty) h (hr _ _ ha) hv
      refine ⟨u, w, ?_, Done.quiet h k2⟩
      simp only [builtin, List.map_cons, List.map_nil, Sem.run_bind, k1, Result.andThen_ok, Sem.run_pure]
    · cases hb
  · split at hb
    · rename_i vs hvs
      obtain ⟨v, hv, rfl⟩ := Option.map_eq_some_iff.1 hb
      obtain ⟨z, hz, hr2⟩ := Option.bind_eq_some_iff.1 hv
      have k1 := flatS_run hz w
      rw [← fvs_ok hr hvs] at k1
      refine ⟨z, w, ?_, Done.quiet h (absV_rel hr2)⟩
      simp only [builtin, Sem.run_bind, k1, Result.andThen_ok, Sem.run_pure]
    · cases hb
  · split at hb
    · rename_i vs hvs
      obtain ⟨v, hv, rfl⟩ := Option.map_eq_some_iff.1 hb
      obtain ⟨z, hz, hr2⟩ := Option.bind_eq_some_iff.1 hv
      have k1 := flatS_run hz w
      rw [← fvs_ok hr hvs] at k1
      refine ⟨z, w, ?_, Done.quiet h (absV_rel hr2)⟩
      simp only [builtin, Sem.run_bind, k1, Result.andThen_ok, Sem.run_pure]
    · cases hb
  · cases hb
end
end Go.Proofs.YteigplfldhdakaaGreatDoor.Ev
/- Any operation but a call of a function: it runs as it was reckoned. -/
namespace Go.Proofs.YteigplfldhdakaaGreatDoor.Ev
open Go Go.RowKit
section
variable {P : Program} {ks : Nat → Bool × List FV → Bool} {γ : Pl} {s : AS} {w : World} {ρa : Operand → Option AV} {ρ : Operand → Value}
theorem execOp_move {o : Oper} {x : Operand} (h : o.op = .move x ∨ o.op = .assign x) : execOp ρ o = (do pure (.value (← (pure (ρ x) : Sem Value))) : Sem Next) := by
  rcases h with h | h <;> (unfold execOp; rw [h]; rfl)
set_option maxHeartbeats 4000000 in
theorem aop_ok (hK : KeyLaw P ks) {o : Oper} {outs : List (AV × AS)} (h : HR γ s w) (hr : Op2 γ ρa ρ) (ha : aop P ks o ρa s = some outs) : Ran P (execOp ρ o) γ s w outs := by
  unfold aop at ha
  split at ha
  · rename_i x ho
    rw [execOp_move (.inl ho)]
    exact q1_ok h ha fun a e => ⟨_, rfl, hr _ _ e⟩
  · rename_i x ho
    rw [execOp_move (.inr ho)]
    exact q1_ok h ha fun a e => ⟨_, rfl, hr _ _ e⟩
  · rename_i c a b ho
    have hx : ∀ t : Bool, ρa c = some (.sc (.f (.bool t))) → execOp ρ o = (do pure (.value (← (pure (if t then ρ a else ρ b) : Sem Value))) : Sem Next) := fun t ht => by
      have : ρ c = .bool t := hr _ _ ht
      unfold execOp
      rw [ho]
      simp only [this, asBool]
      rfl
    split at ha
    · rename_i hc
      rw [hx _ hc]
      exact q1_ok h ha fun a e => ⟨_, rfl, hr _ _ e⟩
    · rename_i hc
      rw [hx _ hc]
      exact q1_ok h ha fun a e => ⟨_, rfl, hr _ _ e⟩
    · cases ha
  · rename_i t ho
    unfold execOp
    rw [ho]
    refine w1_ok ha fun a e => ?_
    obtain ⟨L, hL, rfl⟩ := Option.map_eq_some_iff.1 e
    exact alloc_ok h hL
  · rename_i t x ho
    unfold execOp
    rw [ho]
    refine w1_ok ha fun a e => ?_
    obtain ⟨L, hL, rfl⟩ := Option.map_eq_some_iff.1 e
    obtain ⟨v, hv, hl⟩ := Option.bind_eq_some_iff.1 hL
    exact box_ok h (hr _ _ hv) hl
  · rename_i t ps ho
    unfold execOp
    rw [ho]
    refine q1_ok h ha fun a e => ?_
    obtain ⟨qs, hq, hb⟩ := Option.bind_eq_some_iff.1 e
    exact build_ok (by simpa using parts_ok hr hq) hb
  · rename_i t n ps ho
    unfold execOp
    rw [ho]
    refine w1_ok ha fun a e => ?_
    obtain ⟨qs, hq, hb⟩ := Option.bind_eq_some_iff.1 e
    exact bslice_ok h (by simpa using parts_ok hr hq) hb
  · rename_i t x ho
    split at ha
    · rename_i b off hx
      split at ha
      · rename_i ty L hf
        unfold execOp
        rw [ho]
        obtain ⟨B, d, S, hb, hv⟩ := hr _ _ hx
        dsimp only
        rw [hv]
        exact q1_ok h ha fun a e => load_ok (h.obj _ _ (fnd_mem hf)) hb e
      · cases ha
    · cases ha
  · rename_i t a x ho
    split at ha
    · rename_i av xv h1 h2
      unfold execOp
      rw [ho]
      exact u1_ok ha fun s' e => store_ok h (hr _ _ h1) (hr _ _ h2) e
    · cases ha
  · rename_i x ho
    split at ha
    · rename_i b off hx
      have hv := hr _ _ hx
      obtain ⟨B, d, S, hb, hv'⟩ := hv
      have he : execOp ρ o = (do pure (.value (← (pure (ρ x) : Sem Value))) : Sem Next) := by
        unfold execOp
        rw [ho]
        simp only [hv']
        rfl
      rw [he]
      exact q1_ok h ha fun a e => ⟨_, rfl, by cases e; exact hr _ _ hx⟩
    · cases ha
  · rename_i op t x y yt ho
    split at ha
    · rename_i av bv h1 h2
      unfold execOp
      rw [ho]
      exact q1_ok h ha fun a e => binA_ok (hr _ _ h1) (hr _ _ h2) e
    · cases ha
  · rename_i op t x ho
    split at ha
    · rename_i v hv
      obtain ⟨av, h1, h2⟩ := Option.bind_eq_some_iff.1 hv
      have hx := fv_eq h2 (hr _ _ h1)
      unfold execOp
      rw [ho]
      dsimp only
      rw [hx]
      refine q1_ok h ha fun a e => ?_
      obtain ⟨z, hz, hr2⟩ := Option.bind_eq_some_iff.1 e
      exact ⟨z, flatS_run hz w, absV_rel hr2⟩
    · cases ha
  · rename_i a b x ho
    split at ha
    · rename_i v hv
      unfold execOp
      rw [ho]
      exact q1_ok h ha fun a e => convA_ok h (hr _ _ hv) e
    · cases ha
  · rename_i f first caps ho
    split at ha
    · rename_i hfi
      have hfe : first = #[] := by simpa using hfi
      subst hfe
      obtain ⟨cs, hcs, rfl⟩ := Option.map_eq_some_iff.1 ha
      refine ⟨_, s, .func (.func f) #[] (caps.map ρ), w, List.mem_cons_self .., .inl ?_, Done.quiet h ⟨caps.toList.map ρ, ?_, caps_ok hr hcs⟩⟩
      · unfold execOp
        rw [ho]
        simp [Instr.makeFunc]
      · congr 1
        apply Array.ext'
        simp
    · cases ha
  · rename_i t ho
    cases ha
    obtain ⟨u, w', h1, h2⟩ := makeMap_ok (P := P) (t := t) h
    refine ⟨_, _, u, w', List.mem_cons_self .., .inl ?_, h2⟩
    unfold execOp
    rw [ho]
    simp only [Option.map_none, Sem.run_bind, h1, Result.andThen_ok, Sem.run_pure]
  · rename_i t l c ho
    split at ha
    · rename_i lv cv h1 h2
      unfold execOp
      rw [ho]
      exact w1_ok ha fun r e => msl_ok h (hr _ _ h1) (hr _ _ h2) e
    · cases ha
  · rename_i t x lo hi mx ho
    split at ha
    · rename_i v l hh m h1 h2 h3 h4
      unfold execOp
      rw [ho]
      refine q1_ok h ha fun a e => ?_
      obtain ⟨y, hy, rfl⟩ := Option.map_eq_some_iff.1 e
      exact slice_ok (hr _ _ h1) (bnd_ok hr h2) (bnd_ok hr h3) (bnd_ok hr h4) hy
    · cases ha
  · rename_i t x f ho
    split at ha
    · rename_i b off k hx hk
      obtain ⟨B, d, S, hb, hv⟩ := hr _ _ hx
      unfold execOp
      rw [ho]
      dsimp only
      rw [hv]
      exact q1_ok h ha fun a e => ⟨_, fieldAt_ok hk, by cases e; exact ⟨B, d, S, hb, by rw [Nat.add_assoc]⟩⟩
    · cases ha
  · rename_i t x i ho
    split at ha
    · rename_i b off n c z k j e hx hi he
      split at ha
      · rename_i hc
        obtain ⟨B, d, S, c', hb, hv, hn, hcc⟩ := hr _ _ hx
        have hj : ρ i = .int k j := hr _ _ hi
        unfold execOp
        rw [ho]
        dsimp only
        rw [hv, hj]
        exact q1_ok h ha fun a e2 => ⟨_, indexAt_ok he hc.1 hc.2.1 hc.2.2, by cases e2; exact ⟨B, d, S, hb, by rw [Nat.add_assoc]⟩⟩
      · cases ha
    · cases ha
  · rename_i t x i ho
    split at ha
    · rename_i v j h1 h2
      obtain ⟨av, k1, k2⟩ := Option.bind_eq_some_iff.1 h1
      obtain ⟨jv, k3, k4⟩ := Option.bind_eq_some_iff.1 h2
      have hx := fv_eq k2 (hr _ _ k1)
      have hi := fv_eq k4 (hr _ _ k3)
      unfold execOp
      rw [ho]
      dsimp only
      rw [hx, hi]
      refine q1_ok h ha fun a e => ?_
      obtain ⟨z, hz, hr2⟩ := Option.bind_eq_some_iff.1 e
      exact ⟨z, flatS_run hz w, absV_rel hr2⟩
    · cases ha
  · rename_i t m k ok ho
    split at ha
    · rename_i mv kv h1 h2
      unfold execOp
      rw [ho]
      exact q1_ok h ha fun a e => lookA_ok hK h (hr _ _ h1) (hr _ _ h2) e
    · cases ha
  · rename_i t m k v ho
    split at ha
    · rename_i mv kv vv h1 h2 h3
      unfold execOp
      rw [ho]
      exact u1_ok ha fun s' e => updA_ok hK h (hr _ _ h1) (hr _ _ h2) (hr _ _ h3) e
    · cases ha
  · rename_i t x ho
    split at ha
    · rename_i xv hx
      unfold execOp
      rw [ho]
      exact w1_ok ha fun r e => range_ok h (hr _ _ hx) e
    · cases ha
  · rename_i it ho
    split at ha
    · rename_i xv hx
      split at ha
      · rename_i hkf
        obtain ⟨v, s', u', w', k1, k2, k3⟩ := next_ok (P := P) (ty := o.type) h (hr _ _ hx) hkf ha
        refine ⟨v, s', u', w', k1, .inl ?_, k3⟩
        unfold execOp
        rw [ho]
        simp only [Sem.run_bind, k2, Result.andThen_ok, Sem.run_pure]
      · cases ha
    · cases ha
  · rename_i it ho
    split at ha
    · rename_i xv hx
      unfold execOp
      rw [ho]
      exact q1_ok h ha fun a e => entry_ok h (hr _ _ hx) e
    · cases ha
  · rename_i x i ho
    split at ha
    · rename_i ys hx
      obtain ⟨us, hv, h2⟩ := hr _ _ hx
      unfold execOp
      rw [ho]
      dsimp only
      rw [hv]
      refine q1_ok h ha fun a e => ?_
      obtain ⟨y, hy, rfl⟩ := Option.map_eq_some_iff.1 e
      obtain ⟨u, k1, k2⟩ := All2.get i h2 hy
      exact ⟨u, by simp [Instr.extract, k1], AE.av_rel k2⟩
    · cases ha
  · rename_i b args ats ho
    obtain ⟨r, hr2, rfl⟩ := Option.map_eq_some_iff.1 ha
    obtain ⟨u, w', k1, k2⟩ := blt_ok (consts := args.map fun | .const _ => true | _ => false) h hr hr2
    refine ⟨r.1, r.2, u, w', List.mem_cons_self .., .inl ?_, k2⟩
    unfold execOp
    rw [ho]
    have e1 : (args.toList.map ρ).toArray = args.map ρ := by apply Array.ext'; simp
    have e2 : ats.toList.toArray = ats := by simp
    rw [e1, e2] at k1
    simp only [resolve, Sem.run_bind, Sem.run_pure, Result.andThen_ok, invoke]
    exact k1
  · cases ha
end
end Go.Proofs.YteigplfldhdakaaGreatDoor.Ev
/- A region's operations, calls among them, in the text's order. -/
namespace Go.Proofs.YteigplfldhdakaaGreatDoor.Ev
open Go Go.RowKit
inductive Cal where
  | fn (f : Nat) | yl (l : Nat)
abbrev CF := Cal → List AV → AS → Option (List (AV × AS))
/-- what stands for all that the run began with -/
structure Inv (w0 : World) (γ : Pl) (s : AS) (w : World) : Prop where
  hr : HR γ s w
  im : ∀ k, Im γ s k → w0.heap.size ≤ k
  bel : Below w0.heap.size w0 w
theorem Inv.step {w0 : World} {γ γ' : Pl} {s s' : AS} {w w' : World} (h : Inv w0 γ s w) (hr : HR γ' s' w') (hf : Fr γ s w γ' s' w') : Inv w0 γ' s' w' := by
  refine ⟨hr, fun k hk => ?_, ⟨hf.same.1.trans h.bel.os, hf.same.2.1.trans h.bel.tape, hf.same.2.2.trans h.bel.output, Nat.le_trans h.bel.size hf.size, fun k hk => ?_⟩⟩
  · rcases hf.im k hk with h1 | h1
    · exact h.im k h1
    · exact Nat.le_trans h.bel.size h1
  · exact (hf.keep k (Nat.lt_of_lt_of_le hk h.bel.size) fun hi => by have := h.im k hi; omega).trans (h.bel.block k hk)
def aeval (tm : List AV) : Operand → Option AV
  | .tmp t => tm[t]?
  | .const v => absV v
  | .func f => some (.sc (.f (.fn f)))
  | .global _ => none
abbrev TR (γ : Pl) (tm : List AV) (a : Act) : Prop := All2 (RA γ) tm a.tmps.toList
theorem aeval_ok {γ : Pl} {tm : List AV} {a : Act} (h : TR γ tm a) : Op2 γ (aeval tm) a.eval := fun x v hx => by
  cases x with
  | tmp t =>
    obtain ⟨u, h1, h2⟩ := All2.get t h hx
    have e : a.eval (.tmp t) = u := by
      show a.tmps.getD t undef = u
      rw [Array.getElem?_toList] at h1
      rw [Array.getD_eq_getD_getElem?, h1]
      rfl
    rw [e]
    exact h2
  | const v => exact absV_rel hx
  | func f => cases hx; exact rfl
  | global g => cases hx
def putA (dst : Option Nat) (v : AV) (tm : List AV) : List AV := match dst with | some d => tm.set d v | none => tm
theorem putA_ok {γ : Pl} {tm : List AV} {a : Act} {dst : Option Nat} {v : AV} {u : Value} (h : TR γ tm a) (hv : RA γ v u) : TR γ (putA dst v tm) (a.put dst u) := by
  cases dst with
  | none => exact h
  | some d =>
    show All2 (RA γ) (tm.set d v) (a.tmps.setIfInBounds d u).toList
    rw [Array.toList_setIfInBounds]
    exact All2.set d h hv
theorem put_defers (a : Act) (dst : Option Nat) (u : Value) : (a.put dst u).defers = a.defers := by cases dst <;> rfl
def wantA (ops : Array Oper) (o : Oper) (tm : List AV) : Option Bool :=
  match o.guard with
  | none => some true
  | some (j, want) => match (ops[j]?).bind (·.dst) with
    | some d => match tm[d]? with
      | some (.sc (.f (.bool b))) => some (b == want)
      | _ => none
    | none => none
theorem wantA_ok {γ : Pl} {tm : List AV} {a : Act} {ops : Array Oper} {o : Oper} {b : Bool} (h : TR γ tm a) (hw : wantA ops o tm = some b) : Region.wanted o (yielded ops a.tmps) = b := by
  unfold wantA at hw
  unfold Region.wanted
  split at hw
  · rename_i hg
    rw [hg]
    cases hw
    rfl
  · rename_i j want hg
    rw [hg]
    split at hw
    · rename_i d hd
      split at hw
      · rename_i v hv
        cases hw
        obtain ⟨u, h1, h2⟩ := All2.get d h hv
        have hu : u = .bool v := h2
        rw [Array.getElem?_toList] at h1
        simp only [yielded, hd, Option.bind_some, h1, hu]
        cases v <;> cases want <;> rfl
      · cases hw
    · cases hw
def argsA (tm : List AV) : List Operand → Option (List AV)
  | [] => some []
  | x :: r => match aeval tm x, argsA tm r with
    | some v, some vs => some (v :: vs)
    | _, _ => none
theorem argsA_ok {γ : Pl} {tm : List AV} {a : Act} (h : TR γ tm a) : ∀ {xs : List Operand} {vs : List AV}, argsA tm xs = some vs → All2 (RA γ) vs (xs.map a.eval)
  | [], _, e => by cases e; trivial
  | x :: r, _, e => by
    unfold argsA at e
    split at e
    · rename_i v vs h1 h2
      cases e
      exact ⟨aeval_ok h _ _ h1, argsA_ok h h2⟩
    · cases e
def capV (cs : List Nat) : List AV := cs.map fun b => .sc (.pt b 0)
theorem capV_ok {γ : Pl} : ∀ {cs : List Nat} {us : List Value}, All2 (RP γ) cs us → All2 (RA γ) (capV cs) us
  | [], [], _ => trivial
  | _ :: _, _ :: _, h => ⟨by obtain ⟨B, d, S, h1, h2⟩ := h.1; exact ⟨B, d, S, h1, h2⟩, capV_ok h.2⟩
  | [], _ :: _, h => h.elim
  | _ :: _, [], h => h.elim
def evO (P : Program) (ks : Nat → Bool × List FV → Bool) (cf : CF) (o : Oper) (tm : List AV) (s : AS) : Option (List (AV × AS)) :=
  match o.op with
  | .call { callee := .value f, args, argTypes } => match aeval tm f, argsA tm args.toList with
    | some (.sc (.f (.fn g))), some xs => cf (.fn g) xs s
    | some (.sc (.cl g cs)), some xs => cf (.fn g) (xs ++ capV cs) s
    | some (.sc (.yl l)), some xs => cf (.yl l) xs s
    | _, _ => none
  | _ => aop P ks o (aeval tm) s
/-- what a call of a function, of a round, is reckoned to do -/
structure SoundC (P : Program) (w0 : World) (cf : CF) : Prop where
  fn : ∀ f args s outs γ w us, Inv w0 γ s w → All2 (RA γ) args us → cf (.fn f) args s = some outs →
    (callFunc f us.toArray).run P w = .ok (.enter f us.toArray) w ∧ Calls P f us.toArray w fun e w' => ∃ v s' u, (v, s') ∈ outs ∧ e = .returned u ∧ Done γ s w v s' u w'
  yl : ∀ l args s outs γ w us, Inv w0 γ s w → All2 (RA γ) args us → cf (.yl l) args s = some outs → ∀ B d S, γ l = some (B, d, S) →
    ∃ fn tmps assign body, (Instr.yield B us.toArray).run P w = .ok (.round B fn tmps assign body) w ∧ ∀ cfr cs, ∃ v s' u w', (v, s') ∈ outs ∧ Done γ s w v s' u w' ∧
      Steps P (lone (Frame.round B fn tmps assign body .normal) (cfr :: cs) w) (lone (cfr.finish u) cs w')
section
variable {P : Program} {ks : Nat → Bool × List FV → Bool} {w0 : World} {cf : CF} {γ : Pl} {s : AS} {w : World}
/-- one operation, where it stands in its region -/
theorem evO_ok (hK : KeyLaw P ks) (hC : SoundC P w0 cf) {b : Frame} {a : Act} {k : List Item} {cs : List Frame} {ops : Array Oper} {i : Nat} {rest : List Nat} {o : Oper} {tm : List AV} {outs : List (AV × AS)}
    (h : Inv w0 γ s w) (ht : TR γ tm a) (ho : ops[i]? = some o) (hw : Region.wanted o (yielded ops a.tmps) = true) (he : evO P ks cf o tm s = some outs) :
    ∃ v s' u w', (v, s') ∈ outs ∧ Done γ s w v s' u w' ∧ Steps P (lone (b.atR a (.inRegion ops (i :: rest) :: k)) cs w) (lone (b.atR (a.put o.dst u) (.inRegion ops rest :: k)) cs w') := by
  have hfin : ∀ v, (b.atR a (.inRegion ops (i :: rest) :: k)).finish v = b.atR (a.put o.dst v) (.inRegion ops rest :: k) := by
    intro v; rw [Frame.finish_atR, ho]; rfl
  have hg := stepGR_op (P := P) (b := b) (k := k) (cs := cs) (w := w) (rest := rest) ho hw
  have henter : ∀ {f args}, (execOp a.eval o).run P w = .ok (.enter f args) w → (∀ c, o.op ≠ .defer c) →
      step P (lone (b.atR a (.inRegion ops (i :: rest) :: k)) cs w) = .next (lone (Frame.enter P f args .normal) (b.atR a (.inRegion ops (i :: rest) :: k) :: cs) w) := fun hr hd =>
    step_lone_go (by rw [hg, Oper.semAt_eq _ _ _ hd]; simp [stepG.apply, hr, Frame.atR])
  have hcall : ∀ {f : Nat} {args : Array Value} {vs : List (AV × AS)}, (execOp a.eval o).run P w = .ok (.enter f args) w → (∀ c, o.op ≠ .defer c) → Calls P f args w (fun e w' => ∃ v s' u, (v, s') ∈ vs ∧ e = .returned u ∧ Done γ s w v s' u w') →
      ∃ v s' u w', (v, s') ∈ vs ∧ Done γ s w v s' u w' ∧ Steps P (lone (b.atR a (.inRegion ops (i :: rest) :: k)) cs w) (lone (b.atR (a.put o.dst u) (.inRegion ops rest :: k)) cs w') := fun hr hd hc => by
    obtain ⟨e, w', fr, ⟨v, s', u, h1, rfl, h2⟩, hcomes, hfn, hleave⟩ := hc (b.atR a (.inRegion ops (i :: rest) :: k) :: cs)
    refine ⟨v, s', u, w', h1, h2, .head (henter hr hd) (Steps.trans hcomes (.one ?_))⟩
    rw [← hfin]
    exact step_leave_returned hleave
  unfold evO at he
  split at he
  · rename_i f args ats hop
    have hd : ∀ c, o.op ≠ .defer c := fun c e => by rw [hop] at e; cases e
    have hrun : ∀ {fn first captured}, a.eval f = .func fn first captured → (execOp a.eval o).run P w = (invoke (.fn fn captured) (first ++ args.map a.eval)).run P w := fun hf => by
      unfold execOp
      rw [hop]
      simp only [resolve, hf, Deferred.ofValue, Sem.run_bind, Sem.run_pure, Result.andThen_ok]
    split at he
    · rename_i g xs h1 h2
      have hf : a.eval f = .func (.func g) #[] #[] := aeval_ok ht _ _ h1
      have hargs := argsA_ok ht h2
      obtain ⟨k1, k2⟩ := hC.fn g xs s outs γ w _ h hargs he
      refine hcall ?_ hd k2
      rw [hrun hf]
      have e1 : (#[] : Array Value) ++ args.map a.eval ++ #[] = (args.toList.map a.eval).toArray := by apply Array.ext'; simp
      show (callFunc g ((#[] : Array Value) ++ args.map a.eval ++ #[])).run P w = _
      rw [e1]
      exact k1
    · rename_i g cps xs h1 h2
      obtain ⟨us, hf, hus⟩ := aeval_ok ht _ _ h1
      have hargs := All2.app (argsA_ok ht h2) (capV_ok hus)
      obtain ⟨k1, k2⟩ := hC.fn g _ s outs γ w _ h hargs he
      refine hcall ?_ hd k2
      rw [hrun hf]
      have e1 : (#[] : Array Value) ++ args.map a.eval ++ us.toArray = (args.toList.map a.eval ++ us).toArray := by apply Array.ext'; simp
      show (callFunc g ((#[] : Array Value) ++ args.map a.eval ++ us.toArray)).run P w = _
      rw [e1]
      exact k1
    · rename_i l xs h1 h2
      obtain ⟨B, d, S, hb, hf⟩ := aeval_ok ht _ _ h1
      have hargs := argsA_ok ht h2
      obtain ⟨fn, tmps, assign, body, k1, k2⟩ := hC.yl l xs s outs γ w _ h hargs he B d S hb
      obtain ⟨v, s', u, w', q1, q2, q3⟩ := k2 (b.atR a (.inRegion ops (i :: rest) :: k)) cs
      refine ⟨v, s', u, w', q1, q2, ?_⟩
      rw [← hfin]
      refine .head ?_ q3
      refine step_lone_go ?_
      have e1 : (#[] : Array Value) ++ args.map a.eval = (args.toList.map a.eval).toArray := by apply Array.ext'; simp
      have hrn : (execOp a.eval o).run P w = .ok (.round B fn tmps assign body) w := by
        rw [hrun hf]
        show (Instr.yield B ((#[] : Array Value) ++ args.map a.eval)).run P w = _
        rw [e1]
        exact k1
      rw [hg, Oper.semAt_eq _ _ _ hd]
      simp [stepG.apply, hrn, Frame.atR]
    · cases he
  · rename_i hnot
    have hd : ∀ c, o.op ≠ .defer c := fun c e => by
      unfold aop at he
      rw [e] at he
      cases he
    obtain ⟨v, s', u, w', q1, q2, q3⟩ := aop_ok hK h.hr (aeval_ok ht) he
    refine ⟨v, s', u, w', q1, q3, .one (step_lone_go ?_)⟩
    rw [hg, Oper.semAt_eq _ _ _ hd, ← hfin]
    rcases q2 with q2 | ⟨q2, rfl⟩
    · simp [stepG.apply, q2]
    · simp [stepG.apply, q2]
def bindL {α β : Type} : List α → (α → Option (List β)) → Option (List β)
  | [], _ => some []
  | x :: r, f => match f x, bindL r f with
    | some ys, some zs => some (ys ++ zs)
    | _, _ => none
theorem bindL_mem {α β : Type} {f : α → Option (List β)} : ∀ {l : List α} {zs : List β} {x : α}, bindL l f = some zs → x ∈ l → ∃ ys, f x = some ys ∧ ∀ y ∈ ys, y ∈ zs
  | a :: r, zs, x, h, hx => by
    unfold bindL at h
    split at h
    · rename_i ys qs h1 h2
      cases h
      rcases List.mem_cons.1 hx with rfl | hx
      · exact ⟨ys, h1, fun y hy => List.mem_append_left _ hy⟩
      · obtain ⟨ys', k1, k2⟩ := bindL_mem h2 hx
        exact ⟨ys', k1, fun y hy => List.mem_append_right _ (k2 y hy)⟩
    · cases h
/-- a region's operations in the text's order -/
def evOps (P : Program) (ks : Nat → Bool × List FV → Bool) (cf : CF) (ops : Array Oper) : List Nat → List AV → AS → Option (List (List AV × AS))
  | [], tm, s => some [(tm, s)]
  | i :: rest, tm, s => match ops[i]? with
    | none => none
    | some o => match wantA ops o tm with
      | some true => match evO P ks cf o tm s with
        | some outs => bindL outs fun r => evOps P ks cf ops rest (putA o.dst r.1 tm) r.2
        | none => none
      | some false => evOps P ks cf ops rest (putA o.dst undA tm) s
      | none => none
theorem evOps_ok (hK : KeyLaw P ks) (hC : SoundC P w0 cf) {b : Frame} {k : List Item} {cs : List Frame} {ops : Array Oper} : ∀ (l : List Nat) {γ : Pl} {s : AS} {w : World} {a : Act} {tm : List AV} {outs : List (List AV × AS)},
    Inv w0 γ s w → TR γ tm a → evOps P ks cf ops l tm s = some outs →
    ∃ tm' s' γ' w' a', (tm', s') ∈ outs ∧ HR γ' s' w' ∧ Fr γ s w γ' s' w' ∧ TR γ' tm' a' ∧ a'.defers = a.defers ∧ Steps P (lone (b.atR a (.inRegion ops l :: k)) cs w) (lone (b.atR a' k) cs w')
  | [], γ, s, w, a, tm, outs, h, ht, he => by
    cases he
    exact ⟨tm, s, γ, w, a, List.mem_cons_self .., h.hr, Fr.refl _ _ _, ht, rfl, .one stepR_region_end⟩
  | i :: rest, γ, s, w, a, tm, outs, h, ht, he => by
    unfold evOps at he
    split at he
    · cases he
    · rename_i o ho
      split at he
      · rename_i hw
        split at he
        · rename_i outs1 he1
          obtain ⟨v, s1, u, w1, q1, ⟨γ1, k1, k2, k3⟩, q3⟩ := evO_ok hK hC (b := b) (k := k) (cs := cs) (rest := rest) h ht ho (wantA_ok ht hw) he1
          obtain ⟨ys, e1, e2⟩ := bindL_mem he q1
          have hi := h.step k1 k2
          obtain ⟨tm', s', γ', w', a', r1, r2, r3, r4, r5, r6⟩ := evOps_ok hK hC (b := b) (k := k) (cs := cs) rest hi (putA_ok (All2.mono (fun _ _ x => RA.mono k2.sub x) ht) k3) e1
          exact ⟨tm', s', γ', w', a', e2 _ r1, r2, k2.trans r3, r4, r5.trans (put_defers _ _ _), q3.trans r6⟩
        · cases he
      · rename_i hw
        have hwc := wantA_ok ht hw
        have hs := stepR_op_skip (P := P) (b := b) (a := a) (k := k) (cs := cs) (w := w) (ops := ops) (i := i) (rest := rest) (by simp [ho, hwc])
        simp only [ho, Option.bind_some] at hs
        obtain ⟨tm', s', γ', w', a', r1, r2, r3, r4, r5, r6⟩ := evOps_ok hK hC (b := b) (k := k) (cs := cs) rest h (putA_ok ht (und_rel γ)) he
        exact ⟨tm', s', γ', w', a', r1, r2, r3, r4, r5.trans (put_defers _ _ _), .head hs r6⟩
      · cases he
end
end Go.Proofs.YteigplfldhdakaaGreatDoor.Ev
