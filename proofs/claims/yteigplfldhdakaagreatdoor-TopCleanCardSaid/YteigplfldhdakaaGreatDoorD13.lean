/- What the rows of erratatop share: the bound, part by part; pairs handed in; the two tables. -/
import Derived.Test.YteigplfldhdakaaGreatDoorCards
import Derived.Test.YteigplfldhdakaaGreatDoorTie
import Derived.WalkKit
import Derived.ProofKit
import Derived.OpenShut
import Derived.Below
import Derived.Carry
import Derived.Lib.SmallJoins
import Derived.Lib.LaidIn
import Derived.Lib.LaidU8T
import Derived.Deep.DeepHandedRow
import Derived.Deep.DeepWitnessRowRef
import Derived.SizedLaws
import Derived.Test.YteigplfldhdakaaGreatDoorD12
import Derived.Laws.RangeString
import Derived.Lib.OthersKept
import Derived.Lib.MapLaws
import Derived.Lib.ValidLaws
import Derived.Lib.RuneBytes
set_option linter.unusedVariables false
set_option linter.unusedSimpArgs false
namespace Go.Proofs.YteigplfldhdakaaGreatDoor
open Go.ChangeShapes Go.WideShapes Go.ChangeAt Go.RowKit Go.Joins
theorem ownT : ownKnob Tryz.prog.godebug = none := by kernel_rfl
theorem laidOutT : laidOutB Tryz.prog = true := by kernel_rfl
theorem firstSame : (Rows.laid_unicode_utf8_first : DataW Unit) = Lib.firstData := by kernel_rfl
theorem acceptSame : (Rows.laid_unicode_utf8_acceptRanges : DataW Unit) = Lib.acceptData := by kernel_rfl
abbrev laidL : List (String × DataW Unit) := [("unicode/utf8.acceptRanges", Rows.laid_unicode_utf8_acceptRanges), ("unicode/utf8.first", Rows.laid_unicode_utf8_first)]
theorem laidSame : laidL = [("unicode/utf8.acceptRanges", Lib.acceptData), ("unicode/utf8.first", Lib.firstData)] := by
  unfold laidL
  rw [firstSame, acceptSame]
/-- WHAT THE ROW's LIST GIVES: the two tables. -/
theorem tab_of {W : World} (h : laidMetH Tryz.prog laidL W) : Tab W := by
  rw [MakeChecks.laidMetH_plain _ _ _ (by kernel_rfl)] at h
  rw [laidSame] at h
  exact utf8Tabs_of_readsT (U8Types.of196 Tryz.lays196) ⟨by kernel_rfl, by kernel_rfl, by kernel_rfl, by kernel_rfl, by kernel_rfl, by kernel_rfl, by kernel_rfl⟩ (Lib.laidMet.reads h (.tail _ (.head _))) (Lib.laidMet.reads h (.head _))
/-- A WORLD FOR THE WITNESS: the settled one, the two tables holding what their initialisers lay. -/
noncomputable def laidWorld (os : Os) : World :=
  let w0 := World.holding Tryz.prog os ⟨#[], #[], []⟩
  let put (h : Array Obj) (g : Nat) (cs : Array Value) : Array Obj := h.modify g fun
    | .cells _ t frozen => .cells cs t frozen
    | o => o
  let h1 := put w0.heap 0 (Lib.firstTab.map fun z => Value.int .u8 z).toArray
  let h2 := put h1 1 ((List.range 16).flatMap fun i => [Value.int .u8 (Lib.accLo i), Value.int .u8 (Lib.accHi i)]).toArray
  { w0 with heap := h2 }
theorem laid_met (os : Os) (args : Array Value) : laidMet Tryz.prog laidL ((laidWorld os).forCall (fun _ _ => 0) ⟨#[], args, []⟩).memory := by
  rw [laidSame]
  exact (LaidIn.of_run (l := [("unicode/utf8.acceptRanges", Lib.acceptData), ("unicode/utf8.first", Lib.firstData)]) [0, 1] 8 (by kernel_rfl) (by kernel_rfl) (by kernel_rfl) (by kernel_rfl)).met
end Go.Proofs.YteigplfldhdakaaGreatDoor
/- erratatop: great, whatever the sizes are. -/
namespace Go.Proofs.YteigplfldhdakaaGreatDoor
open Go.RowKit Go.Shelf
attribute [local go_sem ↓] Go.wp_at_zero Go.wp_at_succ
/-- texts that may be handed in -/
def bigP (L : List (ByteArray × ByteArray)) : Prop := ∀ x ∈ L, x.1.size ≤ 140737488355328 ∧ x.2.size ≤ 140737488355328
theorem wrap_add (a b : Int) : wrap64 (wrap64 a + b) = wrap64 (a + b) := by unfold wrap64; omega
theorem wrap_small {a : Int} (h0 : 0 ≤ a) (h1 : a ≤ 9223372036854775807) : wrap64 a = a := by unfold wrap64; omega
theorem wrap_zero (L : List (ByteArray × ByteArray)) : (0 : Int) = wrap64 (lenP (L.take 0)) := by rw [List.take_zero, lenP, wrap_small (Int.le_refl 0) (by omega)]
def greatW (L : List (ByteArray × ByteArray)) (l2 : List ByteArray) : Bool := decide (1000 < wrap64 (lenP L + lenS l2)) || decide (30 < L.length)
theorem lenP_nonneg : ∀ L : List (ByteArray × ByteArray), 0 ≤ lenP L
  | [] => by simp [lenP]
  | x :: r => by have := lenP_nonneg r; unfold lenP; omega
theorem lenP_le : ∀ {L : List (ByteArray × ByteArray)}, bigP L → lenP L ≤ (L.length : Int) * 281474976710656
  | [], _ => by simp [lenP]
  | x :: r, h => by
    have h1 := lenP_le (L := r) (fun y hy => h y (List.mem_cons_of_mem _ hy))
    have h2 := h x (List.mem_cons_self ..)
    unfold lenP
    rw [List.length_cons]
    omega
theorem lenP_mem : ∀ {L : List (ByteArray × ByteArray)} {x : ByteArray × ByteArray}, x ∈ L → (x.1.size : Int) + (x.2.size : Int) ≤ lenP L
  | y :: r, x, h => by
    unfold lenP
    have h2 := lenP_nonneg r
    rcases List.mem_cons.1 h with rfl | h
    · omega
    · have := lenP_mem h; omega
/-- **not great: small** -/
theorem greatW_small {L : List (ByteArray × ByteArray)} {l2 : List ByteArray} (h : bigP L) (hS0 : 0 ≤ lenS l2) (hS : lenS l2 ≤ 140737488355328) (hg : greatW L l2 = false) : L.length ≤ 30 ∧ lenP L + lenS l2 ≤ 1000 := by
  unfold greatW at hg
  simp only [Bool.or_eq_false_iff, decide_eq_false_iff_not] at hg
  obtain ⟨h1, h2⟩ := hg
  have h3 := lenP_le h
  have h4 := lenP_nonneg L
  rw [wrap_small (by omega) (by omega)] at h1
  omega
theorem small_of {L : List (ByteArray × ByteArray)} (h : lenP L ≤ 1000) : smallP L := fun x hx => by
  have := lenP_mem hx
  omega
set_option maxRecDepth 100000 in
set_option maxHeartbeats 4000000 in
theorem great_big {w : World} {v v2 : Value} {L : List (ByteArray × ByteArray)} {l2 : List ByteArray} (h : PrS w v L) (hs : bigP L) (h2 : TxS w v2 l2) (hl : L.length ≤ 140737488355328) (hl2 : l2.length ≤ 1000000000) :
    Calls Tryz.prog 9 #[v, .slice none 0 0, v2] w fun e w' => e = .returned (.bool (greatW L l2)) ∧ Below w.heap.size w w' := by
  have HS := hid h
  have HS2 := hid h2
  have HSM := hid hs
  obtain ⟨a, c, rfl, -⟩ := h
  obtain ⟨a2, c2, rfl, -⟩ := h2
  clear hs
  go_enter Tryz.func9, Tryz.ntmps9
  go_wp2
  go_loopw [7, 16] (fun nv iv wr => ∃ (k : Nat) (n : Int), k ≤ L.length ∧ iv = .int .i64 (k : Int) ∧ nv = .int .i64 n ∧ Hid (n = wrap64 (lenP (L.take k))) ∧ Hid (Below w.heap.size w wr)) (fun nv iv _ => L.length - (intOf iv).toNat)
  case atStart => exact ⟨0, 0, Nat.zero_le _, rfl, rfl, hid (wrap_zero L), hid (Below.refl _ _)⟩
  case round =>
    obtain ⟨k, n, hk, rfl, rfl, HN, HB⟩ := hrel
    by_cases hkl : k < L.length
    · have hkl2 : (k : Int) < (L.length : Int) := by omega
      obtain ⟨a', c', hv, hp2⟩ := HS.out.below HB.out
      cases hv
      obtain ⟨x, rfl, hxl, q0, q1⟩ := hp2 k hkl
      have hsm := HSM.out _ (List.getElem_mem hkl)
      have htk := lenP_take hkl
      obtain ⟨y, hy⟩ : ∃ y, L[k] = y := ⟨_, rfl⟩
      obtain ⟨f, t⟩ := y
      rw [hy] at q0 q1 hsm htk
      dsimp only at q0 q1 hsm htk
      obtain ⟨ad, had⟩ : ∃ ad, x.add (k * 2) = ad := ⟨_, rfl⟩
      rw [had] at q0 q1
      have HTK : Hid (wrap64 (n + ((f.size : Int) + (t.size : Int))) = wrap64 (lenP (L.take (k + 1)))) := hid (by rw [htk, HN.out, wrap_add])
      have hw1 : IntKind.i64.wrap ((f.size : Int) + (t.size : Int)) = (f.size : Int) + (t.size : Int) := by rw [IntKind.wrap_i64]; omega
      clear hp2 hy htk
      go_wp2
      refine ⟨⟨k + 1, wrap64 (n + ((f.size : Int) + (t.size : Int))), by omega, by simp, ?_, HTK, hid (balloc HB.out _)⟩, by simp [intOf]; omega⟩
      first | rfl | simp
    · obtain rfl : k = L.length := by omega
      have hkl2 : ¬ (L.length : Int) < (L.length : Int) := by omega
      rw [List.take_length] at HN
      go_wp2
      go_loopw [7, 32] (fun nv iv wq => nv = .int .i64 n ∧ iv = .int .i64 0 ∧ Hid (Below w.heap.size w wq)) (fun _ _ _ => 0)
      case atStart => exact ⟨rfl, rfl, HB⟩
      case round =>
        obtain ⟨rfl, rfl, HB2⟩ := hrel
        clear HB
        go_wp2
        go_loopw [7, 44] (fun nv iv wq => ∃ (k : Nat) (m : Int), k ≤ l2.length ∧ iv = .int .i64 (k : Int) ∧ nv = .int .i64 m ∧ Hid (m = wrap64 (lenP L + lenS (l2.take k))) ∧ Hid (Below w.heap.size w wq)) (fun nv iv _ => l2.length - (intOf iv).toNat)
        case atStart => exact ⟨0, n, Nat.zero_le _, rfl, rfl, hid (by rw [HN.out]; simp [lenS]), HB2⟩
        case round =>
          obtain ⟨j, m, hj, rfl, rfl, HM, HB3⟩ := hrel
          clear HB2
          by_cases hjl : j < l2.length
          · have hjl2 : (j : Int) < (l2.length : Int) := by omega
            obtain ⟨a', c', hv, hp2⟩ := HS2.out.below HB3.out
            cases hv
            obtain ⟨x, rfl, hxl, q0⟩ := hp2 j hjl
            have htk := lenS_take hjl
            obtain ⟨y, hy⟩ : ∃ y, l2[j] = y := ⟨_, rfl⟩
            rw [hy] at q0 htk
            obtain ⟨ad, had⟩ : ∃ ad, x.add j = ad := ⟨_, rfl⟩
            rw [had] at q0
            have HTK : Hid (wrap64 (m + (y.size : Int)) = wrap64 (lenP L + lenS (l2.take (j + 1)))) := hid (by rw [htk, HM.out, wrap_add, Int.add_assoc])
            clear hp2 hy htk
            go_wp2
            refine ⟨⟨j + 1, wrap64 (m + (y.size : Int)), by omega, by simp, ?_, HTK, HB3⟩, by simp [intOf]; omega⟩
            first | rfl | simp
          · obtain rfl : j = l2.length := by omega
            have hjl2 : ¬ (l2.length : Int) < (l2.length : Int) := by omega
            have hE : greatW L l2 = (decide (1000 < m) || decide (30 < L.length)) := by
              have := HM.out
              rw [List.take_length] at this
              rw [greatW, ← this]
            have HE := hid hE
            clear hE
            by_cases h1 : 1000 < m
            · have HE2 : Hid (greatW L l2 = true) := hid (by rw [HE.out]; simp [h1])
              go_wp2
              go_ret
              exact ⟨by rw [HE2.out]; rfl, HB3.out⟩
            · by_cases h3 : 30 < L.length
              · have h3i : (30 : Int) < (L.length : Int) := by omega
                have HE2 : Hid (greatW L l2 = true) := hid (by rw [HE.out]; simp [h3])
                go_wp2
                go_ret
                exact ⟨by rw [HE2.out]; rfl, HB3.out⟩
              · have h3i : ¬ (30 : Int) < (L.length : Int) := by omega
                have HE2 : Hid (greatW L l2 = false) := hid (by rw [HE.out]; simp [h1, h3])
                go_wp2
                go_ret
                exact ⟨by rw [HE2.out]; rfl, HB3.out⟩
end Go.Proofs.YteigplfldhdakaaGreatDoor
/- Pairs that are handed in, whatever their sizes are: what the reach says of them. -/
namespace Go.Proofs.YteigplfldhdakaaGreatDoor
open Go.ChangeShapes Go.WideShapes Go.ChangeAt Go.RowKit Go.Joins
theorem weightsAll_mem {H : Type} {P : Program} {e : TypeId} : ∀ {l : List (DataW H)} {d : DataW H}, d ∈ l → ∀ n ∈ d.weights P e, n ∈ DataW.weightsAll P e l
  | x :: r, d, h, n, hn => by
    simp only [DataW.weightsAll, List.mem_append]
    rcases List.mem_cons.1 h with rfl | h
    · exact .inl hn
    · exact .inr (weightsAll_mem h n hn)
theorem bytes69 : Tryz.prog.bytesOf 69 = 32 := by kernel_rfl
/-- **pairs, handed in** -/
theorem pairs_open_big {H : Type} {enc : TypeId × Value → H} {W : World} {sp : Nat → Bool} {held : Bool} {fuel : Nat} {a : Option Addr} {len cap : Nat} {d : DataW H} {ps : List MemPlace}
    (h : DataW.trod enc Tryz.prog W 0 sp held fuel 22 (Value.slice a len cap).cells.toList = some (d, ps)) (hb : ∀ n ∈ d.weights Tryz.prog 22, n ≤ 140737488355328) : ∃ L, PrS W (.slice a len cap) L ∧ bigP L ∧ L.length ≤ 140737488355328 := by
  rcases open_slice_fields Tryz.underlying22 Tryz.underlying69 (by kernel_rfl) (by kernel_rfl) h with ⟨hcs, _⟩ | ⟨x, l, c, m, D, Pl, hcs, _, hl, hm, hmm, hx, hi⟩
  · simp [Value.cells] at hcs
    obtain ⟨rfl, rfl, rfl⟩ := hcs
    exact ⟨[], ⟨none, 0, rfl, fun k hk => absurd hk (Nat.not_lt_zero k)⟩, fun x hx => by (cases hx), Nat.zero_le _⟩
  · simp [Value.cells] at hcs
    obtain ⟨rfl, rfl, rfl⟩ := hcs
    simp only [Prod.mk.injEq] at hx
    obtain ⟨rfl, _⟩ := hx
    have hlm : len ≤ m := by rw [hmm]; split <;> omega
    simp only [DataW.weights, Tryz.underlying22, List.mem_cons, List.mem_append, bytes69] at hb
    have hlen : len ≤ 140737488355328 := by
      have := hb _ (.inl rfl)
      rw [List.length_map, List.length_range] at this
      omega
    have key : ∀ i, ∃ t : ByteArray × ByteArray, i < len → PairAt W (x.add (i * 2)) t ∧ t.1.size ≤ 140737488355328 ∧ t.2.size ≤ 140737488355328 := fun i => by
      by_cases hil : i < len
      · obtain ⟨ys, n, hD, _, hyl, hg⟩ := hi i (by omega)
        obtain ⟨u0, y0, hc0, he0, ht0⟩ := hg 0 _ rfl
        obtain ⟨u1, y1, hc1, he1, ht1⟩ := hg 1 _ rfl
        obtain ⟨f, hf, hf2, _⟩ := DataW.trod_string Tryz.underlying9 ht0
        obtain ⟨t, htt, ht2, _⟩ := DataW.trod_string Tryz.underlying9 ht1
        obtain rfl := (List.cons.inj hf).1
        obtain rfl := (List.cons.inj htt).1
        have hmem : D i ∈ (List.range len).map D := List.mem_map.2 ⟨i, List.mem_range.2 hil, rfl⟩
        have hDi : ∀ n ∈ (D i).weights Tryz.prog 69, n ≤ 140737488355328 := fun n hn => hb n (.inr (.inl (weightsAll_mem hmem n hn)))
        rw [hD] at hDi
        simp only [DataW.weights, Tryz.underlying69] at hDi
        have b0 := hDi f.data.toList.length (DataW.weights_mem_each (j := 0) (t := 9) (d := .lit (.string f.data.toList)) rfl (by rw [List.getElem?_map, he0]; simp [hf2]) _ (by simp [DataW.weights]))
        have b1 := hDi t.data.toList.length (DataW.weights_mem_each (j := 1) (t := 9) (d := .lit (.string t.data.toList)) rfl (by rw [List.getElem?_map, he1]; simp [ht2]) _ (by simp [DataW.weights]))
        have s0 : f.data.toList.length = f.size := Array.length_toList
        have s1 : t.data.toList.length = t.size := Array.length_toList
        exact ⟨(f, t), fun _ => ⟨⟨hc0, by rw [← add_fld _ _ 1 (by omega)]; exact hc1⟩, by show f.size ≤ _; omega, by show t.size ≤ _; omega⟩⟩
      · exact ⟨(⟨#[]⟩, ⟨#[]⟩), fun h => absurd h hil⟩
    obtain ⟨g, hg⟩ := Classical.axiomOfChoice key
    have hL : ((List.range len).map g).length = len := by simp
    refine ⟨(List.range len).map g, ⟨some x, cap, by rw [hL], fun k hk => ?_⟩, fun y hy => ?_, by rw [hL]; exact hlen⟩
    · have hk' : k < len := by rwa [hL] at hk
      have hp := (hg k hk').1
      refine ⟨x, rfl, ?_, ?_⟩
      · have := World.block_lt_of_cell? W _ hp.c0
        rw [add_block] at this
        exact this
      · rw [List.getElem_map, List.getElem_range]
        exact hp
    · obtain ⟨k, hk, rfl⟩ := List.mem_map.1 hy
      exact (hg k (List.mem_range.1 hk)).2
end Go.Proofs.YteigplfldhdakaaGreatDoor
/- runes.Letter. -/
namespace Go.Proofs.YteigplfldhdakaaGreatDoor
open Go.RowKit Go.Shelf
attribute [local go_sem ↓] Go.wp_at_zero Go.wp_at_succ
set_option maxRecDepth 100000 in
set_option maxHeartbeats 1000000 in
theorem between_c (r lo hi : Int) (w : World) : Calls Tryz.prog 167 #[.int .i32 r, .int .i32 lo, .int .i32 hi] w fun e w' => e = .returned (.bool (decide (lo ≤ r) && decide (r ≤ hi))) ∧ w' = w := by
  by_cases h1 : lo ≤ r
  · go_enter Tryz.func167, Tryz.ntmps167
    go_wp2
    go_ret
    exact ⟨by simp [h1], rfl⟩
  · go_enter Tryz.func167, Tryz.ntmps167
    go_wp2
    go_ret
    exact ⟨by have h2 : ¬ lo ≤ r := by omega
              simp [h2], rfl⟩
def btw (r lo hi : Int) : Bool := decide (lo ≤ r) && decide (r ≤ hi)
/-- is a rune a letter? -/
def letF (r : Int) : Bool := if Lib.validRune r = false ∨ r = 215 ∨ r = 247 ∨ btw r 8192 8303 = true then false else decide (192 ≤ r) || btw r 65 90 || btw r 97 122
theorem btw_c (r lo hi : Int) (w : World) : Calls Tryz.prog 167 #[.int .i32 r, .int .i32 lo, .int .i32 hi] w fun e w' => e = .returned (.bool (btw r lo hi)) ∧ w' = w := between_c r lo hi w
set_option maxRecDepth 100000 in
set_option maxHeartbeats 4000000 in
theorem letter_c (r : Int) (w : World) : Calls Tryz.prog 116 #[.int .i32 r] w fun e w' => e = .returned (.bool (letF r)) ∧ w' = w := by
  have hv := fun W => Tryz.utf8_ValidRune r W
  obtain ⟨vb, hvb⟩ : ∃ b, Lib.validRune r = b := ⟨_, rfl⟩
  have HE : Hid (letF r = if vb = false ∨ r = 215 ∨ r = 247 ∨ btw r 8192 8303 = true then false else decide (192 ≤ r) || btw r 65 90 || btw r 97 122) := hid (by rw [letF, hvb])
  rw [hvb] at hv
  have HV := hid hv
  clear hv hvb
  cases vb
  · have HE2 : Hid (letF r = false) := hid (by rw [HE.out]; simp)
    go_enter Tryz.func116, Tryz.ntmps116
    go_wp2_with (go_at_call 166; refine (HV.out _).mono ?_; rintro e w1 ⟨rfl, rfl⟩)
    go_ret
    exact ⟨by rw [HE2.out]; rfl, rfl⟩
  · by_cases h1 : r = 215
    · have HE2 : Hid (letF r = false) := hid (by rw [HE.out]; simp [h1])
      subst h1
      go_enter Tryz.func116, Tryz.ntmps116
      go_wp2_with (go_at_call 166; refine (HV.out _).mono ?_; rintro e w1 ⟨rfl, rfl⟩)
      go_ret
      exact ⟨by rw [HE2.out]; rfl, rfl⟩
    · by_cases h2 : r = 247
      · have HE2 : Hid (letF r = false) := hid (by rw [HE.out]; simp [h2])
        subst h2
        go_enter Tryz.func116, Tryz.ntmps116
        go_wp2_with (go_at_call 166; refine (HV.out _).mono ?_; rintro e w1 ⟨rfl, rfl⟩)
        go_ret
        exact ⟨by rw [HE2.out]; rfl, rfl⟩
      · have e1 : (r == 215) = false := by rw [beq_eq_false_iff_ne]; exact h1
        have e2 : (r == 247) = false := by rw [beq_eq_false_iff_ne]; exact h2
        cases hb1 : btw r 8192 8303
        · have HE2 : Hid (letF r = (decide (192 ≤ r) || btw r 65 90 || btw r 97 122)) := hid (by rw [HE.out]; simp [h1, h2, hb1])
          clear HE
          by_cases h3 : 192 ≤ r
          · have HE3 : Hid (letF r = true) := hid (by rw [HE2.out]; simp [h3])
            clear HE2
            go_enter Tryz.func116, Tryz.ntmps116
            go_wp2_with (first
              | (go_at_call 166; refine (HV.out _).mono ?_; rintro e w1 ⟨rfl, rfl⟩)
              | (go_at_call 167; refine (btw_c _ _ _ _).mono ?_; rintro e w1 ⟨rfl, rfl⟩; simp only [hb1]))
            go_ret
            exact ⟨by rw [HE3.out]; rfl, rfl⟩
          · cases hb2 : btw r 65 90
            · cases hb3 : btw r 97 122
              · have HE3 : Hid (letF r = false) := hid (by rw [HE2.out]; simp [h3, hb2, hb3])
                clear HE2
                go_enter Tryz.func116, Tryz.ntmps116
                go_wp2_with (first
                  | (go_at_call 166; refine (HV.out _).mono ?_; rintro e w1 ⟨rfl, rfl⟩)
                  | (go_at_call 167; refine (btw_c _ _ _ _).mono ?_; rintro e w1 ⟨rfl, rfl⟩; simp only [hb1, hb2, hb3]))
                go_ret
                exact ⟨by have h9 : ¬ 192 ≤ r := by omega
                          rw [HE3.out]; simp [h9], rfl⟩
              · have HE3 : Hid (letF r = true) := hid (by rw [HE2.out]; simp [h3, hb2, hb3])
                clear HE2
                go_enter Tryz.func116, Tryz.ntmps116
                go_wp2_with (first
                  | (go_at_call 166; refine (HV.out _).mono ?_; rintro e w1 ⟨rfl, rfl⟩)
                  | (go_at_call 167; refine (btw_c _ _ _ _).mono ?_; rintro e w1 ⟨rfl, rfl⟩; simp only [hb1, hb2, hb3]))
                go_ret
                exact ⟨by rw [HE3.out]; rfl, rfl⟩
            · have HE3 : Hid (letF r = true) := hid (by rw [HE2.out]; simp [h3, hb2])
              clear HE2
              go_enter Tryz.func116, Tryz.ntmps116
              go_wp2_with (first
                | (go_at_call 166; refine (HV.out _).mono ?_; rintro e w1 ⟨rfl, rfl⟩)
                | (go_at_call 167; refine (btw_c _ _ _ _).mono ?_; rintro e w1 ⟨rfl, rfl⟩; simp only [hb1, hb2]))
              go_ret
              exact ⟨by rw [HE3.out]; rfl, rfl⟩
        · have HE2 : Hid (letF r = false) := hid (by rw [HE.out]; simp [hb1])
          go_enter Tryz.func116, Tryz.ntmps116
          go_wp2_with (first
            | (go_at_call 166; refine (HV.out _).mono ?_; rintro e w1 ⟨rfl, rfl⟩)
            | (go_at_call 167; refine (btw_c _ _ _ _).mono ?_; rintro e w1 ⟨rfl, rfl⟩; simp only [hb1]))
          go_ret
          exact ⟨by rw [HE2.out]; rfl, rfl⟩
/- text.row. -/
/-- how far a row of letters, or of others, goes -/
def rowG (s : ByteArray) (l : Bool) : Nat → Nat → Int → Int
  | 0, _, n => n
  | f + 1, p, n => if p < s.size then (if letF (Utf8.decode s p).1 = l then rowG s l f (p + (Utf8.decode s p).2) (p + Lib.runeLen (Utf8.decode s p).1) else n) else n
def rowF (s : ByteArray) (l : Bool) : Int := rowG s l s.size 0 0
theorem width_pos (s : ByteArray) (pos : Nat) (h : pos < s.size) : 1 ≤ (Utf8.decode s pos).2 := by
  unfold Utf8.decode
  dsimp only
  split
  · exact Nat.le_refl _
  · split
    · split <;> dsimp only <;> omega
    · split
      · split <;> dsimp only <;> omega
      · split
        · split <;> dsimp only <;> omega
        · exact Nat.le_refl _
theorem iterPos_of {w : World} {k : Nat} {s : ByteArray} {p : Nat} (h : w.heap[k]? = some (.stringIter s p)) : w.iterPos k = p := by simp [World.iterPos, h]
set_option maxRecDepth 100000 in
set_option maxHeartbeats 4000000 in
theorem row_c (s : ByteArray) (l : Bool) (hs : s.size ≤ 1048576) (w : World) : Calls Tryz.prog 75 #[.string s, .bool l] w fun e w' => e = .returned (.int .i64 (rowF s l)) ∧ Below w.heap.size w w' := by
  have hlet := fun r W => letter_c r W
  have hlen := fun r W => Tryz.utf8_RuneLen r W
  refine (callsIn_wide (n := 6)).1 ?_
  refine callsIn_of_wp Tryz.func75 rfl trivial ?_ rfl
  simp only [Tryz.ntmps75, List.size_toArray, List.length_cons, List.length_nil, Nat.reduceAdd, Nat.reduceSub, Array.replicate_succ, Array.replicate_zero, List.push_toArray, List.append_toArray, List.nil_append, List.cons_append]
  gi_wp2
  refine wpIn_scope_straight ?_
  gi_wp2
  refine wpIn_label ?_
  gi_wp2
  have hit0 := World.iter_heap w s 0
  have hb0 : Below w.heap.size w (w.iter s 0) := balloc (Below.refl _ w) _
  gi_loopw [4] (fun nv wr => ∃ (pos fuel : Nat) (n : Int), wr.heap[w.heap.size]? = some (.stringIter s pos) ∧ nv = .int .i64 n ∧ Below w.heap.size w wr ∧ Hid (rowF s l = rowG s l fuel pos n) ∧ s.size ≤ pos + fuel ∧ -1 ≤ n ∧ n ≤ pos + 4) (fun _ wr => s.size - wr.iterPos w.heap.size)
  case atStart => exact ⟨0, s.size, 0, hit0, rfl, hb0, hid rfl, by omega, by omega, by omega⟩
  case round =>
    obtain ⟨pos, fuel, n, hit, rfl, hb, HE, hf, hn0, hn1⟩ := hrel
    have hpos0 := iterPos_of hit
    by_cases hp : pos < s.size
    · have hnx : ∀ ty, (Instr.next (.pointer (some ⟨w.heap.size, 0, none⟩)) true ty).run Tryz.prog wr = _ := fun ty => Lib.run_next_any_at wr w.heap.size s pos ty hit hp
      have hwd := width_pos s pos hp
      obtain ⟨fuel, rfl⟩ : ∃ f', fuel = f' + 1 := ⟨fuel - 1, by omega⟩
      have hit2 := Lib.iterAt_heap wr w.heap.size s pos (pos + (Utf8.decode s pos).2) hit
      have hb2 := Lib.below_iterAt hb (k := w.heap.size) (Nat.le_refl _) s (pos + (Utf8.decode s pos).2)
      have hE2 : rowF s l = if letF (Utf8.decode s pos).1 = l then rowG s l fuel (pos + (Utf8.decode s pos).2) (pos + Lib.runeLen (Utf8.decode s pos).1) else n := by rw [HE.out, rowG, if_pos hp]
      obtain ⟨W1, hW1⟩ : ∃ W1, W1 = wr.iterAt w.heap.size s (pos + (Utf8.decode s pos).2) := ⟨_, rfl⟩
      rw [← hW1] at hnx hit2 hb2
      obtain ⟨dw, hdw⟩ : ∃ dw, (Utf8.decode s pos).2 = dw := ⟨_, rfl⟩
      obtain ⟨r, hr⟩ : ∃ r, (((Utf8.decode s pos).1 : Nat) : Int) = r := ⟨_, rfl⟩
      obtain ⟨rl, hrl⟩ : ∃ rl, Lib.runeLen r = rl := ⟨_, rfl⟩
      have hrl2 : -1 ≤ rl ∧ rl ≤ 4 := by
        rw [← hrl]
        unfold Lib.runeLen
        repeat (first | split | omega)
      have hle := hlet r
      have hln := hlen r
      rw [hr, hrl, hdw] at hE2
      rw [hdw] at hit2 hwd
      rw [hrl] at hln
      simp only [hr] at hnx
      obtain ⟨b, hbl⟩ : ∃ b, letF r = b := ⟨_, rfl⟩
      rw [hbl] at hle hE2
      have HLE := hid hle
      have HLN := hid hln
      have HE2 := hid hE2
      have hw1 : IntKind.i64.wrap ((pos : Int) + rl) = (pos : Int) + rl := by rw [IntKind.wrap_i64]; omega
      clear hle hln hE2 hlet hlen hbl hrl hr hdw hW1 HE hit hb
      cases b <;> cases l
      case false.false =>
        have HE3 : Hid (rowF s false = rowG s false fuel (pos + dw) (pos + rl)) := hid (by rw [HE2.out]; simp)
        gi_wp2_with (first
          | (refine ⟨trivial, ?_⟩; gi_at_call 116; refine (callsIn_wide.2 (HLE.out _)).mono ?_; rintro e w1 ⟨rfl, rfl⟩)
          | (refine ⟨trivial, ?_⟩; gi_at_call 117; refine (callsIn_wide.2 (HLN.out _)).mono ?_; rintro e w1 ⟨rfl, rfl⟩))
        exact ⟨⟨pos + dw, fuel, pos + rl, hit2, rfl, hb2, HE3, by omega, by omega, by omega⟩, by rw [iterPos_of hit2, hpos0]; omega⟩
      case true.true =>
        have HE3 : Hid (rowF s true = rowG s true fuel (pos + dw) (pos + rl)) := hid (by rw [HE2.out]; simp)
        gi_wp2_with (first
          | (refine ⟨trivial, ?_⟩; gi_at_call 116; refine (callsIn_wide.2 (HLE.out _)).mono ?_; rintro e w1 ⟨rfl, rfl⟩)
          | (refine ⟨trivial, ?_⟩; gi_at_call 117; refine (callsIn_wide.2 (HLN.out _)).mono ?_; rintro e w1 ⟨rfl, rfl⟩))
        exact ⟨⟨pos + dw, fuel, pos + rl, hit2, rfl, hb2, HE3, by omega, by omega, by omega⟩, by rw [iterPos_of hit2, hpos0]; omega⟩
      case false.true =>
        have HE3 : Hid (rowF s true = n) := hid (by rw [HE2.out]; simp)
        gi_wp2_with (refine ⟨trivial, ?_⟩; gi_at_call 116; refine (callsIn_wide.2 (HLE.out _)).mono ?_; rintro e w1 ⟨rfl, rfl⟩)
        simp only [Exit.noGoto]
        go_ret
        exact ⟨by rw [HE3.out]; rfl, hb2⟩
      case true.false =>
        have HE3 : Hid (rowF s false = n) := hid (by rw [HE2.out]; simp)
        gi_wp2_with (refine ⟨trivial, ?_⟩; gi_at_call 116; refine (callsIn_wide.2 (HLE.out _)).mono ?_; rintro e w1 ⟨rfl, rfl⟩)
        simp only [Exit.noGoto]
        go_ret
        exact ⟨by rw [HE3.out]; rfl, hb2⟩
    · have hnx : ∀ ty, (Instr.next (.pointer (some ⟨w.heap.size, 0, none⟩)) true ty).run Tryz.prog wr = _ := fun ty => Lib.run_next_end_at wr w.heap.size s pos ty hit hp
      have HE3 : Hid (rowF s l = n) := hid (by rw [HE.out]; cases fuel <;> simp [rowG, hp])
      gi_wp2
      simp only [Exit.noGoto]
      go_ret
      exact ⟨by rw [HE3.out]; rfl, hb⟩
end Go.Proofs.YteigplfldhdakaaGreatDoor
/- text, plain: rows of valid texts. -/
namespace Go.Proofs.YteigplfldhdakaaGreatDoor
open Go.Lib
/-- how many bytes a row of letters, or of others, takes -/
def runB (l : Bool) : Nat → List UInt8 → Nat
  | 0, _ => 0
  | f + 1, L => if L = [] then 0 else if letF (decodeL L).1 = l then (decodeL L).2 + runB l f (L.drop (decodeL L).2) else 0
theorem runB_le (l : Bool) : ∀ (f : Nat) (L : List UInt8), runB l f L ≤ L.length
  | 0, L => Nat.zero_le _
  | f + 1, L => by
    unfold runB
    split
    · exact Nat.zero_le _
    · next h =>
      split
      · have h1 := runB_le l f (L.drop (decodeL L).2)
        have h2 := decodeL_le L h
        rw [List.length_drop] at h1
        omega
      · exact Nat.zero_le _
/-- of a lawful rune the length is its width -/
theorem width_eq {L : List UInt8} (hne : L ≠ []) (hv : validD L = true) : runeLen ((decodeL L).1 : Int) = ((decodeL L).2 : Int) := by
  by_cases h : (decodeL L).1 = 65533
  · rw [validD_step L hne] at hv
    have h2 : (decodeL L).2 ≠ 1 := fun e => by rw [if_pos ⟨h, e⟩] at hv; cases hv
    rw [h]
    have h3 : (decodeL L).2 = 3 := by
      clear hv
      unfold decodeL at h h2 ⊢
      revert h h2
      unfold Utf8.decode
      dsimp only
      split
      · intro _ h; exact absurd rfl h
      · split
        · split
          · intro h _; dsimp only at h; omega
          · intro _ h; exact absurd rfl h
        · split
          · split
            · intro _ _; rfl
            · intro _ h; exact absurd rfl h
          · split
            · split
              · next hc =>
                intro h _
                dsimp only at h
                simp only [Bool.and_eq_true, decide_eq_true_eq] at hc
                omega
              · intro _ h; exact absurd rfl h
            · intro _ h; exact absurd rfl h
    rw [h3]
    rfl
  · exact runeLen_decode L h
theorem valid_drop {L : List UInt8} (hne : L ≠ []) (hv : validD L = true) : validD (L.drop (decodeL L).2) = true := by
  rw [validD_step L hne] at hv
  split at hv
  · cases hv
  · exact hv
theorem rowG_eq (s : ByteArray) (l : Bool) : ∀ (f pos : Nat), validD ((bys s).drop pos) = true → s.size ≤ pos + f → rowG s l f pos pos = ((pos + runB l f ((bys s).drop pos) : Nat) : Int)
  | 0, pos, _, hf => by simp [rowG, runB]
  | f + 1, pos, hv, hf => by
    unfold rowG runB
    have hlen : ((bys s).drop pos).length = s.size - pos := by rw [List.length_drop, bys_size]
    have hd : decodeL ((bys s).drop pos) = Utf8.decode s pos := decodeL_drop s pos
    by_cases hp : pos < s.size
    · have hne : (bys s).drop pos ≠ [] := fun e => by rw [e] at hlen; simp at hlen; omega
      rw [if_pos hp, if_neg hne, hd]
      have hw := width_eq hne hv
      have hvd := valid_drop hne hv
      rw [hd] at hw hvd
      by_cases hl : letF (Utf8.decode s pos).1 = l
      · rw [if_pos hl, if_pos hl, hw]
        have hle := width_pos s pos hp
        rw [List.drop_drop] at hvd ⊢
        have := rowG_eq s l f (pos + (Utf8.decode s pos).2) hvd (by omega)
        rw [show ((pos : Int) + ((Utf8.decode s pos).2 : Int)) = ((pos + (Utf8.decode s pos).2 : Nat) : Int) by omega, this, Nat.add_assoc]
      · rw [if_neg hl, if_neg hl]; simp
    · have he : (bys s).drop pos = [] := List.eq_nil_of_length_eq_zero (by rw [hlen]; omega)
      rw [if_neg hp, if_pos he]; simp
theorem rowF_eq (s : ByteArray) (l : Bool) (hv : validD (bys s) = true) : rowF s l = ((runB l s.size (bys s) : Nat) : Int) := by
  obtain ⟨f, hf⟩ : ∃ f, s.size = f := ⟨_, rfl⟩
  unfold rowF
  rw [hf]
  have h := rowG_eq s l f 0 (by rw [List.drop_zero]; exact hv) (by omega)
  rw [List.drop_zero, Nat.zero_add] at h
  exact h
/- text, plain: the pieces of a valid text. -/
/-- is the first rune of this kind? -/
def fstL (L : List UInt8) : Bool := letF (decodeL L).1
theorem runB_more (l : Bool) : ∀ (f g : Nat) (L : List UInt8), L.length ≤ f → L.length ≤ g → runB l f L = runB l g L
  | 0, g, L, h, _ => by
    obtain rfl : L = [] := List.eq_nil_of_length_eq_zero (by omega)
    cases g <;> simp [runB]
  | f + 1, 0, L, _, h => by
    obtain rfl : L = [] := List.eq_nil_of_length_eq_zero (by omega)
    simp [runB]
  | f + 1, g + 1, L, hf, hg => by
    unfold runB
    by_cases hne : L = []
    · rw [if_pos hne, if_pos hne]
    · rw [if_neg hne, if_neg hne]
      have h1 := decodeL_width L
      have h2 := decodeL_le L hne
      have h3 : (L.drop (decodeL L).2).length < L.length := by
        rw [List.length_drop]
        have : 0 < L.length := List.length_pos_iff.2 hne
        omega
      rw [runB_more l f g _ (by omega) (by omega)]
/-- a row from the front -/
def runL (l : Bool) (L : List UInt8) : Nat := runB l L.length L
theorem runL_le (l : Bool) (L : List UInt8) : runL l L ≤ L.length := runB_le l _ L
theorem runL_step {l : Bool} {L : List UInt8} (hne : L ≠ []) : runL l L = if fstL L = l then (decodeL L).2 + runL l (L.drop (decodeL L).2) else 0 := by
  obtain ⟨n, hn⟩ : ∃ n, L.length = n + 1 := ⟨L.length - 1, by have := List.length_pos_iff.2 hne; omega⟩
  have h1 := decodeL_width L
  unfold runL fstL
  rw [hn, show runB l (n + 1) L = if L = [] then 0 else if letF (decodeL L).1 = l then (decodeL L).2 + runB l n (L.drop (decodeL L).2) else 0 from rfl, if_neg hne]
  split
  · rw [runB_more l n _ _ (by rw [List.length_drop]; omega) (Nat.le_refl _)]
  · rfl
theorem runL_pos {L : List UInt8} (hne : L ≠ []) : 1 ≤ runL (fstL L) L := by
  rw [runL_step hne, if_pos rfl]
  have := decodeL_width L
  omega
theorem runB_valid (l : Bool) : ∀ (f : Nat) (L : List UInt8), validD L = true → validD (L.drop (runB l f L)) = true
  | 0, L, h => by simpa [runB] using h
  | f + 1, L, h => by
    unfold runB
    by_cases hne : L = []
    · rw [if_pos hne]; simpa using h
    · rw [if_neg hne]
      split
      · rw [← List.drop_drop]
        exact runB_valid l f _ (valid_drop hne h)
      · simpa using h
theorem runL_valid {l : Bool} {L : List UInt8} (h : validD L = true) : validD (L.drop (runL l L)) = true := runB_valid l _ L h
/-- the pieces: (from, to, letters) -/
def spnG : Nat → Bool → Nat → List UInt8 → List (Nat × Nat × Bool)
  | 0, _, _, _ => []
  | f + 1, l, p, L => if L = [] then [] else if 0 < runL l L then (p, p + runL l L, l) :: spnG f (!l) (p + runL l L) (L.drop (runL l L)) else spnG f (!l) p L
/-- how many rounds are left at the most -/
def spnM (l : Bool) (L : List UInt8) : Nat := if L = [] then 0 else 2 * L.length + if fstL L = l then 0 else 1
theorem spnM_run {l : Bool} {L : List UInt8} (hne : L ≠ []) (h : 0 < runL l L) : spnM (!l) (L.drop (runL l L)) < spnM l L := by
  have h1 := List.length_pos_iff.2 hne
  unfold spnM
  rw [if_neg hne, List.length_drop]
  split
  · omega
  · split <;> split <;> omega
theorem spnM_turn {l : Bool} {L : List UInt8} (hne : L ≠ []) (h : ¬ 0 < runL l L) : spnM (!l) L < spnM l L := by
  have h1 : fstL L ≠ l := fun e => by
    have := runL_pos hne
    rw [e] at this
    omega
  have h2 : fstL L = !l := by cases hq : fstL L <;> cases l <;> simp_all
  unfold spnM
  rw [if_neg hne, if_neg hne, if_pos h2, if_neg h1]
  omega
theorem spnG_more : ∀ (f g : Nat) (l : Bool) (p : Nat) (L : List UInt8), spnM l L ≤ f → spnM l L ≤ g → spnG f l p L = spnG g l p L
  | 0, g, l, p, L, h, _ => by
    have he : L = [] := by
      by_cases hne : L = []
      · exact hne
      · exfalso
        unfold spnM at h
        rw [if_neg hne] at h
        have := List.length_pos_iff.2 hne
        omega
    cases g <;> simp [spnG, he]
  | f + 1, 0, l, p, L, _, h => by
    have he : L = [] := by
      by_cases hne : L = []
      · exact hne
      · exfalso
        unfold spnM at h
        rw [if_neg hne] at h
        have := List.length_pos_iff.2 hne
        omega
    simp [spnG, he]
  | f + 1, g + 1, l, p, L, hf, hg => by
    unfold spnG
    by_cases hne : L = []
    · rw [if_pos hne, if_pos hne]
    · rw [if_neg hne, if_neg hne]
      by_cases h : 0 < runL l L
      · rw [if_pos h, if_pos h]
        have := spnM_run hne h
        rw [spnG_more f g _ _ _ (by omega) (by omega)]
      · rw [if_neg h, if_neg h]
        have := spnM_turn hne h
        rw [spnG_more f g _ _ _ (by omega) (by omega)]
/-- the pieces from p on -/
def spnL (l : Bool) (p : Nat) (L : List UInt8) : List (Nat × Nat × Bool) := spnG (spnM l L) l p L
theorem spnL_nil (l : Bool) (p : Nat) : spnL l p [] = [] := by unfold spnL; cases spnM l [] <;> simp [spnG]
theorem spnL_run {l : Bool} {p : Nat} {L : List UInt8} (hne : L ≠ []) (h : 0 < runL l L) : spnL l p L = (p, p + runL l L, l) :: spnL (!l) (p + runL l L) (L.drop (runL l L)) := by
  have h1 := spnM_run hne h
  obtain ⟨n, hn⟩ : ∃ n, spnM l L = n + 1 := ⟨spnM l L - 1, by omega⟩
  unfold spnL
  rw [hn, spnG, if_neg hne, if_pos h, spnG_more n _ _ _ _ (by omega) (Nat.le_refl _)]
theorem spnL_turn {l : Bool} {p : Nat} {L : List UInt8} (hne : L ≠ []) (h : ¬ 0 < runL l L) : spnL l p L = spnL (!l) p L := by
  have h1 := spnM_turn hne h
  obtain ⟨n, hn⟩ : ∃ n, spnM l L = n + 1 := ⟨spnM l L - 1, by omega⟩
  unfold spnL
  rw [hn, spnG, if_neg hne, if_neg h, spnG_more n _ _ _ _ (by omega) (Nat.le_refl _)]
def spansF (L : List UInt8) : List (Nat × Nat × Bool) := spnL true 0 L
end Go.Proofs.YteigplfldhdakaaGreatDoor
/- an automaton in the making, plain: what it takes; merges, growth, ends. -/
namespace Go.Proofs.YteigplfldhdakaaGreatDoor.Dw
abbrev Ed := Int × Nat
/-- a state: its edges, does a word end -/
abbrev Dst := List Ed × Bool
def dst0 : Dst := ([], false)
/-- where a rune leads -/
def edgeTo (r : Int) : List Ed → Option Nat
  | [] => none
  | e :: l => if e.1 = r then some e.2 else edgeTo r l
/-- does it take this word, from a state on? -/
def acc (S : List Dst) : Nat → List Int → Bool
  | q, [] => (S.getD q dst0).2
  | q, r :: w => match edgeTo r (S.getD q dst0).1 with
    | some t => acc S t w
    | none => false
theorem acc_same {S : List Dst} {p q : Nat} (h : S.getD p dst0 = S.getD q dst0) : ∀ w, acc S p w = acc S q w
  | [] => by unfold acc; rw [h]
  | r :: w => by unfold acc; rw [h]
theorem edgeTo_snoc (r : Int) (e : Ed) : ∀ l : List Ed, edgeTo r (l ++ [e]) = match edgeTo r l with | some t => some t | none => if e.1 = r then some e.2 else none
  | [] => rfl
  | x :: l => by
    rw [List.cons_append, edgeTo, edgeTo]
    by_cases h : x.1 = r
    · rw [if_pos h, if_pos h]
    · rw [if_neg h, if_neg h, edgeTo_snoc r e l]
theorem edgeTo_none {r : Int} : ∀ {l : List Ed}, (∀ e ∈ l, e.1 ≠ r) → edgeTo r l = none
  | [], _ => rfl
  | x :: l, h => by
    rw [edgeTo, if_neg (h x (List.mem_cons_self ..))]
    exact edgeTo_none fun e he => h e (List.mem_cons_of_mem _ he)
theorem edgeTo_mem {r : Int} {t : Nat} : ∀ {l : List Ed}, edgeTo r l = some t → (r, t) ∈ l
  | [], h => by cases h
  | x :: l, h => by
    rw [edgeTo] at h
    by_cases hx : x.1 = r
    · rw [if_pos hx] at h
      obtain ⟨a, b⟩ := x
      cases hx
      cases h
      exact List.mem_cons_self ..
    · rw [if_neg hx] at h
      exact List.mem_cons_of_mem _ (edgeTo_mem h)
theorem getD_set (S : List Dst) (p q : Nat) (x : Dst) : (S.set p x).getD q dst0 = if p = q ∧ p < S.length then x else S.getD q dst0 := by
  rw [List.getD_eq_getElem?_getD, List.getD_eq_getElem?_getD, List.getElem?_set]
  by_cases h : p = q
  · subst h
    by_cases hl : p < S.length
    · simp [hl]
    · simp [hl, List.getElem?_eq_none (by omega : S.length ≤ p)]
  · simp [h]
/-- rising edges -/
def risE (l : List Ed) : Prop := l.Pairwise fun a b => a.1 < b.1
theorem edgeTo_last {l : List Ed} {e : Ed} (h : risE (l ++ [e])) : edgeTo e.1 (l ++ [e]) = some e.2 := by
  rw [edgeTo_snoc, edgeTo_none]
  · simp
  · intro x hx
    unfold risE at h
    rw [List.pairwise_append] at h
    have := h.2.2 x hx e (List.mem_singleton.2 rfl)
    omega
/-- **a merge**: the last edge of p leads to old in the place of last, which is the same -/
theorem acc_merge {S : List Dst} {p last old : Nat} {l : List Ed} {r : Int} {b : Bool} (hp : p < S.length) (hS : S.getD p dst0 = (l ++ [(r, last)], b)) (he : S.getD old dst0 = S.getD last dst0) :
    ∀ (w : List Int) (q : Nat), acc (S.set p (l ++ [(r, old)], b)) q w = acc S q w
  | [], q => by
    unfold acc
    rw [getD_set]
    by_cases h : p = q ∧ p < S.length
    · rw [if_pos h]
      obtain ⟨rfl, _⟩ := h
      rw [hS]
    · rw [if_neg h]
  | x :: w, q => by
    unfold acc
    rw [getD_set]
    by_cases h : p = q ∧ p < S.length
    · rw [if_pos h]
      obtain ⟨rfl, _⟩ := h
      rw [hS]
      dsimp only
      rw [edgeTo_snoc, edgeTo_snoc]
      cases hq : edgeTo x l with
      | some t =>
        dsimp only
        exact acc_merge hp hS he w t
      | none =>
        dsimp only
        by_cases hx : r = x
        · rw [if_pos hx, if_pos hx]
          dsimp only
          rw [acc_merge hp hS he w old]
          exact acc_same he w
        · rw [if_neg hx, if_neg hx]
    · rw [if_neg h]
      cases edgeTo x (S.getD q dst0).1 with
      | some t => exact acc_merge hp hS he w t
      | none => rfl
theorem getD_snoc (S : List Dst) (x : Dst) (q : Nat) : (S ++ [x]).getD q dst0 = if q = S.length then x else S.getD q dst0 := by
  rw [List.getD_eq_getElem?_getD, List.getD_eq_getElem?_getD]
  rcases Nat.lt_trichotomy q S.length with h | h | h
  · rw [List.getElem?_append_left h, if_neg (by omega)]
  · subst h; simp
  · rw [if_neg (by omega), List.getElem?_append_right (by omega), List.getElem?_eq_none (by simp; omega), List.getElem?_eq_none (by omega)]
/-- all edges lead to states that are there -/
def inR (S : List Dst) : Prop := ∀ q, ∀ e ∈ (S.getD q dst0).1, e.2 < S.length
/-- **growth**: what a state takes it takes where other states have more -/
theorem acc_more {S T : List Dst} (h : ∀ q, q < S.length → (∀ r t, edgeTo r (S.getD q dst0).1 = some t → edgeTo r (T.getD q dst0).1 = some t) ∧ ((S.getD q dst0).2 = true → (T.getD q dst0).2 = true)) (hr : inR S) :
    ∀ (w : List Int) (q : Nat), q < S.length → acc S q w = true → acc T q w = true
  | [], q, hq, ha => by
    unfold acc at ha ⊢
    exact (h q hq).2 ha
  | x :: w, q, hq, ha => by
    unfold acc at ha ⊢
    cases hx : edgeTo x (S.getD q dst0).1 with
    | none => rw [hx] at ha; cases ha
    | some t =>
      rw [hx] at ha
      rw [(h q hq).1 x t hx]
      exact acc_more h hr w t (hr q _ (edgeTo_mem hx)) ha
theorem getD_lt {α : Type} {l : List α} {k : Nat} {d : α} (h : k < l.length) : l.getD k d = l[k] := by
  rw [List.getD_eq_getElem?_getD, List.getElem?_eq_getElem h]; rfl
theorem getD_left {α : Type} {l m : List α} {k : Nat} {d : α} (h : k < l.length) : (l ++ m).getD k d = l.getD k d := by
  rw [List.getD_eq_getElem?_getD, List.getD_eq_getElem?_getD, List.getElem?_append_left h]
theorem getD_end {α : Type} {l : List α} {x d : α} : (l ++ [x]).getD l.length d = x := by
  rw [List.getD_eq_getElem?_getD]; simp
/-- a draft that is lawful: the states, the path, what it spells, the words that it takes -/
structure DI (S : List Dst) (P : List Nat) (pw : List Int) (done : List (List Int)) : Prop where
  len : P.length = pw.length + 1
  root : P.getD 0 0 = 0
  up : P.Pairwise (· < ·)
  lt : ∀ q ∈ P, q < S.length
  link : ∀ i, i < pw.length → ∃ l b, S.getD (P.getD i 0) dst0 = (l ++ [(pw.getD i 0, P.getD (i + 1) 0)], b)
  inr : inR S
  ris : ∀ q, risE (S.getD q dst0).1
  done : ∀ w ∈ done, acc S 0 w = true
theorem getD_memN {P : List Nat} {i : Nat} (h : i < P.length) : P.getD i 0 ∈ P := by rw [getD_lt h]; exact List.getElem_mem h
theorem up_lt {P : List Nat} (h : P.Pairwise (· < ·)) {i j : Nat} (hij : i < j) (hj : j < P.length) : P.getD i 0 < P.getD j 0 := by
  rw [getD_lt (by omega), getD_lt hj]
  exact List.pairwise_iff_getElem.1 h i j (by omega) hj hij
theorem DI.pop {S : List Dst} {P : List Nat} {pw : List Int} {done : List (List Int)} {last : Nat} {r : Int} (h : DI S (P ++ [last]) (pw ++ [r]) done) : DI S P pw done where
  len := by have := h.len; simp at this; exact this
  root := by
    have h1 := h.len
    have h2 := h.root
    simp at h1
    rwa [getD_left (by omega)] at h2
  up := (List.pairwise_append.1 h.up).1
  lt := fun q hq => h.lt q (List.mem_append_left _ hq)
  link := fun i hi => by
    have h1 := h.len
    simp at h1
    obtain ⟨l, b, h2⟩ := h.link i (by simp; omega)
    rw [getD_left (l := P) (k := i) (by omega), getD_left (l := P) (k := i + 1) (by omega), getD_left (l := pw) (k := i) hi] at h2
    exact ⟨l, b, h2⟩
  inr := h.inr
  ris := h.ris
  done := h.done
theorem DI.parent {S : List Dst} {P : List Nat} {pw : List Int} {done : List (List Int)} {last : Nat} {r : Int} (h : DI S (P ++ [last]) (pw ++ [r]) done) : ∃ l b, S.getD (P.getD (P.length - 1) 0) dst0 = (l ++ [(r, last)], b) ∧ P.getD (P.length - 1) 0 < S.length ∧ P.getD (P.length - 1) 0 ∈ P := by
  have h1 := h.len
  simp at h1
  obtain ⟨l, b, h2⟩ := h.link pw.length (by simp)
  rw [getD_left (by omega), getD_end, show pw.length + 1 = P.length by omega, getD_end] at h2
  refine ⟨l, b, ?_, ?_, getD_memN (by omega)⟩
  · rw [show P.length - 1 = pw.length by omega]; exact h2
  · exact h.lt _ (List.mem_append_left _ (getD_memN (by omega)))
theorem inR_set {S : List Dst} {p : Nat} {x : Dst} (h : inR S) (hx : ∀ e ∈ x.1, e.2 < S.length) : inR (S.set p x) := fun q e he => by
  rw [List.length_set]
  rw [getD_set] at he
  split at he
  · exact hx e he
  · exact h q e he
theorem ris_set {S : List Dst} {p : Nat} {x : Dst} (h : ∀ q, risE (S.getD q dst0).1) (hx : risE x.1) : ∀ q, risE ((S.set p x).getD q dst0).1 := fun q => by
  rw [getD_set]
  split
  · exact hx
  · exact h q
theorem ris_end {l : List Ed} {r : Int} {a b : Nat} (h : risE (l ++ [(r, a)])) : risE (l ++ [(r, b)]) := by
  unfold risE at h ⊢
  rw [List.pairwise_append] at h ⊢
  exact ⟨h.1, List.pairwise_singleton .., fun x hx y hy => by
    rw [List.mem_singleton] at hy
    subst hy
    exact h.2.2 x hx (r, a) (List.mem_singleton.2 rfl)⟩
theorem DI.merge {S : List Dst} {P : List Nat} {pw : List Int} {done : List (List Int)} {last old : Nat} {r : Int} {l : List Ed} {b : Bool} (h : DI S (P ++ [last]) (pw ++ [r]) done)
    (hS : S.getD (P.getD (P.length - 1) 0) dst0 = (l ++ [(r, last)], b)) (ho : old < S.length) (he : S.getD old dst0 = S.getD last dst0) :
    DI (S.set (P.getD (P.length - 1) 0) (l ++ [(r, old)], b)) P pw done := by
  have h0 := h.pop
  have h1 := h0.len
  have hl : P.getD (P.length - 1) 0 < S.length := h0.lt _ (getD_memN (by omega))
  have hr := h.ris (P.getD (P.length - 1) 0)
  rw [hS] at hr
  have hin := h.inr (P.getD (P.length - 1) 0)
  rw [hS] at hin
  exact {
    len := h1
    root := h0.root
    up := h0.up
    lt := fun q hq => by rw [List.length_set]; exact h0.lt q hq
    link := fun i hi => by
      obtain ⟨l', b', h2⟩ := h0.link i hi
      refine ⟨l', b', ?_⟩
      rw [getD_set, if_neg (fun hx => ?_)]
      · exact h2
      · have := up_lt h0.up (i := i) (j := P.length - 1) (by omega) (by omega)
        omega
    inr := inR_set h.inr fun e he => by
      rcases List.mem_append.1 he with h3 | h3
      · exact hin e (List.mem_append_left _ h3)
      · rw [List.mem_singleton] at h3; subst h3; exact ho
    ris := ris_set h.ris (ris_end hr)
    done := fun w hw => by rw [acc_merge hl hS he]; exact h.done w hw }
theorem DI.add {S : List Dst} {P : List Nat} {pw : List Int} {done : List (List Int)} {r : Int} (h : DI S P pw done) (hr : ∀ e ∈ (S.getD (P.getD (P.length - 1) 0) dst0).1, e.1 < r) :
    DI ((S ++ [dst0]).set (P.getD (P.length - 1) 0) ((S.getD (P.getD (P.length - 1) 0) dst0).1 ++ [(r, S.length)], (S.getD (P.getD (P.length - 1) 0) dst0).2)) (P ++ [S.length]) (pw ++ [r]) done := by
  have h1 := h.len
  obtain ⟨t, ht⟩ : ∃ t, P.getD (P.length - 1) 0 = t := ⟨_, rfl⟩
  have hl : t < S.length := by rw [← ht]; exact h.lt _ (getD_memN (by omega))
  rw [ht] at hr ⊢
  have hg : ∀ q, ((S ++ [dst0]).set t ((S.getD t dst0).1 ++ [(r, S.length)], (S.getD t dst0).2)).getD q dst0 = if q = t then ((S.getD t dst0).1 ++ [(r, S.length)], (S.getD t dst0).2) else S.getD q dst0 := fun q => by
    rw [getD_set, getD_snoc]
    by_cases hq : q = t
    · rw [if_pos ⟨hq.symm, by simp; omega⟩, if_pos hq]
    · rw [if_neg (fun hx => hq hx.1.symm), if_neg hq]
      by_cases hs : q = S.length
      · rw [if_pos hs, List.getD_eq_getElem?_getD, List.getElem?_eq_none (by omega)]; rfl
      · rw [if_neg hs]
  exact {
    len := by simp; omega
    root := by rw [getD_left (by omega)]; exact h.root
    up := by
      rw [List.pairwise_append]
      exact ⟨h.up, List.pairwise_singleton .., fun a ha b hb => by rw [List.mem_singleton] at hb; subst hb; exact h.lt a ha⟩
    lt := fun q hq => by
      rw [List.length_set, List.length_append, List.length_singleton]
      rcases List.mem_append.1 hq with h2 | h2
      · have := h.lt q h2; omega
      · rw [List.mem_singleton] at h2; omega
    link := fun i hi => by
      rw [hg]
      rw [List.length_append, List.length_singleton] at hi
      rcases Nat.lt_or_ge i pw.length with h2 | h2
      · obtain ⟨l, b, h3⟩ := h.link i h2
        have h4 := up_lt h.up (i := i) (j := P.length - 1) (by omega) (by omega)
        rw [getD_left (l := P) (k := i) (by omega), getD_left (l := P) (k := i + 1) (by omega), getD_left (l := pw) (k := i) h2, if_neg (by rw [← ht]; omega)]
        exact ⟨l, b, h3⟩
      · obtain rfl : i = pw.length := by omega
        rw [getD_left (by omega), show pw.length + 1 = P.length by omega, getD_end, getD_end, if_pos (by rw [← ht]; congr 1; omega)]
        exact ⟨_, _, rfl⟩
    inr := fun q e he => by
      rw [List.length_set, List.length_append, List.length_singleton]
      rw [hg] at he
      split at he
      · rcases List.mem_append.1 he with h3 | h3
        · have := h.inr t e h3; omega
        · rw [List.mem_singleton] at h3; subst h3; dsimp only; omega
      · have := h.inr q e he; omega
    ris := fun q => by
      rw [hg]
      split
      · unfold risE
        rw [List.pairwise_append]
        exact ⟨h.ris t, List.pairwise_singleton .., fun a ha b hb => by rw [List.mem_singleton] at hb; subst hb; exact hr a ha⟩
      · exact h.ris q
    done := fun w hw => by
      refine acc_more (S := S) (fun q hq => ?_) h.inr w 0 (by have := h.lt _ (getD_memN (P := P) (i := 0) (by omega)); rw [h.root] at this; exact this) (h.done w hw)
      rw [hg]
      by_cases hqt : q = t
      · rw [if_pos hqt]
        subst hqt
        refine ⟨fun x u hx => ?_, fun hx => hx⟩
        rw [edgeTo_snoc, hx]
      · rw [if_neg hqt]
        exact ⟨fun _ _ hx => hx, fun hx => hx⟩ }
theorem DI.takes {S : List Dst} {P : List Nat} {pw : List Int} {done : List (List Int)} (h : DI S P pw done) (he : (S.getD (P.getD (P.length - 1) 0) dst0).2 = true) : acc S 0 pw = true := by
  have h1 := h.len
  have key : ∀ k i, i + k = pw.length → acc S (P.getD i 0) (pw.drop i) = true := fun k => by
    induction k with
    | zero =>
      intro i hi
      rw [List.drop_of_length_le (by omega), acc]
      rw [show i = P.length - 1 by omega]
      exact he
    | succ k ih =>
      intro i hi
      rw [List.drop_eq_getElem_cons (by omega), acc]
      obtain ⟨l, b, h2⟩ := h.link i (by omega)
      have h3 := h.ris (P.getD i 0)
      rw [h2] at h3 ⊢
      have h4 := edgeTo_last h3
      dsimp only at h4 ⊢
      rw [getD_lt (show i < pw.length by omega)] at h4
      rw [getD_lt (show i < pw.length by omega), h4]
      exact ih (i + 1) (by omega)
  have := key pw.length 0 (by omega)
  rw [h.root] at this
  exact this
theorem DI.ends {S : List Dst} {P : List Nat} {pw : List Int} {done : List (List Int)} (h : DI S P pw done) :
    DI (S.set (P.getD (P.length - 1) 0) ((S.getD (P.getD (P.length - 1) 0) dst0).1, true)) P pw (done ++ [pw]) := by
  have h1 := h.len
  obtain ⟨t, ht⟩ : ∃ t, P.getD (P.length - 1) 0 = t := ⟨_, rfl⟩
  have hl : t < S.length := by rw [← ht]; exact h.lt _ (getD_memN (by omega))
  have hg : ∀ q, (S.set t ((S.getD t dst0).1, true)).getD q dst0 = if q = t then ((S.getD t dst0).1, true) else S.getD q dst0 := fun q => by
    rw [getD_set]
    by_cases hq : q = t
    · rw [if_pos ⟨hq.symm, hl⟩, if_pos hq]
    · rw [if_neg (fun hx => hq hx.1.symm), if_neg hq]
  rw [ht]
  have hD : DI (S.set t ((S.getD t dst0).1, true)) P pw done := {
    len := h1
    root := h.root
    up := h.up
    lt := fun q hq => by rw [List.length_set]; exact h.lt q hq
    link := fun i hi => by
      obtain ⟨l, b, h3⟩ := h.link i hi
      have h4 := up_lt h.up (i := i) (j := P.length - 1) (by omega) (by omega)
      rw [hg, if_neg (by omega)]
      exact ⟨l, b, h3⟩
    inr := inR_set h.inr fun e he => h.inr t e he
    ris := ris_set h.ris (h.ris t)
    done := fun w hw => by
      refine acc_more (S := S) (fun q hq => ?_) h.inr w 0 (by have := h.lt _ (getD_memN (P := P) (i := 0) (by omega)); rw [h.root] at this; exact this) (h.done w hw)
      rw [hg]
      by_cases hqt : q = t
      · rw [if_pos hqt]
        subst hqt
        exact ⟨fun _ _ hx => hx, fun hx => rfl⟩
      · rw [if_neg hqt]
        exact ⟨fun _ _ hx => hx, fun hx => hx⟩ }
  exact ⟨hD.len, hD.root, hD.up, hD.lt, hD.link, hD.inr, hD.ris, fun w hw => by
    rcases List.mem_append.1 hw with h2 | h2
    · exact hD.done w h2
    · rw [List.mem_singleton] at h2
      subst h2
      exact hD.takes (by rw [ht, hg, if_pos rfl])⟩
end Go.Proofs.YteigplfldhdakaaGreatDoor.Dw
