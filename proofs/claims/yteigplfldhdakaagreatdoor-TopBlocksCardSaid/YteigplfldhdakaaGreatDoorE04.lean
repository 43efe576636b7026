/- The two tables of unicode/utf8 in memory; runes of a string, plain. -/
import Derived.Test.YteigplfldhdakaaGreatDoorE02
import Derived.Test.YteigplfldhdakaaGreatDoorE03
import Derived.Lib.MapLaws
import Derived.Lib.ValidLaws
import Derived.Maps.AppendAt
import Derived.Deep.QuietTactic
import Derived.BigQuiet
import Derived.WalkSpells
import Derived.Deep.RegionHeld3
import Derived.Deep.DrawnRows
import Derived.RegionTactic
import Derived.StillTailTactics
set_option linter.unusedVariables false
set_option linter.unusedSimpArgs false
namespace Go.Proofs.YteigplfldhdakaaGreatDoor
open Go.RowKit Go.Shelf Go.Lib
def Tab (w : World) : Prop := Lib.Utf8Tabs 0 1 w
theorem Tab.keep {w w' : World} (h : Tab w) (h0 : w'.heap[0]? = w.heap[0]?) (h1 : w'.heap[1]? = w.heap[1]?) : Tab w' := by
  have key : ∀ (g c : Nat), w'.heap[g]? = w.heap[g]? → w'.cell? ⟨g, c, none⟩ = w.cell? ⟨g, c, none⟩ := fun g c e => by simp only [World.cell?, e]
  exact ⟨fun c hc => (key 0 c h0).trans (h.1 c hc), fun i hi => ⟨(key 1 _ h1).trans (h.2 i hi).1, (key 1 _ h1).trans (h.2 i hi).2⟩⟩
theorem Tab.size {w : World} (h : Tab w) : 2 ≤ w.heap.size := by
  have := World.block_lt_of_cell? w _ (h.2 0 (by omega)).1
  exact this
theorem Tab.below {w w' : World} {n : Nat} (h : Tab w) (hb : Below n w w') (hn : 2 ≤ n) : Tab w' := h.keep (hb.block 0 (by omega)) (hb.block 1 (by omega))
theorem Tab.bel {w w' : World} (h : Tab w) (hb : Below w.heap.size w w') : Tab w' := h.below hb h.size
theorem Tab.touch {w w' : World} {F : Nat → Prop} (h : Tab w) (ht : Touch F w w') (h0 : ¬ F 0) (h1 : ¬ F 1) : Tab w' := h.keep (ht.block 0 (by have := h.size; omega) h0) (ht.block 1 (by have := h.size; omega) h1)
theorem Tab.alloc {w : World} (h : Tab w) (o : Obj) : Tab (w.alloc o) := h.bel (balloc (Below.refl _ w) o)
/-- a string's bytes -/
def bys (s : ByteArray) : List UInt8 := s.data.toList
theorem bys_size (s : ByteArray) : (bys s).length = s.size := Array.length_toList
theorem bys_inj {s t : ByteArray} (h : bys s = bys t) : s = t := WideShapes.bytes_inj h
theorem bys_extract (s : ByteArray) (a b : Nat) (hb : b ≤ s.size) : bys (s.extract a b) = ((bys s).take b).drop a := by
  unfold bys
  rw [ByteArray.data_extract, Array.toList_extract]
  apply List.ext_getElem?
  intro i
  simp only [List.extract_eq_take_drop, List.getElem?_take, List.getElem?_drop]
  by_cases h : a + i < b
  · rw [if_pos (by omega), if_pos h]
  · rw [if_neg (by omega), if_neg h]
theorem bys_from (s : ByteArray) (a : Nat) : bys (s.extract a s.size) = (bys s).drop a := by
  rw [bys_extract s a s.size (Nat.le_refl _), List.take_of_length_le (by rw [bys_size]; exact Nat.le_refl _)]
/-- what is left of bytes when k runes are read -/
def restR (l : List UInt8) : Nat → List UInt8
  | 0 => l
  | k + 1 => (restR l k).drop (decodeL (restR l k)).2
/-- how many runes there are -/
def cntF : Nat → List UInt8 → Nat
  | 0, _ => 0
  | n + 1, l => if l = [] then 0 else 1 + cntF n (l.drop (decodeL l).2)
def cntR (l : List UInt8) : Nat := cntF l.length l
def runeAt (l : List UInt8) (k : Nat) : Int := ((decodeL (restR l k)).1 : Int)
def badAt (l : List UInt8) (k : Nat) : Bool := decide ((decodeL (restR l k)).1 = 65533 ∧ (decodeL (restR l k)).2 = 1)
theorem cntF_more : ∀ (n m : Nat) (l : List UInt8), l.length ≤ n → l.length ≤ m → cntF n l = cntF m l
  | 0, m, l, h, _ => by
    obtain rfl : l = [] := List.eq_nil_of_length_eq_zero (by omega)
    cases m <;> simp [cntF]
  | n + 1, 0, l, _, h => by
    obtain rfl : l = [] := List.eq_nil_of_length_eq_zero (by omega)
    simp [cntF]
  | n + 1, m + 1, l, h, h' => by
    unfold cntF
    by_cases hl : l = []
    · rw [if_pos hl, if_pos hl]
    · rw [if_neg hl, if_neg hl]
      have hw := decodeL_width l
      have hp : 0 < l.length := List.length_pos_iff.2 hl
      rw [cntF_more n m _ (by rw [List.length_drop]; omega) (by rw [List.length_drop]; omega)]
theorem cntR_nil : cntR [] = 0 := rfl
theorem cntR_step {l : List UInt8} (h : l ≠ []) : cntR l = 1 + cntR (l.drop (decodeL l).2) := by
  have hp : 0 < l.length := List.length_pos_iff.2 h
  have hw := decodeL_width l
  obtain ⟨n, hn⟩ : ∃ n, l.length = n + 1 := ⟨l.length - 1, by omega⟩
  unfold cntR
  rw [hn, cntF, if_neg h, cntF_more n (l.drop (decodeL l).2).length _ (by rw [List.length_drop]; omega) (Nat.le_refl _)]
theorem restR_add (l : List UInt8) (j : Nat) : ∀ k, restR l (j + k) = restR (restR l j) k
  | 0 => rfl
  | k + 1 => by
    have h := restR_add l j k
    show (restR l (j + k)).drop (decodeL (restR l (j + k))).2 = (restR (restR l j) k).drop (decodeL (restR (restR l j) k)).2
    rw [h]
theorem restR_succ (l : List UInt8) (k : Nat) : restR l (k + 1) = restR (l.drop (decodeL l).2) k := by rw [Nat.add_comm, restR_add]; rfl
theorem restR_nil : ∀ k, restR [] k = []
  | 0 => rfl
  | k + 1 => by rw [restR, restR_nil k]; rfl
theorem restR_cnt : ∀ (n : Nat) (l : List UInt8) (k : Nat), l.length ≤ n → (restR l k ≠ [] ↔ k < cntR l)
  | 0, l, k, h => by
    obtain rfl : l = [] := List.eq_nil_of_length_eq_zero (by omega)
    simp [restR_nil, cntR_nil]
  | n + 1, l, k, h => by
    by_cases hl : l = []
    · subst hl
      simp [restR_nil, cntR_nil]
    · rw [cntR_step hl]
      cases k with
      | zero => simp [restR, hl]; omega
      | succ k =>
        have hp : 0 < l.length := List.length_pos_iff.2 hl
        have hw := decodeL_width l
        rw [restR_succ, restR_cnt n _ k (by rw [List.length_drop]; omega)]
        omega
theorem restR_ne {l : List UInt8} {k : Nat} : restR l k ≠ [] ↔ k < cntR l := restR_cnt l.length l k (Nat.le_refl _)
theorem restR_length (l : List UInt8) : ∀ k, (restR l k).length ≤ l.length
  | 0 => Nat.le_refl _
  | k + 1 => by rw [restR, List.length_drop]; have := restR_length l k; omega
theorem cntR_le : ∀ (n : Nat) (l : List UInt8), l.length ≤ n → cntR l ≤ l.length
  | 0, l, h => by
    obtain rfl : l = [] := List.eq_nil_of_length_eq_zero (by omega)
    exact Nat.le_refl _
  | n + 1, l, h => by
    by_cases hl : l = []
    · subst hl; exact Nat.le_refl _
    · have hp : 0 < l.length := List.length_pos_iff.2 hl
      have hw := decodeL_width l
      have := cntR_le n (l.drop (decodeL l).2) (by rw [List.length_drop]; omega)
      rw [cntR_step hl]
      rw [List.length_drop] at this
      omega
theorem cntR_len (l : List UInt8) : cntR l ≤ l.length := cntR_le l.length l (Nat.le_refl _)
/-- the first k runes -/
def runesTo (l : List UInt8) (k : Nat) : List Int := (List.range k).map (runeAt l)
theorem runesTo_succ (l : List UInt8) (k : Nat) : runesTo l (k + 1) = runesTo l k ++ [runeAt l k] := by simp [runesTo, List.range_succ]
theorem runesTo_length (l : List UInt8) (k : Nat) : (runesTo l k).length = k := by simp [runesTo]
/-- all of a text's runes -/
def runesOf (l : List UInt8) : List Int := runesTo l (cntR l)
/-- a text that is no UTF-8 has a bad rune -/
def okText (l : List UInt8) : Prop := ∀ k, k < cntR l → badAt l k = false
theorem runeAt_le (l : List UInt8) (k : Nat) : 0 ≤ runeAt l k ∧ runeAt l k ≤ 1114111 := by
  have := decodeL_rune (restR l k)
  unfold runeAt
  omega
end Go.Proofs.YteigplfldhdakaaGreatDoor
/- Runes: the iterator over a text's runes; Decode; Token. -/
namespace Go.Proofs.YteigplfldhdakaaGreatDoor
open Go.RowKit Go.Shelf
attribute [local go_sem] Oper.semAt_some
/-- how long the string in box b is -/
def boxS (w : World) (b : Nat) : Nat := match w.cell? ⟨b, 0, none⟩ with
  | some (.string s) => s.size
  | _ => 0
theorem boxS_of {w : World} {b : Nat} {t : TypeId} {s : ByteArray} (h : w.heap[b]? = some (.cells #[.string s] t (0, 0))) : boxS w b = s.size := by
  unfold boxS
  rw [cell_of_row w b 0 _ _ _ h]
  rfl
/-- what runes.all hands on -/
def runeArgs (l : List UInt8) (k : Nat) : Array Value := #[.int .i32 (runeAt l k), .bool (!badAt l k)]
theorem decodeGo_rest {t : ByteArray} {l : List UInt8} {k : Nat} (h : bys t = restR l k) (h0 : t.size ≠ 0) : ((Lib.decodeGo t).1 : Int) = runeAt l k ∧ (Lib.decodeGo t).2 = (Lib.decodeL (restR l k)).2 := by
  have h1 : Lib.decodeGo t = Lib.decodeL (restR l k) := by
    rw [← h, Lib.decodeGo, if_neg h0, bys, ← Lib.decodeL_drop]
    rfl
  rw [h1]
  exact ⟨rfl, rfl⟩
set_option maxRecDepth 100000 in
set_option maxHeartbeats 2000000 in
theorem all1_in (n : Nat) (hn : 1 ≤ n) (lp Bn : Nat) (hB2 : 2 ≤ Bn) (s0 : ByteArray) (J Jx : Nat → World → Prop)
    (hJ : ∀ k A B, J k A → Touch (fun j => j = Bn) A B → J k B) (hJx : ∀ k A B, Jx k A → Touch (fun j => j = Bn) A B → Jx k B)
    (W : World) (hT : Tab W)
    (hY : ∀ k W1, k < cntR (bys s0) → J k W1 → YieldAt Fence.wide (n - 1) Tryz.prog lp (runeArgs (bys s0) k) W1 fun e W' =>
      (e = .returned (.bool true) ∧ J (k + 1) W' ∧ Keep (fun j => j = Bn ∨ j < 2) W1 W') ∨ (e = .returned (.bool false) ∧ Jx (k + 1) W'))
    (hBn : W.heap[Bn]? = some (.cells #[.string s0] 9 (0, 0))) (h0 : J 0 W) :
    CallsIn Fence.wide n Tryz.prog 198 #[.func (.yield lp) #[] #[], .pointer (some ⟨Bn, 0, none⟩)] W fun e W' => (∃ v, e = .returned v) ∧ (J (cntR (bys s0)) W' ∨ ∃ k, k < cntR (bys s0) ∧ Jx (k + 1) W') := by
  have HBn := hid hBn
  have HT := hid hT
  clear hBn hT
  refine callsIn_of_wp Tryz.func198 rfl trivial ?_ rfl
  simp only [Tryz.ntmps198, List.size_toArray, List.length_cons, List.length_nil, Nat.reduceAdd, Nat.reduceSub, Array.replicate_succ, Array.replicate_zero, List.push_toArray, List.append_toArray, List.nil_append, List.cons_append]
  gi_wp2
  gi_loopw [] (fun wr => ∃ (k : Nat) (t : ByteArray), Hid (wr.heap[Bn]? = some (.cells #[.string t] 9 (0, 0))) ∧ Hid (bys t = restR (bys s0) k) ∧ J k wr ∧ Hid (Tab wr) ∧ k ≤ cntR (bys s0)) (fun wr => boxS wr Bn)
  case atStart => exact ⟨0, s0, HBn, hid rfl, h0, HT, Nat.zero_le _⟩
  case round =>
    obtain ⟨k, t, HB, HE, hJk, HTr, hk⟩ := hrel
    clear HBn HT h0
    have hc : wr.cell? ⟨Bn, 0, none⟩ = some (.string t) := by rw [cell_of_row wr Bn 0 _ _ _ HB.out]; rfl
    have hf := frozen_of_row wr Bn 0 _ _ HB.out
    by_cases hz : t.size = 0
    · have hkm : k = cntR (bys s0) := by
        have h1 : ¬ k < cntR (bys s0) := fun h => restR_ne.2 h (by rw [← HE.out]; exact List.eq_nil_of_length_eq_zero (by rw [bys_size]; exact hz))
        omega
      have hz0 : ¬ (0 < (t.size : Int)) := by omega
      gi_wp2
      go_end0
      exact ⟨⟨_, rfl⟩, .inl (hkm ▸ hJk)⟩
    · obtain ⟨hd1, hd2⟩ := decodeGo_rest HE.out hz
      have hkm : k < cntR (bys s0) := restR_ne.1 (by rw [← HE.out]; intro h; exact hz (by rw [← bys_size, h]; rfl))
      have hw1 := Lib.decodeL_width (restR (bys s0) k)
      obtain ⟨dw, hdw⟩ : ∃ dw, (Lib.decodeL (restR (bys s0) k)).2 = dw := ⟨_, rfl⟩
      obtain ⟨r, hr⟩ : ∃ r, runeAt (bys s0) k = r := ⟨_, rfl⟩
      have hbad : badAt (bys s0) k = decide (r = 65533 ∧ dw = 1) := by
        rw [badAt, ← hr, ← hdw, runeAt]
        congr 1
        simp only [eq_iff_iff]
        omega
      have hya := hY k
      rw [runeArgs, hr, hbad] at hya
      have HYA := hid hya
      rw [hdw] at hw1
      have hwle : dw ≤ t.size := by
        rw [← hdw, ← bys_size, HE.out]
        exact Lib.decodeL_le _ (restR_ne.2 hkm)
      rw [hr] at hd1
      rw [hdw] at hd2
      have HDW := hid hdw
      have hw1' : (1 : Int) ≤ (dw : Int) := by omega
      obtain ⟨fl, hfl, hc3⟩ : ∃ fl, (!decide (r = 65533 ∧ dw = 1)) = fl ∧ ((fl = true ∧ (r != 65533) = true) ∨ (fl = false ∧ r = 65533 ∧ decide (1 < (dw : Int)) = false) ∨ (fl = true ∧ r = 65533 ∧ 1 < (dw : Int))) := by
        refine ⟨_, rfl, ?_⟩
        by_cases hr1 : r = 65533
        · by_cases hd : dw = 1
          · right; left; exact ⟨by simp [hr1, hd], hr1, by rw [hd]; rfl⟩
          · right; right; exact ⟨by simp [hd], hr1, by omega⟩
        · left; exact ⟨by simp [hr1], by rw [bne_iff_ne]; exact hr1⟩
      rw [hfl] at hya
      have HYA := hid hya
      have hwi : (dw : Int) ≤ (t.size : Int) := by omega
      have hBf : ∀ (W3 : World), Hid (W3.heap[Bn]? = some (.cells #[.string t] 9 (0, 0))) → W3.cell? ⟨Bn, 0, none⟩ = some (.string t) ∧ W3.frozen? ⟨Bn, 0, none⟩ = false := fun W3 h => ⟨by rw [cell_of_row W3 Bn 0 _ _ _ h.out]; rfl, frozen_of_row W3 Bn 0 _ _ h.out⟩
      clear hya hdw hr hbad hY hfl
      rcases hc3 with ⟨rfl, hrb⟩ | ⟨rfl, rfl, hdg⟩ | ⟨rfl, rfl, hdg⟩
      all_goals
        gi_wp2_with (refine ⟨trivial, ?_⟩; gi_at_call 199; refine (callsIn_wide.2 (Tryz.utf8_DecodeRuneInString t wr HTr.out)).mono ?_; rintro e w1 ⟨rfl, hb1⟩; rw [hd1, hd2]; have hJ1 := hJ k _ _ hJk (Touch.of_below (n := wr.heap.size) hb1 (Nat.le_refl _) |>.mono (fun _ h => h.elim)); obtain ⟨fn, tmps, assign, body, hy, hR⟩ := HYA.out w1 hkm hJ1; have HB2 := hid ((hb1.block Bn (blk_lt HB.out)).trans HB.out); obtain ⟨hc1, hf1⟩ := hBf w1 HB2; have HT1 := hid (HTr.out.bel hb1); clear hb1)
        refine hR.mono ?_
        rintro e W3 (⟨rfl, hJ3, hk3⟩ | ⟨rfl, hJx3⟩)
        · have HB3 := hid ((hk3.block Bn (.inl rfl)).trans HB2.out)
          obtain ⟨hc3, hf3⟩ := hBf W3 HB3
          have HT3 := hid (HT1.out.keep (hk3.block 0 (.inr (by omega))) (hk3.block 1 (.inr (by omega))))
          clear hy hR hk3 HYA
          gi_wp2
          have hst : (W3.setCell ⟨Bn, 0, none⟩ (.string (t.extract dw t.size))).heap[Bn]? = some (.cells #[.string (t.extract dw t.size)] 9 (0, 0)) := heap_setCell_same _ Bn 0 _ _ _ HB3.out
          have hTo : Touch (fun j => j = Bn) W3 (W3.setCell ⟨Bn, 0, none⟩ (.string (t.extract dw t.size))) := Touch.setCell (F := fun j => j = Bn) (p := ⟨Bn, 0, none⟩) (Touch.refl _ W3) (.inl rfl) _
          refine ⟨⟨k + 1, _, hid hst, hid ?_, hJ _ _ _ hJ3 hTo, hid (HT3.out.touch hTo (by omega) (by omega)), by omega⟩, ?_⟩
          · rw [bys_from, HE.out, restR, HDW.out]
          · rw [boxS_of hst, boxS_of HB.out, ← bys_size, bys_from, List.length_drop, bys_size]
            omega
        · clear hy hR HYA
          gi_wp2
          refine bodyPost_ret (results_none rfl _ _ _) rfl ?_
          exact ⟨⟨_, rfl⟩, .inr ⟨k, hkm, hJx3⟩⟩
theorem all_seq (n : Nat) (hn : 1 ≤ n) (Bn : Nat) (hB2 : 2 ≤ Bn) (s0 : ByteArray) (w : World) (hT : Tab w) (hBn : w.heap[Bn]? = some (.cells #[.string s0] 9 (0, 0))) :
    SeqL Fence.wide n Tryz.prog 198 #[.pointer (some ⟨Bn, 0, none⟩)] (runeArgs (bys s0)) (cntR (bys s0)) (fun _ k => k = Bn ∨ k < 2) (fun _ k => k = Bn) w := fun l J Jx W hW hJ hJx hY h0 =>
  all1_in n hn l Bn hB2 s0 J Jx hJ hJx W (hT.bel hW) hY ((hW.block Bn (blk_lt hBn)).trans hBn) h0
set_option maxRecDepth 100000 in
set_option maxHeartbeats 1000000 in
/-- runes.all(s): s is boxed; the function value captures the box -/
theorem all_c (s : ByteArray) (w : World) : Calls Tryz.prog 164 #[.string s] w fun e w' => e = .returned (.func (.func 198) #[] #[.pointer (some ⟨w.heap.size, 0, none⟩)]) ∧ w' = w.alloc (.cells #[.string s] 9) := by
  go_enter Tryz.func164, Tryz.ntmps164
  go_wp2
  go_ret
  exact ⟨rfl, rfl⟩
def i32 (xs : List Int) : List Value := xs.map fun x => .int .i32 x
theorem i32_length (xs : List Int) : (i32 xs).length = xs.length := by simp [i32]
theorem info21 : (Tryz.prog.info? 21).map (fun i => (i.zero, i.size, i.bytes)) = some (some (.int .i32 0), 1, 4) := by kernel_rfl
/-- v is a slice of runes: these -/
def RS (w : World) (v : Value) (xs : List Int) : Prop := SL w 21 1 v xs.length (i32 xs)
/-- what Decode holds after k runes: the boxes B, B + 1 -/
def DecI (w : World) (l : List UInt8) (k : Nat) (W : World) : Prop :=
  (∃ A c, W.heap[w.heap.size]? = some (.cells #[.slice A k c] 153 (0, 0)) ∧ RS W (.slice A k c) (runesTo l k) ∧ (∀ b, (Value.slice A k c).ownBlock = some b → w.heap.size + 3 ≤ b)) ∧
  W.heap[w.heap.size + 1]? = some (.cells #[.int .i64 0] 25 (0, 0)) ∧ (∀ j, j < k → badAt l j = false) ∧ Below w.heap.size w W
def DecX (w : World) (l : List UInt8) (c : Code) (k : Nat) (W : World) : Prop :=
  c = .ret ∧ W.heap[w.heap.size]? = some (.cells #[.slice none 0 0] 153 (0, 0)) ∧ W.heap[w.heap.size + 1]? = some (.cells #[.int .i64 3] 25 (0, 0)) ∧ (∃ j, j < cntR l ∧ badAt l j = true) ∧ Below w.heap.size w W
/-- what Decode hands back -/
def DecP (s : ByteArray) (w : World) (e : Ending) (w' : World) : Prop :=
  Below w.heap.size w w' ∧ ((¬ okText (bys s) ∧ e = .returned (.tuple #[.slice none 0 0, .int .i64 3])) ∨
    (okText (bys s) ∧ ∃ A c, e = .returned (.tuple #[.slice A (cntR (bys s)) c, .int .i64 0]) ∧ RS w' (.slice A (cntR (bys s)) c) (runesOf (bys s)) ∧ ∀ b, (Value.slice A (cntR (bys s)) c).ownBlock = some b → w.heap.size ≤ b))
theorem load153 {W : World} {g : Nat} {v : Value} (hg : W.heap[g]? = some (.cells #[v] 153 (0, 0))) : (loadVar 153 ⟨g, 0, none⟩).run Tryz.prog W = .ok v W := by
  have hc := (box_cell hg).1
  have hu := Tryz.underlying153
  go_simp
theorem load25 {W : World} {g : Nat} {v : Value} (hg : W.heap[g]? = some (.cells #[v] 25 (0, 0))) : (loadVar 25 ⟨g, 0, none⟩).run Tryz.prog W = .ok v W := by
  have hc := (box_cell hg).1
  have hu := Tryz.underlying25
  go_simp
set_option maxRecDepth 100000 in
set_option maxHeartbeats 2000000 in
theorem decode_c (s : ByteArray) (hs : s.size ≤ 1048576) (w : World) (hT : Tab w) : Calls Tryz.prog 112 #[.string s] w (DecP s w) := by
  refine (callsIn_wide (n := 6)).1 ?_
  refine callsIn_of_wp_marks Tryz.func112 rfl trivial ?_ rfl
  simp only [Tryz.ntmps112, List.size_toArray, List.length_cons, List.length_nil, Nat.reduceAdd, Nat.reduceSub, Array.replicate_succ, Array.replicate_zero, List.push_toArray, List.append_toArray, List.nil_append, List.cons_append]
  have hT2 := hT.size
  gi_wp2_with (refine ⟨trivial, ?_⟩; gi_at_call 164; refine (callsIn_wide.2 (all_c s _)).mono ?_; rintro e w1 ⟨rfl, rfl⟩)
  obtain ⟨w3, hw3⟩ : ∃ w3, ((w.alloc (Obj.cells #[Value.slice none 0 0] 153)).alloc (Obj.cells #[Value.int IntKind.i64 0] 25)).alloc (Obj.cells #[Value.string s] 9) = w3 := ⟨_, rfl⟩
  have hb3 : Below w.heap.size w w3 := by rw [← hw3]; exact balloc (balloc (balloc (Below.refl _ w) _) _) _
  have hsz3 : w3.heap.size = w.heap.size + 3 := by rw [← hw3]; simp
  have h0c : w3.heap[w.heap.size]? = some (.cells #[.slice none 0 0] 153 (0, 0)) := by rw [← hw3]; exact al3_0 _ _ _ _
  have h1c : w3.heap[w.heap.size + 1]? = some (.cells #[.int .i64 0] 25 (0, 0)) := by rw [← hw3]; exact al3_1 _ _ _ _
  have h2c : w3.heap[w.heap.size + 2]? = some (.cells #[.string s] 9 (0, 0)) := by rw [← hw3]; exact al3_2 _ _ _ _
  rw [hw3]
  have hcn := cntR_len (bys s)
  rw [bys_size] at hcn
  refine wpIn_rangeL rfl (by omega) (gf := 198) (lb := #[.pointer (some ⟨w.heap.size + 2, 0, none⟩)]) rfl trivial (enters_of Tryz.func198 (by kernel_rfl) rfl)
    (all_seq 5 (by omega) (w.heap.size + 2) (by omega) s w3 (hT.bel hb3) h2c) (Below.refl _ _) (fun _ => rfl) (fun k hk => by omega) (fun k hk => by omega)
    (DecI w (bys s)) (DecX w (bys s)) ?hI ?hIx ?h0 ?round ?done ?stop
  case hI =>
    rintro k A B ⟨⟨A1, c1, h1, h2, h3⟩, h4, h5, h6⟩ hcs
    exact ⟨⟨A1, c1, hcs.cells h1 (by omega), SL.cs h2 hcs (fun b hb e => by have := h3 b hb; omega), h3⟩, hcs.cells h4 (by omega), h5, hcs.below h6 (by omega) (fun b hb => by omega)⟩
  case hIx =>
    rintro c k A B ⟨h0, h1, h2, h3, h4⟩ hcs
    exact ⟨h0, hcs.cells h1 (by omega), hcs.cells h2 (by omega), h3, hcs.below h4 (by omega) (fun b hb => by omega)⟩
  case h0 => exact ⟨⟨none, 0, h0c, SL.nil _ _ _, fun b hb => by simp [Value.ownBlock] at hb⟩, h1c, fun j hj => by omega, hb3⟩
  case round =>
    intro l k W hk
    unfold runeArgs
    apply Exists.intro
    refine ⟨fun K hK => ?_, ?_⟩
    · gi_wp2
      exact hK
    · rintro W' ⟨⟨A1, c1, h1, h2, h3⟩, h4, h5, h6⟩ hsz hn1 hn2
      have e0 : W'.cell? ⟨w.heap.size, 0, none⟩ = some (.slice A1 k c1) := by rw [cell_of_row W' _ 0 _ _ _ h1]; rfl
      have f0 := frozen_of_row W' w.heap.size 0 _ _ h1
      have e1 : W'.cell? ⟨w.heap.size + 1, 0, none⟩ = some (.int .i64 0) := by rw [cell_of_row W' _ 0 _ _ _ h4]; rfl
      have f1 := frozen_of_row W' (w.heap.size + 1) 0 _ _ h4
      have H1 := hid h1
      have H2 := hid h2
      have H3 := hid h3
      have H4 := hid h4
      have H5 := hid h5
      have H6 := hid h6
      clear h1 h2 h3 h4 h5 h6
      cases hb : badAt (bys s) k
      · obtain ⟨i0, hi, hz0, hz1, hz2⟩ := info_parts info21
        have HSL : Hid (SL (W'.alloc (.cells #[.int .i32 (runeAt (bys s) k)] 21)) 21 1 (.slice A1 k c1) k (i32 (runesTo (bys s) k))) := hid (by have := H2.out; rw [RS, runesTo_length] at this; exact this.alloc _)
        have HL := hid (SL.lit W' 21 1 1 #[.int .i32 (runeAt (bys s) k)] rfl (by simp [maxLen]))
        have hone : ∀ u ∈ [Value.int .i32 (runeAt (bys s) k)], u.oneCell' = true := by simp [Value.oneCell']
        have h63 : k + 1 ≤ maxLen := by simp only [maxLen]; omega
        have hby : (k + 1) * 4 ≤ 140737488355328 := by omega
        gi_wp2_with (gi_at_builtin; refine wpListIn_append_SLs rfl _ _ _ rfl 21 i0 _ 1 4 Tryz.underlying153 hi hz0 hz1 hz2 rfl Nat.one_pos (.slice A1 k c1) k (i32 (runesTo (bys s) k)) rfl HSL.out _ 1 [.int .i32 (runeAt (bys s) k)] rfl HL.out hone (k + 1) _ rfl rfl h63 hby ?_; intro A2 c2 w2 hs2 hg2 ho2; obtain ⟨g1, g2, g3, g4⟩ := col_step H1.out (by decide) (by have := H2.out; rw [RS, runesTo_length] at this; exact this) _ hg2 hs2 ho2; have hv2 : w2.heap[w.heap.size]? = some (.cells #[.slice A1 k c1] 153 (0, 0)) := (hg2.block _ (by have := blk_lt H1.out; rw [World.size_alloc]; omega) (fun h => by have := H3.out _ h.symm; omega)).trans (alloc_keep H1.out _); obtain ⟨e2, f2⟩ := box_cell hv2; have G1 := hid g1; have G2 := hid g2; have G3 := hid g3; have G4 := hid g4; clear hs2 hg2 ho2 g1 g2 g3 g4 hv2)
        have hob : ∀ D, NC W' D → D ≠ w.heap.size → ¬ (D = w.heap.size ∨ (Value.slice A1 k c1).ownBlock = some D) := fun D hD hne h => by
          rcases h with h | h
          · exact hne h
          · obtain ⟨cur, hc⟩ := SL.typed H2.out D h
            exact hD.ne hc rfl
        refine ⟨RK.of_touch G3.out (by omega) (hob _ (by rw [← hsz3]; exact hn1) (by omega)) (hob _ (by rw [← hsz3]; exact hn2) (by omega)), Keep.of_touch G3.out (fun b hb2 => ⟨by omega, fun h => ?_⟩), ⟨A2, c2, G1.out, ?_, fun b hb2 => ?_⟩, ?_, fun j hj => ?_, G3.out.below H6.out (fun b h => ?_)⟩
        · rcases h with h | h
          · omega
          · have := H3.out b h; omega
        · rw [RS, runesTo_succ, List.length_append, runesTo_length]
          have := G2.out
          rw [show i32 (runesTo (bys s) k ++ [runeAt (bys s) k]) = i32 (runesTo (bys s) k) ++ [Value.int IntKind.i32 (runeAt (bys s) k)] by simp [i32]]
          exact this
        · rcases G4.out b hb2 with h | h
          · exact H3.out b h
          · omega
        · exact (G3.out.block _ (blk_lt H4.out) (fun h => by
            rcases h with h | h
            · omega
            · have := H3.out _ h; omega)).trans H4.out
        · by_cases hjk : j = k
          · rw [hjk]; exact hb
          · exact H5.out j (by omega)
        · rcases h with h | h
          · omega
          · have := H3.out b h; omega
      · gi_wp2
        have hto := Touch.setCell (F := fun b => b = w.heap.size ∨ b = w.heap.size + 1) (p := ⟨w.heap.size + 1, 0, none⟩) (Touch.setCell (p := ⟨w.heap.size, 0, none⟩) (Touch.refl _ W') (.inl (.inl rfl)) (.slice none 0 0)) (.inl (.inr rfl)) (.int .i64 3)
        refine ⟨RK.of_touch hto (by omega) (by omega) (by omega), rfl, ?_, ?_, ⟨k, hk, hb⟩, hto.below H6.out (by omega)⟩
        · exact set_other (box_set H1.out _) (by omega) _ _
        · exact box_set (set_other H4.out (by omega) _ _) _
  case done =>
    rintro D W hD ⟨⟨A1, c1, h1, h2, h3⟩, h4, h5, h6⟩ hK
    obtain ⟨e0, f0⟩ := box_cell h1
    obtain ⟨e1, f1⟩ := box_cell h4
    have H1 := hid h1
    have H2 := hid h2
    have H3 := hid h3
    have H4 := hid h4
    have H5 := hid h5
    have H6 := hid h6
    clear h1 h2 h3 h4 h5 h6
    gi_wp2
    obtain ⟨X, hX⟩ : ∃ X, (W.setCell ⟨w.heap.size, 0, none⟩ (.slice A1 (cntR (bys s)) c1)).setCell ⟨w.heap.size + 1, 0, none⟩ (.int .i64 0) = X := ⟨_, rfl⟩
    have hto := Touch.setCell (F := fun b => b = w.heap.size ∨ b = w.heap.size + 1) (p := ⟨w.heap.size + 1, 0, none⟩) (Touch.setCell (p := ⟨w.heap.size, 0, none⟩) (Touch.refl _ W) (.inl (.inl rfl)) (.slice A1 (cntR (bys s)) c1)) (.inl (.inr rfl)) (.int .i64 0)
    have hK' : X.heap[D]? = some (Obj.deferred (some [])) := by rw [← hX]; exact set_other (set_other hK (by omega) _ _) (by omega) _ _
    have g0 : X.heap[w.heap.size]? = some (.cells #[.slice A1 (cntR (bys s)) c1] 153 (0, 0)) := by rw [← hX]; exact set_other (box_set H1.out _) (by omega) _ _
    have g1 : X.heap[w.heap.size + 1]? = some (.cells #[.int .i64 0] 25 (0, 0)) := by rw [← hX]; exact box_set (set_other H4.out (by omega) _ _) _
    rw [hX] at hto ⊢
    have hs2 := SL.touch H2.out hto (fun b hb h => by have := H3.out b hb; omega)
    refine ⟨by simp, .inl ⟨_, _, rfl, run_takeDeferred hK', ?_⟩⟩
    refine ⟨_, results_cell2 (fn := Tryz.f112) rfl _ _ w.heap.size (w.heap.size + 1) _ (.int .i64 0) rfl rfl (load153 (put_other g0 (by omega))) (load25 (put_other g1 (by omega))), ?_⟩
    exact ⟨fin_below (hto.below H6.out (by omega)) (by omega), .inr ⟨H5.out, A1, c1, rfl, fin_SL hs2 hK' rfl, fun b hb => by have := H3.out b hb; omega⟩⟩
  case stop =>
    rintro D c k W hD hk ⟨rfl, h1, h2, ⟨j, hj, hbad⟩, h4⟩ hK
    gi_wp2
    refine ⟨by simp, .inl ⟨_, _, rfl, run_takeDeferred hK, ?_⟩⟩
    refine ⟨_, results_cell2 (fn := Tryz.f112) rfl _ _ w.heap.size (w.heap.size + 1) (.slice none 0 0) (.int .i64 3) rfl rfl (load153 (put_other h1 (by omega))) (load25 (put_other h2 (by omega))), ?_⟩
    exact ⟨fin_below h4 (by omega), .inl ⟨fun h => (by have := h j hj; rw [hbad] at this; cases this), rfl⟩⟩
/-- the error of a token -/
def tokE (l : List UInt8) : Int := if cntR l = 0 then 4 else if 64 < cntR l then 5 else 0
open Classical in
/-- the error of a text as a token -/
noncomputable def tokErr (l : List UInt8) : Int := if okText l then tokE l else 3
/-- what Token hands back -/
def TokP (s : ByteArray) (w : World) (e : Ending) (w' : World) : Prop :=
  Below w.heap.size w w' ∧ ((tokErr (bys s) ≠ 0 ∧ e = .returned (.tuple #[.slice none 0 0, .int .i64 (tokErr (bys s))])) ∨
    (tokErr (bys s) = 0 ∧ okText (bys s) ∧ 0 < cntR (bys s) ∧ cntR (bys s) ≤ 64 ∧ ∃ A c, e = .returned (.tuple #[.slice A (cntR (bys s)) c, .int .i64 0]) ∧ RS w' (.slice A (cntR (bys s)) c) (runesOf (bys s)) ∧ ∀ b, (Value.slice A (cntR (bys s)) c).ownBlock = some b → w.heap.size ≤ b))
set_option maxRecDepth 100000 in
set_option maxHeartbeats 2000000 in
theorem token_c (s : ByteArray) (hs : s.size ≤ 1048576) (w : World) (hT : Tab w) : Calls Tryz.prog 118 #[.string s] w (TokP s w) := by
  have hdec := decode_c s hs w hT
  have hcl := cntR_len (bys s)
  by_cases hok : okText (bys s)
  · have hdec2 : Calls Tryz.prog 112 #[.string s] w fun e w' => Below w.heap.size w w' ∧ ∃ A c, e = .returned (.tuple #[.slice A (cntR (bys s)) c, .int .i64 0]) ∧ RS w' (.slice A (cntR (bys s)) c) (runesOf (bys s)) ∧ ∀ b, (Value.slice A (cntR (bys s)) c).ownBlock = some b → w.heap.size ≤ b := hdec.mono fun e w' ⟨h1, h2⟩ => by
      rcases h2 with ⟨h2, _⟩ | ⟨_, h2⟩
      · exact absurd hok h2
      · exact ⟨h1, h2⟩
    have hte : tokErr (bys s) = tokE (bys s) := by rw [tokErr, if_pos hok]
    have HOK := hid hok
    rw [tokE] at hte
    clear hdec hok
    obtain ⟨m, hm⟩ : ∃ m, cntR (bys s) = m := ⟨_, rfl⟩
    have HM := hid hm
    rw [hm] at hdec2 hcl hte
    clear hm
    by_cases h0 : m = 0
    · subst h0
      have HE : Hid (tokErr (bys s) = 4) := hid (by rw [hte]; rfl)
      clear hte
      go_enter Tryz.func118, Tryz.ntmps118
      go_wp2_with (go_at_call 112; refine hdec2.mono ?_; rintro e w1 ⟨hb1, A, c, rfl, hr, ho⟩; have HB1 := hid hb1; clear hb1)
      go_ret2
      exact ⟨HB1.out, .inl ⟨by rw [HE.out]; decide, by rw [HE.out]; rfl⟩⟩
    · by_cases h64 : 64 < m
      · have hm0 : ((m : Int) == 0) = false := by simp; omega
        have hm1 : (64 : Int) < (m : Int) := by omega
        have HE : Hid (tokErr (bys s) = 5) := hid (by rw [hte, if_neg h0, if_pos h64])
        clear hte
        go_enter Tryz.func118, Tryz.ntmps118
        go_wp2_with (go_at_call 112; refine hdec2.mono ?_; rintro e w1 ⟨hb1, A, c, rfl, hr, ho⟩; have HB1 := hid hb1; clear hb1)
        go_ret2
        exact ⟨HB1.out, .inl ⟨by rw [HE.out]; decide, by rw [HE.out]; rfl⟩⟩
      · have hm0 : ((m : Int) == 0) = false := by simp; omega
        have hm1 : ¬ (64 : Int) < (m : Int) := by omega
        have HE : Hid (tokErr (bys s) = 0) := hid (by rw [hte, if_neg h0, if_neg h64])
        clear hte
        go_enter Tryz.func118, Tryz.ntmps118
        go_wp2_with (go_at_call 112; refine hdec2.mono ?_; rintro e w1 ⟨hb1, A, c, rfl, hr, ho⟩; have HB1 := hid hb1; have HR := hid hr; have HO := hid ho; clear hb1 hr ho)
        go_ret2
        have hm := HM.out
        subst hm
        exact ⟨HB1.out, .inr ⟨HE.out, HOK.out, by omega, by omega, A, c, rfl, HR.out, HO.out⟩⟩
  · have hdec2 : Calls Tryz.prog 112 #[.string s] w fun e w' => Below w.heap.size w w' ∧ e = .returned (.tuple #[.slice none 0 0, .int .i64 3]) := hdec.mono fun e w' ⟨h1, h2⟩ => by
      rcases h2 with ⟨_, h2⟩ | ⟨h2, _⟩
      · exact ⟨h1, h2⟩
      · exact absurd h2 hok
    have HE : Hid (tokErr (bys s) = 3) := hid (by rw [tokErr, if_neg hok])
    clear hdec hok hcl
    go_enter Tryz.func118, Tryz.ntmps118
    go_wp2_with (go_at_call 112; refine hdec2.mono ?_; rintro e w1 ⟨hb1, rfl⟩; have HB1 := hid hb1; clear hb1)
    go_ret2
    exact ⟨HB1.out, .inl ⟨by rw [HE.out]; decide, by rw [HE.out]; rfl⟩⟩
end Go.Proofs.YteigplfldhdakaaGreatDoor
/- Bytes in memory (turned from the bin texts). -/
namespace Go.Proofs.YteigplfldhdakaaGreatDoor
open Go.RowKit
attribute [local go_sem ↓] Go.wp_at_zero Go.wp_at_succ
def by8 (xs : List Int) : List Value := xs.map fun x => .int .u8 x
theorem by8_length (xs : List Int) : (by8 xs).length = xs.length := by simp [by8]
theorem by8_append (xs ys : List Int) : by8 (xs ++ ys) = by8 xs ++ by8 ys := by simp [by8]
theorem by8_take (xs : List Int) (k : Nat) : by8 (xs.take k) = (by8 xs).take k := by simp [by8]
theorem by8_drop (xs : List Int) (k : Nat) : by8 (xs.drop k) = (by8 xs).drop k := by simp [by8]
theorem by8_set (xs : List Int) (k : Nat) (x : Int) : by8 (xs.set k x) = (by8 xs).set k (.int .u8 x) := by simp [by8]
theorem by8_one (xs : List Int) : ∀ u ∈ by8 xs, u.oneCell' = true := fun u hu => by
  obtain ⟨x, _, rfl⟩ := List.mem_map.1 hu
  rfl
theorem by8_get {xs : List Int} {i : Nat} (h : i < xs.length) : (by8 xs)[i]? = some (.int .u8 xs[i]) := by simp [by8, h]
/-- v is a slice of bytes: these -/
def BS (w : World) (v : Value) (xs : List Int) : Prop := SL w 5 1 v xs.length (by8 xs)
section
variable {F : Nat → Prop} {w w' : World} {v : Value} {xs ys : List Int}
theorem BS.nil (w : World) : BS w (.slice none 0 0) [] := SL.nil _ _ _
theorem BS.form (h : BS w v xs) : ∃ A c, v = .slice A xs.length c ∧ xs.length ≤ c := SL.form h
theorem BS.keep (h : BS w v xs) (hk : ∀ k, v.ownBlock = some k → w'.heap[k]? = w.heap[k]?) : BS w' v xs := SL.keep h hk
theorem BS.lt (h : BS w v xs) : ∀ k, v.ownBlock = some k → k < w.heap.size := SL.lt h
theorem BS.below (h : BS w v xs) (hb : Below w.heap.size w w') : BS w' v xs := h.keep fun k hk => hb.block k (h.lt k hk)
theorem BS.drewN (h : BS w v xs) (n : Nat) : BS (w.drewN n) v xs := SL.drewN h n
theorem BS.touch (h : BS w v xs) (ht : Touch F w w') (hf : ∀ k, v.ownBlock = some k → ¬ F k) : BS w' v xs := SL.touch h ht hf
theorem BS.alloc (h : BS w v xs) (o : Obj) : BS (w.alloc o) v xs := SL.alloc h o
theorem BS.le (h : BS w v xs) : xs.length ≤ 9223372036854775807 := SL.le h
theorem BS.item {A : Option Addr} {c : Nat} (h : BS w (.slice A xs.length c) xs) {i : Nat} (hi : i < xs.length) :
    ∃ g off, A = some ⟨g, off, none⟩ ∧ w.cell? ⟨g, off + i, none⟩ = some (.int .u8 xs[i]) ∧ (∀ k, w.frozen? ⟨g, k, none⟩ = false) ∧ g < w.heap.size := by
  obtain ⟨g, off, cap, hv, h1, h2, hc, hf⟩ := SL.open_ h (by omega)
  simp only [Value.slice.injEq, true_and] at hv
  obtain ⟨rfl, rfl⟩ := hv
  exact ⟨g, off, rfl, (hc i (by omega)).trans (by8_get hi), hf, h.lt g rfl⟩
theorem BS.take {A : Option Addr} {c k : Nat} (h : BS w (.slice A xs.length c) xs) (hk : k ≤ xs.length) : BS w (.slice A k c) (xs.take k) := by
  have := SL.take_ h hk
  rw [Nat.mul_one, ← by8_take] at this
  unfold BS
  rw [List.length_take, Nat.min_eq_left hk]
  exact this
theorem BS.drop {A : Option Addr} {c k : Nat} (h : BS w (.slice A xs.length c) xs) (hk : k ≤ xs.length) : BS w (.slice (if c = k then A else A.map (·.add k)) (xs.length - k) (c - k)) (xs.drop k) := by
  have := SL.drop_ h hk
  rw [Nat.mul_one, ← by8_drop] at this
  unfold BS
  rw [List.length_drop]
  exact this
end
/-- v reads as these bytes, wherever it came from -/
def RB (w : World) (v : Value) (xs : List Int) : Prop := SR w v xs.length (by8 xs)
section
variable {w w' : World} {v : Value} {xs : List Int}
theorem BS.rb (h : BS w v xs) : RB w v xs := SR.of_SL h
theorem RB.form (h : RB w v xs) : ∃ A c, v = .slice A xs.length c ∧ xs.length ≤ c := by
  obtain ⟨A, c, hv, hm, _⟩ := h
  exact ⟨A, c, hv, hm⟩
theorem RB.le (h : RB w v xs) : xs.length ≤ 9223372036854775807 := by
  obtain ⟨A, c, hv, hm, hc, _⟩ := h
  simp only [maxLen] at hc
  omega
theorem RB.below (h : RB w v xs) (hb : Below w.heap.size w w') : RB w' v xs := SR.below h hb
theorem RB.drewN (h : RB w v xs) (n : Nat) : RB (w.drewN n) v xs := SR.drewN h n
theorem RB.item {A : Option Addr} {c : Nat} (h : RB w (.slice A xs.length c) xs) {i : Nat} (hi : i < xs.length) : ∃ x, A = some x ∧ w.cell? (x.add i) = some (.int .u8 xs[i]) := by
  obtain ⟨A', c', hu, hm, hc, hA, hl, hcell⟩ := h
  simp only [Value.slice.injEq, true_and] at hu
  obtain ⟨rfl, rfl⟩ := hu
  cases A with
  | none => have := hA rfl; omega
  | some a => exact ⟨a, rfl, hcell a rfl i _ (by8_get hi)⟩
theorem RB.take {A : Option Addr} {c k : Nat} (h : RB w (.slice A xs.length c) xs) (hk : k ≤ xs.length) : RB w (.slice A k c) (xs.take k) := by
  have := SR.take h hk
  rw [← by8_take] at this
  unfold RB
  rw [List.length_take, Nat.min_eq_left hk]
  exact this
theorem RB.drop {A : Option Addr} {c k : Nat} (h : RB w (.slice A xs.length c) xs) (hk : k ≤ xs.length) : RB w (.slice (if c = k then A else A.map (·.add k)) (xs.length - k) (c - k)) (xs.drop k) := by
  have := SR.drop h hk
  rw [← by8_drop] at this
  unfold RB
  rw [List.length_drop]
  exact this
end
theorem info5 : (Tryz.prog.info? 5).map (fun i => (i.zero, i.size, i.bytes)) = some (some (.int .u8 0), 1, 1) := by kernel_rfl
end Go.Proofs.YteigplfldhdakaaGreatDoor
/- align: the grid; at, best. -/
namespace Go.Proofs.YteigplfldhdakaaGreatDoor
open Go.RowKit
attribute [local go_sem ↓] Go.wp_at_zero Go.wp_at_succ
def gat (lb i j : Nat) : Nat := i * (lb + 1) + j
theorem gat_lt {la lb i j : Nat} (hi : i ≤ la) (hj : j ≤ lb) : gat lb i j < (la + 1) * (lb + 1) := by
  unfold gat
  have := Nat.mul_le_mul_right (lb + 1) hi
  rw [Nat.add_mul]
  omega
theorem gat_le {lb i j : Nat} (hi : i ≤ 64) (hj : j ≤ 64) (hl : lb ≤ 64) : i * (lb + 1) ≤ 4160 ∧ gat lb i j ≤ 4224 := by
  have h1 := Nat.mul_le_mul hi (show lb + 1 ≤ 65 by omega)
  unfold gat
  omega
def tryK (s : Int × Int) (k f : Int) : Int × Int := if f < s.2 then (k, f) else s
def inc8 (x : Int) : Int := (x + 1) % 256
/-- the last step of two beginnings, and how few there are with it -/
def bestF (A B few : List Int) (lb i j : Nat) : Int × Int :=
  let s1 := if 0 < i ∧ 0 < j then (if A.getD (i - 1) 0 = B.getD (j - 1) 0 then tryK (0, 255) 0 (few.getD (gat lb (i - 1) (j - 1)) 0) else tryK (0, 255) 1 (inc8 (few.getD (gat lb (i - 1) (j - 1)) 0))) else (0, 255)
  let s2 := if 0 < i then tryK s1 2 (inc8 (few.getD (gat lb (i - 1) j) 0)) else s1
  if 0 < j then tryK s2 3 (inc8 (few.getD (gat lb i (j - 1)) 0)) else s2
/-- a grid in memory -/
structure GridAt (w : World) (g : Nat) (va vb vf vk : Value) (A B fl kl : List Int) : Prop where
  head : w.heap[g]? = some (.cells #[va, vb, vf, vk] 243 (0, 0))
  a : RS w va A
  b : RS w vb B
  f : BS w vf fl
  k : BS w vk kl
theorem GridAt.keep {w w' : World} {g : Nat} {va vb vf vk : Value} {A B fl kl : List Int} (h : GridAt w g va vb vf vk A B fl kl) (hb : Below w.heap.size w w') : GridAt w' g va vb vf vk A B fl kl :=
  ⟨(hb.block g (blk_lt h.head)).trans h.head, SL.keep h.a fun k hk => hb.block k (SL.lt h.a k hk), SL.keep h.b fun k hk => hb.block k (SL.lt h.b k hk), h.f.below hb, h.k.below hb⟩
theorem grid_cells {w : World} {g : Nat} {va vb vf vk : Value} (h : w.heap[g]? = some (.cells #[va, vb, vf, vk] 243 (0, 0))) :
    w.cell? ⟨g, 0, none⟩ = some va ∧ w.cell? ⟨g, 1, none⟩ = some vb ∧ w.cell? ⟨g, 2, none⟩ = some vf ∧ w.cell? ⟨g, 3, none⟩ = some vk :=
  ⟨by rw [cell_of_row w g 0 _ _ _ h]; rfl, by rw [cell_of_row w g 1 _ _ _ h]; rfl, by rw [cell_of_row w g 2 _ _ _ h]; rfl, by rw [cell_of_row w g 3 _ _ _ h]; rfl⟩
set_option maxRecDepth 100000 in
set_option maxHeartbeats 1000000 in
theorem at_c (g : Nat) (A1 : Option Addr) (lb c i j : Nat) (hi : i ≤ 64) (hj : j ≤ 64) (hl : lb ≤ 64) (w : World) (hc : w.cell? ⟨g, 1, none⟩ = some (.slice A1 lb c)) :
    Calls Tryz.prog 130 #[.pointer (some ⟨g, 0, none⟩), .int .i64 i, .int .i64 j] w fun e w' => e = .returned (.int .i64 (gat lb i j : Nat)) ∧ w' = w := by
  obtain ⟨h1, h2⟩ := gat_le hi hj hl
  have e0 : ((gat lb i j : Nat) : Int) = (i : Int) * ((lb : Int) + 1) + (j : Int) := by simp [gat]
  have e1 : wrap64 ((lb : Int) + 1) = (lb : Int) + 1 := by unfold wrap64; omega
  have e2 : (0 : Int) ≤ (i : Int) * ((lb : Int) + 1) ∧ (i : Int) * ((lb : Int) + 1) ≤ 4160 := by
    have : ((i * (lb + 1) : Nat) : Int) = (i : Int) * ((lb : Int) + 1) := by simp
    omega
  have E0 := hid e0
  clear e0
  obtain ⟨p, hp⟩ : ∃ p, (i : Int) * ((lb : Int) + 1) = p := ⟨_, rfl⟩
  rw [hp] at e2
  have HP := hid hp
  have e3 : wrap64 p = p := by unfold wrap64; omega
  have e4 : wrap64 (p + (j : Int)) = p + (j : Int) := by unfold wrap64; omega
  clear h1 h2
  go_enter Tryz.func130, Tryz.ntmps130
  go_wp2
  go_ret
  refine ⟨?_, rfl⟩
  rw [E0.out, HP.out]
  rfl
theorem at_i (g : Nat) (A1 : Option Addr) (lb c i j : Nat) (hi : i ≤ 64) (hj : j ≤ 64) (hl : lb ≤ 64) (x y : Int) (w : World) (hc : w.cell? ⟨g, 1, none⟩ = some (.slice A1 lb c)) (hx : x = i) (hy : y = j) :
    Calls Tryz.prog 130 #[.pointer (some ⟨g, 0, none⟩), .int .i64 x, .int .i64 y] w fun e w' => e = .returned (.int .i64 (gat lb i j : Nat)) ∧ w' = w := by
  subst hx hy
  exact at_c g A1 lb c i j hi hj hl w hc
set_option maxRecDepth 100000 in
set_option maxHeartbeats 1000000 in
theorem try_c (bn bk : Nat) (hne : bn ≠ bk) (k f n0 k0 : Int) (w : World) (hn : w.heap[bn]? = some (.cells #[.int .u8 n0] 5 (0, 0))) (hk : w.heap[bk]? = some (.cells #[.int .u8 k0] 5 (0, 0))) :
    Calls Tryz.prog 179 #[.int .u8 k, .int .u8 f, .pointer (some ⟨bn, 0, none⟩), .pointer (some ⟨bk, 0, none⟩)] w fun e w' =>
      e = .returned (.tuple #[]) ∧ w'.heap[bn]? = some (.cells #[.int .u8 (tryK (k0, n0) k f).2] 5 (0, 0)) ∧ w'.heap[bk]? = some (.cells #[.int .u8 (tryK (k0, n0) k f).1] 5 (0, 0)) ∧ Touch (fun b => b = bn ∨ b = bk) w w' := by
  obtain ⟨c1, f1⟩ := box_cell hn
  obtain ⟨c2, f2⟩ := box_cell hk
  have HN := hid hn
  have HK := hid hk
  clear hn hk
  by_cases h : f < n0
  · have HT : Hid (tryK (k0, n0) k f = (k, f)) := hid (by rw [tryK, if_pos h])
    go_enter Tryz.func179, Tryz.ntmps179
    go_wp2
    go_end0
    rw [HT.out]
    exact ⟨rfl, box_set (set_other HN.out hne _ _) _, set_other (box_set HK.out _) (fun e => hne e.symm) _ _, Touch.setCell (p := ⟨bn, 0, none⟩) (Touch.setCell (F := fun b => b = bn ∨ b = bk) (p := ⟨bk, 0, none⟩) (Touch.refl _ w) (.inl (.inr rfl)) _) (.inl (.inl rfl)) _⟩
  · have HT : Hid (tryK (k0, n0) k f = (k0, n0)) := hid (by rw [tryK, if_neg h])
    go_enter Tryz.func179, Tryz.ntmps179
    go_wp2
    go_end0
    rw [HT.out]
    exact ⟨rfl, HN.out, HK.out, Touch.refl _ w⟩
end Go.Proofs.YteigplfldhdakaaGreatDoor
