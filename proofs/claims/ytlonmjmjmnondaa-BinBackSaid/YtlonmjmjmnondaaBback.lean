/- BinBack: the law's own function, walked. -/
import Derived.Test.YtlonmjmjmnondaaBlays
import Derived.Test.YtlonmjmjmnondaaBreads
import Derived.Laws.MakeOwn
namespace Go.Proofs.Ytlonmjmjmnondaa
set_option linter.unusedVariables false
set_option linter.unusedSimpArgs false
open Go.RowKit
attribute [local go_sem ↓] Go.wp_at_zero Go.wp_at_succ
def okT (t : Act1) : Bool := if t.kind = 1 then decide (t.s.size ≤ 1048576) else if t.kind = 2 then true else decide (0 ≤ t.n ∧ t.n ≤ 1073741824)
def laidT (t : Act1) : List Int := if t.kind = 1 then (if t.s.size ≤ 1048576 then encN t.s.size ++ bytesS t.s else []) else if t.kind = 2 then t.xs else if 0 ≤ t.n ∧ t.n ≤ 1073741824 then encN t.n.toNat else []
def laidA (acts : Nat → Act1) : Nat → List Int
  | 0 => []
  | i + 1 => laidA acts i ++ laidT (acts i)
theorem laid_split (acts : Nat → Act1) {i j : Nat} (h : i ≤ j) : ∃ rs, laidA acts j = laidA acts i ++ rs := by
  induction h with
  | refl => exact ⟨[], by simp⟩
  | step _ ih =>
    obtain ⟨rs, h⟩ := ih
    exact ⟨rs ++ laidT (acts _), by rw [laidA, h, List.append_assoc]⟩
theorem laidT_length (t : Act1) : (laidT t).length ≤ 5 + actSize t := by
  unfold laidT actSize
  by_cases h1 : t.kind = 1
  · rw [if_pos h1]
    by_cases h2 : t.s.size ≤ 1048576
    · rw [if_pos h2, if_pos h2, List.length_append, bytesS_length]
      have := encN_five (n := t.s.size) (by omega)
      omega
    · rw [if_neg h2]; simp
  · rw [if_neg h1]
    by_cases h2 : t.kind = 2
    · rw [if_pos h2]; omega
    · rw [if_neg h2]
      by_cases h3 : 0 ≤ t.n ∧ t.n ≤ 1073741824
      · rw [if_pos h3]
        have := encN_five (n := t.n.toNat) (by omega)
        omega
      · rw [if_neg h3]; simp
theorem laidA_length (acts : Nat → Act1) : ∀ i, (laidA acts i).length ≤ 5 * i + sumA acts i
  | 0 => by simp [laidA]
  | i + 1 => by
    have := laidA_length acts i
    have := laidT_length (acts i)
    rw [laidA, List.length_append, sumA]
    omega
theorem laidT_bytes {t : Act1} (h : Bytes t.xs) : Bytes (laidT t) := by
  unfold laidT
  by_cases h1 : t.kind = 1
  · rw [if_pos h1]
    by_cases h2 : t.s.size ≤ 1048576
    · rw [if_pos h2]
      exact (enc_bytes (by omega)).append (bytesS_bytes _)
    · rw [if_neg h2]; exact bytes_nil
  · rw [if_neg h1]
    by_cases h2 : t.kind = 2
    · rw [if_pos h2]; exact h
    · rw [if_neg h2]
      by_cases h3 : 0 ≤ t.n ∧ t.n ≤ 1073741824
      · rw [if_pos h3]; exact enc_bytes (by omega)
      · rw [if_neg h3]; exact bytes_nil
theorem laidA_bytes {w : World} {a : Option Addr} {len cap : Nat} {acts : Nat → Act1} (h : IsActs w a len cap acts) : ∀ i, i ≤ len → Bytes (laidA acts i)
  | 0, _ => bytes_nil
  | i + 1, hi => by
    rcases h with ⟨_, h0, _⟩ | ⟨x, hx, h1, h2, h3⟩
    · omega
    · exact (laidA_bytes (.inr ⟨x, hx, h1, h2, h3⟩) i (by omega)).append (laidT_bytes (h3 i (by omega)).bytes)
theorem str_bytesS (s : ByteArray) : strOfNums (bytesS s) = s := by
  apply WideShapes.bytes_inj
  rw [strOfNums_data, bytesS, List.map_map]
  conv => rhs; rw [← List.map_id s.data.toList]
  refine List.map_congr_left fun b _ => ?_
  simp
theorem fstT_laid {s : ByteArray} (hs : s.size ≤ 1048576) (rs : List Int) : fstT (encN s.size ++ bytesS s ++ rs) = (s, ((encN s.size ++ bytesS s).length : Int), 0) := by
  have h := fst_laid (n := s.size) (by omega) (bytesS s ++ rs)
  rw [← List.append_assoc] at h
  have hb := bytesS_length s
  rw [fstT, h]
  rw [if_neg (by simp), if_neg (by dsimp only; omega), if_neg (by dsimp only; rw [List.length_append, List.length_append]; omega)]
  dsimp only
  rw [Int.toNat_natCast, Int.toNat_natCast, List.append_assoc, List.drop_left, ← hb, List.take_left, str_bytesS, List.length_append, hb]
  simp
theorem info4 : (Try.prog.info? 4).map (fun i => (i.zero, i.size, i.bytes)) = some (some (.bool false), 1, 1) := by kernel_rfl
/-- a slice of n bools, the first of them these -/
def bls (l : List Bool) (n : Nat) : List Value := l.map Value.bool ++ List.replicate (n - l.length) (.bool false)
theorem mk61 (W : World) {n : Nat} (hn : n ≤ 200) : ∃ C : Array Value, (Instr.makeSlice 61 (.int .i64 (n : Int)) (.int .i64 (n : Int))).run Try.prog W = .ok (.slice (some ⟨W.heap.size, 0, none⟩) n n) (W.alloc (.cells C 4)) ∧ C.size = n ∧ ∀ i, i < n → C[i]? = some (.bool false) := by
  obtain ⟨i0, hi0, hz0, hz1, hz2⟩ := info_parts info4
  have h := run_makeSlice (P := Try.prog) W 61 4 i0 (.bool false) Try.underlying61 hi0 hz0 .i64 .i64 (n : Int) (n : Int) (by omega) (Int.le_refl _) (by rw [hz1]; simp; omega) (by rw [hz2]; omega) (by omega)
  rw [hz1, Int.toNat_natCast, Nat.mul_one] at h
  exact ⟨_, h, by simp [madeCells], fun i hi => by simp [madeCells, Value.cells, hi, Nat.mod_one]⟩
/-- a Writer at p holds zs; block O, elsewhere, is a row of len bools, the first i of them bs -/
def Lay (B : Nat) (w : World) (p O len : Nat) (bs : Nat → Bool) (i : Nat) (zs : List Int) : Prop :=
  ∃ (F : Nat → Prop) (C : Array Value), WL 27 F w p zs ∧ w.heap[O]? = some (.cells C 4 (0, 0)) ∧ C.size = len ∧ (∀ j, j < len → ∃ b, C[j]? = some (.bool b)) ∧ (∀ j, j < i → C[j]? = some (.bool (bs j))) ∧ (∀ k, F k → B ≤ k ∧ k < w.heap.size ∧ k ≠ O)
theorem Lay.call' {B : Nat} {w : World} {p O len i : Nat} {bs : Nat → Bool} {zs : List Int} (h : Lay B w p O len bs i zs) (hB : B ≤ w.heap.size) (o : Obj) :
    ∃ F' : Nat → Prop, WL 27 F' (w.alloc o) p zs ∧ (∀ k, (w.alloc o).heap.size ≤ k → F' k) ∧ (∀ k, F' k → B ≤ k) ∧ ∀ w' zs3, WL 27 F' w' p zs3 → Touch F' (w.alloc o) w' → Lay B w' p O len bs i zs3 ∧ w'.heap[w.heap.size]? = some o := by
  obtain ⟨F, C, hw, hO, hC, hb, hj, hf⟩ := h
  have hba := balloc (Below.refl _ w) o
  have hsz := World.size_alloc w o
  have hOl := blk_lt hO
  refine ⟨fun k => F k ∨ (w.alloc o).heap.size ≤ k, (hw.below hba).mono fun k hk => .inl hk, fun k hk => .inr hk, fun k hk => hk.elim (fun h => (hf k h).1) (fun h => by omega), fun w' zs3 hw' ht => ?_⟩
  refine ⟨⟨fun k => (F k ∨ (w.alloc o).heap.size ≤ k) ∧ k < w'.heap.size, C, hw'.bound, (ht.block O (by omega) (fun hF => ?_)).trans ((hba.block O hOl).trans hO), hC, hb, hj, fun k hk => ⟨hk.1.elim (fun h => (hf k h).1) (fun h => by omega), hk.2, hk.1.elim (fun h => (hf k h).2.2) (fun h => by omega)⟩⟩, ?_⟩
  · rcases hF with h | h
    · exact (hf _ h).2.2 rfl
    · omega
  · exact (ht.block w.heap.size (by omega) (fun hF => by
      rcases hF with h | h
      · have := (hf _ h).2.1; omega
      · omega)).trans (heap_alloc_new w o)
theorem Lay.put {B : Nat} {w : World} {p O len i : Nat} {bs : Nat → Bool} {zs : List Int} (h : Lay B w p O len bs i zs) (hi : i < len) : (∃ b, w.cell? ⟨O, i, none⟩ = some (.bool b)) ∧ w.frozen? ⟨O, i, none⟩ = false ∧ Lay B (w.setCell ⟨O, i, none⟩ (.bool (bs i))) p O len bs (i + 1) zs := by
  obtain ⟨F, C, hw, hO, hC, hb, hj, hf⟩ := h
  obtain ⟨b, hbi⟩ := hb i hi
  refine ⟨⟨b, by rw [cell_of_row w O i _ _ _ hO, hbi]⟩, frozen_of_row w O i _ _ hO, F, C.setIfInBounds i (.bool (bs i)), hw.keep fun k hF _ => Below.heap_setCell w ⟨O, i, none⟩ _ k (hf k hF).2.2, heap_setCell_same w O i C 4 _ hO, by simpa using hC, fun j hjl => ?_, fun j hji => ?_, fun k hk => ⟨(hf k hk).1, by simpa [World.setCell] using (hf k hk).2.1, (hf k hk).2.2⟩⟩
  · rw [Array.getElem?_setIfInBounds]
    by_cases e : i = j
    · rw [if_pos e, if_pos (by omega)]; exact ⟨_, rfl⟩
    · rw [if_neg e]; exact hb j hjl
  · rw [Array.getElem?_setIfInBounds]
    by_cases e : i = j
    · rw [if_pos e, if_pos (by omega), e]
    · rw [if_neg e]; exact hj j (by omega)
theorem Lay.alloc {B : Nat} {w : World} {p O len i : Nat} {bs : Nat → Bool} {zs : List Int} (h : Lay B w p O len bs i zs) (o : Obj) : Lay B (w.alloc o) p O len bs i zs := by
  obtain ⟨F, C, hw, hO, hC, hb, hj, hf⟩ := h
  have hba := balloc (Below.refl _ w) o
  exact ⟨F, C, hw.below hba, (hba.block O (blk_lt hO)).trans hO, hC, hb, hj, fun k hk => ⟨(hf k hk).1, by rw [World.size_alloc]; have := (hf k hk).2.1; omega, (hf k hk).2.2⟩⟩
set_option maxRecDepth 100000 in
set_option maxHeartbeats 4000000 in
theorem back_law (a : Option Addr) (len cap : Nat) (acts : Nat → Act1) (w : World) (h : IsActs w a len cap acts) :
    Calls Try.prog 9 #[.slice a len cap] w fun e w' => e = .returned (.bool true) ∧ Below w.heap.size w w' := by
  have HZ := hid h
  have hle := h.le
  clear h
  cases hg : greatB acts len
  case true =>
    have HG := hid hg
    clear hg
    go_enter Try.func9, Try.ntmps9
    go_wp2_with (first
      | (go_at_call 10; refine (alive_any _).mono ?_; rintro e w1 ⟨rfl, hb1⟩; have HB1 := hid hb1; have HZ1 : Hid (IsActs w1 a len cap acts) := hid (HZ.out.below hb1); clear hb1)
      | (go_at_call 11; refine (great_any HZ1.out).mono ?_; rintro e w2 ⟨he, hb2⟩; rw [HG.out] at he; subst he; have HB2 := hid (bthen HB1.out hb2); clear hb2))
    go_ret
    exact ⟨rfl, HB2.out⟩
  case false =>
    have HG := hid hg
    have hl2 : len ≤ 200 ∧ sumA acts len ≤ 20000 := by
      rw [greatB, Bool.or_eq_false_iff, decide_eq_false_iff_not, decide_eq_false_iff_not] at hg
      omega
    have HL2 := hid hl2
    have hl200 := hl2.1
    clear hg hl2
    go_enter Try.func9, Try.ntmps9
    go_wp2_with (first
      | (go_at_call 10; refine (alive_any _).mono ?_; rintro e w1 ⟨rfl, hb1⟩; have HB1 := hid hb1; have HZ1 : Hid (IsActs w1 a len cap acts) := hid (HZ.out.below hb1); clear hb1)
      | (go_at_call 11; refine (great_any HZ1.out).mono ?_; rintro e w2 ⟨he, hb2⟩; rw [HG.out] at he; subst he; have HB2 := hid (bthen HB1.out hb2); obtain ⟨C, hmk, hC1, hC2⟩ := mk61 (w2.alloc (.cells #[.slice none 0 0] 27)) hl200; have HC1 := hid hC1; have HC2 := hid hC2; clear hb2 hC1 hC2))
    have HO : Hid (w.heap.size ≤ w2.heap.size + 1) := hid (by have := HB2.out.size; omega)
    have HB3 := hid (balloc (balloc HB2.out (.cells #[.slice none 0 0] 27)) (.cells C 4))
    have HL3 : Hid (Lay w.heap.size ((w2.alloc (.cells #[.slice none 0 0] 27)).alloc (.cells C 4)) w2.heap.size (w2.heap.size + 1) len (fun j => okT (acts j)) 0 (laidA acts 0)) := hid (by
      have h0 := HB2.out.size
      have h1 := World.size_alloc w2 (.cells #[.slice none 0 0] 27)
      have hn := heap_alloc_new (w2.alloc (.cells #[.slice none 0 0] 27)) (.cells C 4)
      rw [h1] at hn
      refine ⟨fun k => k = w2.heap.size, C, (WL.fresh w2 (fun k => k = w2.heap.size) rfl).below (balloc (Below.refl _ _) _), hn, HC1.out, fun j hj => ⟨_, HC2.out j hj⟩, fun j hj => absurd hj (Nat.not_lt_zero j), fun k hk => ?_⟩
      have h2 := World.size_alloc (w2.alloc (.cells #[.slice none 0 0] 27)) (.cells C 4)
      omega)
    clear hmk
    go_loopw [27] (fun iv wr => ∃ i : Nat, i ≤ len ∧ iv = .int .i64 (i : Int) ∧ Hid (Lay w.heap.size wr w2.heap.size (w2.heap.size + 1) len (fun j => okT (acts j)) i (laidA acts i)) ∧ Hid (Below w.heap.size w wr)) (fun iv _ => len - (intOf iv).toNat)
    case atStart => exact ⟨0, by omega, rfl, HL3, HB3⟩
    case round =>
      obtain ⟨i, hi, rfl, HL, HBw⟩ := hrel
      clear HL3 HB3
      by_cases hlt : i < len
      · have hlt2 : (i : Int) < (len : Int) := by omega
        have hi0 : (0 : Int) ≤ (i : Int) := by omega
        obtain ⟨x, kd, n, s, A, c, xs, rfl, hac, a0, a1, a2, a3, hrb, hby, hs, hxl⟩ := HZ.out.get HBw.out hlt
        have HBn := hid (balloc HBw.out (.cells #[.int .i64 kd, .int .i64 n, .string s, .slice A xs.length c] 29))
        have HRn := hid (hrb.below HBn.out)
        have hLA : laidA acts (i + 1) = laidA acts i ++ laidT (acts i) := rfl
        have hzl := laidA_length acts i
        have hsm := sumA_mono acts (show i + 1 ≤ len by omega)
        have hsx : sumA acts (i + 1) = sumA acts i + actSize (acts i) := rfl
        have hzl9 : (laidA acts i).length ≤ 90000000 := by have := HL2.out; omega
        have hzl10 : (laidA acts i).length ≤ 100000000 := by omega
        have hxl8 : xs.length ≤ 100000000 := by
          have h1 : xs.length ≤ actSize (acts i) := by rw [hac, actSize]; exact Nat.le_add_left _ _
          have := HL2.out
          omega
        have HLA := hid hLA
        clear hzl hsm hsx hLA hrb hby hxl
        by_cases hk1 : kd = 1
        · subst hk1
          by_cases hst : 1048576 < s.size
          · have HLT : Hid (laidA acts (i + 1) = laidA acts i) := hid (by rw [HLA.out, hac]; simp [laidT, show ¬ s.size ≤ 1048576 by omega])
            have HST := hid hst
            have HOK : Hid (okT (acts i) = false) := hid (by rw [hac]; simp [okT, show ¬ s.size ≤ 1048576 by omega])
            obtain ⟨F', hwF, hF', hFB, hmid⟩ := HL.out.call' HBw.out.size (.cells #[.int .i64 1, .int .i64 n, .string s, .slice A xs.length c] 29)
            have HWF := hid hwF
            have HF' := hid hF'
            have HFB := hid hFB
            have HMID := hid hmid
            clear hwF hF' hFB hmid hac
            clear hst
            have hput0 := (HL.out.alloc (.cells #[.int .i64 1, .int .i64 n, .string s, .slice A xs.length c] 29)).put hlt
            obtain ⟨⟨b4, e4⟩, f4, hput⟩ := hput0
            rw [HOK.out] at hput
            have HPUT := hid hput
            have HB3 := hid (HBn.out.setCell (p := ⟨w2.heap.size + 1, i, none⟩) HO.out (.bool false))
            clear hput
            go_wp2_with (go_at_call 12; refine (text_w HWF.out HF'.out hzl9 s hs).mono ?_; rintro e w3 ⟨hp, -⟩; obtain ⟨rfl, rfl⟩ := hp HST.out; clear hp)
            exact ⟨⟨i + 1, by omega, by simp, hid (by rw [HLT.out]; exact HPUT.out), HB3⟩, by simp [intOf]; omega⟩
          · skip
            have hst' : s.size ≤ 1048576 := by omega
            have HST := hid hst'
            have HLT : Hid (laidA acts (i + 1) = laidA acts i ++ encN s.size ++ bytesS s) := hid (by rw [HLA.out, hac]; simp [laidT, hst'])
            have HOK : Hid (okT (acts i) = true) := hid (by rw [hac]; simp [okT, hst'])
            obtain ⟨F', hwF, hF', hFB, hmid⟩ := HL.out.call' HBw.out.size (.cells #[.int .i64 1, .int .i64 n, .string s, .slice A xs.length c] 29)
            have HWF := hid hwF
            have HF' := hid hF'
            have HFB := hid hFB
            have HMID := hid hmid
            clear hwF hF' hFB hmid hac
            clear hst hst'
            go_wp2_with (go_at_call 12; refine (text_w HWF.out HF'.out hzl9 s hs).mono ?_; rintro e w3 ⟨-, hp⟩; obtain ⟨rfl, hw3, ht3⟩ := hp HST.out; clear hp; obtain ⟨hl3, hc3⟩ := HMID.out _ _ hw3 ht3; obtain ⟨⟨b4, e4⟩, f4, hput⟩ := hl3.put hlt; rw [HOK.out] at hput; have HPUT := hid hput; have HB3 := hid ((ht3.below HBn.out HFB.out).setCell (p := ⟨w2.heap.size + 1, i, none⟩) HO.out (.bool true)); clear hw3 ht3 hl3 hc3 hput)
            exact ⟨⟨i + 1, by omega, by simp, hid (by rw [HLT.out]; exact HPUT.out), HB3⟩, by simp [intOf]; omega⟩
        · by_cases hk2 : kd = 2
          · skip
            subst hk2
            have HLT : Hid (laidA acts (i + 1) = laidA acts i ++ xs) := hid (by rw [HLA.out, hac]; simp [laidT])
            have HOK : Hid (okT (acts i) = true) := hid (by rw [hac]; simp [okT])
            obtain ⟨F', hwF, hF', hFB, hmid⟩ := HL.out.call' HBw.out.size (.cells #[.int .i64 2, .int .i64 n, .string s, .slice A xs.length c] 29)
            have HWF := hid hwF
            have HF' := hid hF'
            have HFB := hid hFB
            have HMID := hid hmid
            clear hwF hF' hFB hmid hac
            go_wp2_with (go_at_call 14; refine (raw_w HWF.out HF'.out hzl10 HRn.out hxl8).mono ?_; rintro e w3 ⟨rfl, hw3, ht3⟩; obtain ⟨hl3, hc3⟩ := HMID.out _ _ hw3 ht3; obtain ⟨⟨b4, e4⟩, f4, hput⟩ := hl3.put hlt; rw [HOK.out] at hput; have HPUT := hid hput; have HB3 := hid ((ht3.below HBn.out HFB.out).setCell (p := ⟨w2.heap.size + 1, i, none⟩) HO.out (.bool true)); clear hw3 ht3 hl3 hc3 hput)
            exact ⟨⟨i + 1, by omega, by simp, hid (by rw [HLT.out]; exact HPUT.out), HB3⟩, by simp [intOf]; omega⟩
          · by_cases hn : n < 0 ∨ 1073741824 < n
            · skip
              have hn' : ¬ (0 ≤ n ∧ n ≤ 1073741824) := by omega
              have HOK : Hid (okT (acts i) = false) := hid (by rw [hac]; simp only [okT, if_neg hk1, if_neg hk2, decide_eq_false hn'])
              have HLT : Hid (laidA acts (i + 1) = laidA acts i) := hid (by rw [HLA.out, hac]; simp only [laidT, if_neg hk1, if_neg hk2, if_neg hn', List.append_nil])
              obtain ⟨F', hwF, hF', hFB, hmid⟩ := HL.out.call' HBw.out.size (.cells #[.int .i64 kd, .int .i64 n, .string s, .slice A xs.length c] 29)
              have HWF := hid hwF
              have HF' := hid hF'
              have HN := hid hn
              obtain ⟨⟨b4, e4⟩, f4, hput⟩ := (HL.out.alloc (.cells #[.int .i64 kd, .int .i64 n, .string s, .slice A xs.length c] 29)).put hlt
              rw [HOK.out] at hput
              have HPUT := hid hput
              have HB3 := hid (HBn.out.setCell (p := ⟨w2.heap.size + 1, i, none⟩) HO.out (.bool false))
              clear hwF hF' hFB hmid hac hput hn'
              rcases hn with hn | hn
              all_goals
                go_wp2_with (go_at_call 15; refine (num_w HWF.out HF'.out hzl10 n).mono ?_; rintro e w3 ⟨hp, -⟩; obtain ⟨rfl, rfl⟩ := hp HN.out; clear hp)
                exact ⟨⟨i + 1, by omega, by simp, hid (by rw [HLT.out]; exact HPUT.out), HB3⟩, by simp [intOf]; omega⟩
            · skip
              obtain ⟨m, rfl⟩ : ∃ m : Nat, n = m := ⟨n.toNat, by omega⟩
              have hm : m ≤ 1073741824 := by omega
              have hmi : (m : Int) ≤ 1073741824 := by omega
              have hm0 : (0 : Int) ≤ (m : Int) := by omega
              have HLT : Hid (laidA acts (i + 1) = laidA acts i ++ encN m) := hid (by rw [HLA.out, hac]; simp [laidT, hk1, hk2, hmi, hm0])
              have HOK : Hid (okT (acts i) = true) := hid (by rw [hac]; simp [okT, hk1, hk2, hmi, hm0])
              obtain ⟨F', hwF, hF', hFB, hmid⟩ := HL.out.call' HBw.out.size (.cells #[.int .i64 kd, .int .i64 (m : Int), .string s, .slice A xs.length c] 29)
              have HWF := hid hwF
              have HF' := hid hF'
              have HFB := hid hFB
              have HMID := hid hmid
              clear hwF hF' hFB hmid hac
              clear hn
              go_wp2_with (go_at_call 15; refine (num_w HWF.out HF'.out hzl10 _).mono ?_; rintro e w3 ⟨-, hp⟩; obtain ⟨rfl, hw3, ht3⟩ := hp hm0 hmi; rw [Int.toNat_natCast] at hw3; clear hp; obtain ⟨hl3, hc3⟩ := HMID.out _ _ hw3 ht3; obtain ⟨⟨b4, e4⟩, f4, hput⟩ := hl3.put hlt; rw [HOK.out] at hput; have HPUT := hid hput; have HB3 := hid ((ht3.below HBn.out HFB.out).setCell (p := ⟨w2.heap.size + 1, i, none⟩) HO.out (.bool true)); clear hw3 ht3 hl3 hc3 hput)
              exact ⟨⟨i + 1, by omega, by simp, hid (by rw [HLT.out]; exact HPUT.out), HB3⟩, by simp [intOf]; omega⟩
      · obtain rfl : i = len := by omega
        obtain ⟨F, C1, hw, hO, hC, hb, hj, hf⟩ := HL.out
        have HWr := hid hw
        have HOr := hid hO
        have HJ := hid hj
        have hTB : Bytes (laidA acts i) ∧ (laidA acts i).length ≤ 140737488351232 := ⟨laidA_bytes HZ.out i hi, by have := laidA_length acts i; have := HL2.out; omega⟩
        obtain ⟨ts, hts⟩ : ∃ ts, laidA acts i = ts := ⟨_, rfl⟩
        rw [hts] at HWr hTB
        have HTS := hid hts
        have HTB := hid hTB.1
        have hTL := hTB.2
        clear hw hO hC hb hj hf hts hTB HL
        go_wp2_with (first
          | (go_at_call 18; refine (bytes_w HWr.out hTL).mono ?_; rintro e w8 ⟨A8, c8, rfl, hb8, ho8, hw8⟩; have HY8 := hid hb8; have HB8 := hid (bthen HBw.out hw8); have HO8 := hid ((hw8.block _ (blk_lt HOr.out)).trans HOr.out); clear hb8 ho8 hw8)
          | (go_at_call 19; refine (read_any HY8.out.rb hTL).mono ?_; rintro e w9 ⟨q, rfl, hr9, hw9⟩; have HR9 := hid hr9.bound; have HB9 := hid (bthen HB8.out hw9); have HO9 := hid ((hw9.block _ (blk_lt HO8.out)).trans HO8.out); have HN9 := hid (blk_lt HO8.out); clear hr9 hw9))
        go_loopw [64] (fun kv wq => ∃ (j : Nat) (rs : List Int), j ≤ i ∧ kv = .int .i64 (j : Int) ∧ Hid (ts = laidA acts j ++ rs) ∧ Hid (Bytes rs) ∧ Hid (WL 67 (fun k => w8.heap.size ≤ k ∧ k < w9.heap.size) wq q rs) ∧ Hid (w9.heap.size ≤ wq.heap.size) ∧ Hid (wq.heap[w2.heap.size + 1]? = some (.cells C1 4 (0, 0))) ∧ Hid (Below w.heap.size w wq)) (fun kv _ => i - (intOf kv).toNat)
        case atStart => exact ⟨0, ts, by omega, rfl, hid rfl, HTB, HR9, hid (Nat.le_refl _), HO9, HB9⟩
        case round =>
          obtain ⟨j, rs, hj, rfl, HRS, HRB, HR, HQ9, HOq, HBq⟩ := hrel
          by_cases hjl : j < i
          · have hjl2 : (j : Int) < (i : Int) := by omega
            have hj0 : (0 : Int) ≤ (j : Int) := by omega
            obtain ⟨x, kd, n, s, A, c, xs, rfl, hac, a0, a1, a2, a3, hrb, hby, hs, hxl⟩ := HZ.out.get HBq.out hjl
            have hba := balloc (Below.refl _ wr) (.cells #[.int .i64 kd, .int .i64 n, .string s, .slice A xs.length c] 29)
            have HBn := hid (bthen HBq.out hba)
            have HRn := hid (HR.out.below hba)
            have HQn := hid (Nat.le_trans HQ9.out hba.size)
            have HOn := hid ((hba.block _ (blk_lt HOq.out)).trans HOq.out)
            have e4 : (wr.alloc (.cells #[.int .i64 kd, .int .i64 n, .string s, .slice A xs.length c] 29)).cell? ⟨w2.heap.size + 1, j, none⟩ = some (.bool (okT (acts j))) := by rw [cell_of_row _ _ j _ _ _ HOn.out]; exact HJ.out j hjl
            obtain ⟨rs2, hrs2⟩ : ∃ rs2, rs = laidT (acts j) ++ rs2 := by
              obtain ⟨r2, h2⟩ := laid_split acts (show j + 1 ≤ i by omega)
              refine ⟨r2, ?_⟩
              have h3 := HRS.out
              rw [← HTS.out, h2, laidA, List.append_assoc] at h3
              exact (List.append_cancel_left h3).symm
            have HRS2 : Hid (ts = laidA acts (j + 1) ++ rs2) := hid (by rw [HRS.out, hrs2, laidA, List.append_assoc])
            have HRB2 : Hid (Bytes rs2) := hid (fun y hy => HRB.out y (by rw [hrs2]; exact List.mem_append_right _ hy))
            have HR2 := hid hrs2
            have HBY := hid hby
            have HRB0 := hid hrb
            clear hrs2 hba hby hrb
            cases hok : okT (acts j)
            case false =>
              have HOK := hid hok
              rw [hok] at e4
              have hlt0 : laidT (acts j) = [] := by
                rw [hac] at hok ⊢
                unfold okT at hok
                unfold laidT
                dsimp only at hok ⊢
                split at hok
                · rename_i h1
                  rw [if_pos h1, if_neg (of_decide_eq_false hok)]
                · rename_i h1
                  split at hok
                  · cases hok
                  · rename_i h2
                    rw [if_neg h1, if_neg h2, if_neg (of_decide_eq_false hok)]
              have HR3 : Hid (rs = rs2) := hid (by rw [HR2.out, hlt0]; rfl)
              clear hok hlt0 hac
              go_wp2
              exact ⟨⟨j + 1, rs2, by omega, by simp, HRS2, HRB2, hid (by rw [← HR3.out]; exact HRn.out), HQn, HOn, HBn⟩, by simp [intOf]; omega⟩
            case true =>
              rw [hok] at e4
              by_cases hk1 : kd = 1
              · subst hk1
                have hst : s.size ≤ 1048576 := by rw [hac] at hok; simpa [okT] using hok
                have hrs : rs = encN s.size ++ bytesS s ++ rs2 := by rw [HR2.out, hac]; simp [laidT, hst]
                have hf : fstT rs = (s, ((encN s.size ++ bytesS s).length : Int), 0) := by rw [hrs]; exact fstT_laid hst rs2
                have hd : rs.drop (encN s.size ++ bytesS s).length = rs2 := by rw [hrs, List.drop_left]
                have htx := text_r2 HRn.out HRB.out hf
                rw [hd] at htx
                have HTX := hid htx
                have HSTEP : Hid (∀ w3 rs', WL 67 (fun k => w8.heap.size ≤ k ∧ k < w9.heap.size) w3 q rs' → Touch (fun k => w8.heap.size ≤ k ∧ k < w9.heap.size) (wr.alloc (.cells #[.int .i64 1, .int .i64 n, .string s, .slice A xs.length c] 29)) w3 → w3.heap[wr.heap.size]? = some (.cells #[.int .i64 1, .int .i64 n, .string s, .slice A xs.length c] 29) ∧ w3.heap[w2.heap.size + 1]? = some (.cells C1 4 (0, 0)) ∧ Below w.heap.size w w3 ∧ w9.heap.size ≤ w3.heap.size) := hid (fun w3 rs' h1 h2 => by
                  have q9 := HQ9.out
                  have n9 := HN9.out
                  have b8 := HB8.out.size
                  have sz := World.size_alloc wr (.cells #[.int .i64 1, .int .i64 n, .string s, .slice A xs.length c] 29)
                  refine ⟨(h2.block wr.heap.size (by omega) (fun hF => by omega)).trans (heap_alloc_new wr _), (h2.block _ (blk_lt HOn.out) (fun hF => by omega)).trans HOn.out, h2.below HBn.out (fun k hk => by omega), Nat.le_trans HQn.out h2.size⟩)
                clear hok hac hst hrs hf hd htx
                go_wp2_with (go_at_call 30; refine HTX.out.mono ?_; rintro e w3 ⟨rfl, hr3, ht3⟩; obtain ⟨hc3, ho3, hb3, hq3⟩ := HSTEP.out _ _ hr3 ht3; have HC3 := hid hc3; have HR5 := hid hr3; have HQ5 := hid hq3; have HO5 := hid ho3; have HB5 := hid hb3; have f1 : w3.cell? ⟨wr.heap.size, 1, none⟩ = some (.int .i64 n) := (by rw [cell_of_row _ _ 1 _ _ _ HC3.out]; rfl); have f2 : w3.cell? ⟨wr.heap.size, 2, none⟩ = some (.string s) := (by rw [cell_of_row _ _ 2 _ _ _ HC3.out]; rfl); have f3 : w3.cell? ⟨wr.heap.size, 3, none⟩ = some (.slice A xs.length c) := (by rw [cell_of_row _ _ 3 _ _ _ HC3.out]; rfl); clear hr3 ht3 hc3 ho3 hb3 hq3)
                exact ⟨⟨j + 1, rs2, by omega, by simp, HRS2, HRB2, HR5, HQ5, HO5, HB5⟩, by simp [intOf]; omega⟩
              by_cases hk2 : kd = 2
              · subst hk2
                have hrs : rs = xs ++ rs2 := by rw [HR2.out, hac]; simp [laidT]
                have hrl : rs.length ≤ 140737488351232 := by have h1 := congrArg List.length HRS.out; rw [List.length_append] at h1; omega
                have hxr : (xs.length : Int) ≤ (rs.length : Int) := by rw [hrs, List.length_append]; omega
                have HT : Hid (rs.take xs.length = xs) := hid (by rw [hrs, List.take_left])
                have HD : Hid (rs.drop xs.length = rs2) := hid (by rw [hrs, List.drop_left])
                have HRAW := hid (raw_r HRn.out hrl (xs.length : Int))
                have HXR := hid hxr
                have hx0 : (0 : Int) ≤ (xs.length : Int) := by omega
                have HSTEP : Hid (∀ w3 rs', WL 67 (fun k => w8.heap.size ≤ k ∧ k < w9.heap.size) w3 q rs' → Touch (fun k => w8.heap.size ≤ k ∧ k < w9.heap.size) (wr.alloc (.cells #[.int .i64 2, .int .i64 n, .string s, .slice A xs.length c] 29)) w3 → w3.heap[wr.heap.size]? = some (.cells #[.int .i64 2, .int .i64 n, .string s, .slice A xs.length c] 29) ∧ w3.heap[w2.heap.size + 1]? = some (.cells C1 4 (0, 0)) ∧ Below w.heap.size w w3 ∧ w9.heap.size ≤ w3.heap.size) := hid (fun w3 rs' h1 h2 => by
                  have q9 := HQ9.out
                  have n9 := HN9.out
                  have b8 := HB8.out.size
                  have sz := World.size_alloc wr (.cells #[.int .i64 2, .int .i64 n, .string s, .slice A xs.length c] 29)
                  refine ⟨(h2.block wr.heap.size (by omega) (fun hF => by omega)).trans (heap_alloc_new wr _), (h2.block _ (blk_lt HOn.out) (fun hF => by omega)).trans HOn.out, h2.below HBn.out (fun k hk => by omega), Nat.le_trans HQn.out h2.size⟩)
                clear hok hac hrs hrl hxr
                go_wp2_with (first
                  | (go_at_call 28; refine HRAW.out.mono ?_; rintro e w3 ⟨-, -, hp⟩; obtain ⟨A3, c3, he, hb3', ho3', hr3, ht3⟩ := hp hx0 HXR.out; rw [Int.toNat_natCast] at he hb3' hr3; rw [HT.out] at hb3'; rw [HD.out] at hr3; subst he; have HB3 := hid hb3'; clear hp hb3' ho3'; obtain ⟨hc3, ho3, hb3, hq3⟩ := HSTEP.out _ _ hr3 ht3; have HC3 := hid hc3; have HR5 := hid hr3; have HQ5 := hid hq3; have HO5 := hid ho3; have HB5 := hid hb3; have f1 : w3.cell? ⟨wr.heap.size, 1, none⟩ = some (.int .i64 n) := (by rw [cell_of_row _ _ 1 _ _ _ HC3.out]; rfl); have f2 : w3.cell? ⟨wr.heap.size, 2, none⟩ = some (.string s) := (by rw [cell_of_row _ _ 2 _ _ _ HC3.out]; rfl); have f3 : w3.cell? ⟨wr.heap.size, 3, none⟩ = some (.slice A xs.length c) := (by rw [cell_of_row _ _ 3 _ _ _ HC3.out]; rfl); clear hr3 ht3 hc3 ho3 hb3 hq3; have HRB5 := hid (HRB0.out.below HB5.out))
                  | (go_at_call 17; refine (same_any HB3.out.rb HRB5.out HBY.out HBY.out).mono ?_; rintro e w4 ⟨rfl, rfl⟩; rw [eqB_self]))
                exact ⟨⟨j + 1, rs2, by omega, by simp, HRS2, HRB2, HR5, HQ5, HO5, HB5⟩, by simp [intOf]; omega⟩
              · have hn : 0 ≤ n ∧ n ≤ 1073741824 := by rw [hac] at hok; simpa [okT, hk1, hk2] using hok
                obtain ⟨m, rfl⟩ : ∃ m : Nat, n = m := ⟨n.toNat, by omega⟩
                have hm : m ≤ 1073741824 := by omega
                have hrs : rs = encN m ++ rs2 := by rw [HR2.out, hac]; simp [laidT, hk1, hk2, hn]
                have hf : fst 0 0 rs = ((m : Int), ((encN m).length : Int), 0) := by rw [hrs]; exact fst_laid hm rs2
                have hd : rs.drop (encN m).length = rs2 := by rw [hrs, List.drop_left]
                have htx := num_r2 HRn.out HRB.out hf
                rw [hd] at htx
                have HTX := hid htx
                have HSTEP : Hid (∀ w3 rs', WL 67 (fun k => w8.heap.size ≤ k ∧ k < w9.heap.size) w3 q rs' → Touch (fun k => w8.heap.size ≤ k ∧ k < w9.heap.size) (wr.alloc (.cells #[.int .i64 kd, .int .i64 (m : Int), .string s, .slice A xs.length c] 29)) w3 → w3.heap[wr.heap.size]? = some (.cells #[.int .i64 kd, .int .i64 (m : Int), .string s, .slice A xs.length c] 29) ∧ w3.heap[w2.heap.size + 1]? = some (.cells C1 4 (0, 0)) ∧ Below w.heap.size w w3 ∧ w9.heap.size ≤ w3.heap.size) := hid (fun w3 rs' h1 h2 => by
                  have q9 := HQ9.out
                  have n9 := HN9.out
                  have b8 := HB8.out.size
                  have sz := World.size_alloc wr (.cells #[.int .i64 kd, .int .i64 (m : Int), .string s, .slice A xs.length c] 29)
                  refine ⟨(h2.block wr.heap.size (by omega) (fun hF => by omega)).trans (heap_alloc_new wr _), (h2.block _ (blk_lt HOn.out) (fun hF => by omega)).trans HOn.out, h2.below HBn.out (fun k hk => by omega), Nat.le_trans HQn.out h2.size⟩)
                clear hok hac hrs hf hd htx hn hm
                go_wp2_with (go_at_call 20; refine HTX.out.mono ?_; rintro e w3 ⟨rfl, hr3, ht3⟩; obtain ⟨hc3, ho3, hb3, hq3⟩ := HSTEP.out _ _ hr3 ht3; have HC3 := hid hc3; have HR5 := hid hr3; have HQ5 := hid hq3; have HO5 := hid ho3; have HB5 := hid hb3; have f1 : w3.cell? ⟨wr.heap.size, 1, none⟩ = some (.int .i64 (m : Int)) := (by rw [cell_of_row _ _ 1 _ _ _ HC3.out]; rfl); have f2 : w3.cell? ⟨wr.heap.size, 2, none⟩ = some (.string s) := (by rw [cell_of_row _ _ 2 _ _ _ HC3.out]; rfl); have f3 : w3.cell? ⟨wr.heap.size, 3, none⟩ = some (.slice A xs.length c) := (by rw [cell_of_row _ _ 3 _ _ _ HC3.out]; rfl); clear hr3 ht3 hc3 ho3 hb3 hq3)
                exact ⟨⟨j + 1, rs2, by omega, by simp, HRS2, HRB2, HR5, HQ5, HO5, HB5⟩, by simp [intOf]; omega⟩
          · obtain rfl : j = i := by omega
            obtain rfl : rs = [] := by
              have h1 := HRS.out
              rw [← HTS.out] at h1
              have h2 := congrArg List.length h1
              rw [List.length_append] at h2
              exact List.eq_nil_of_length_eq_zero (by omega)
            go_wp2_with (first
              | (go_at_call 20; refine (num_r HR.out bytes_nil).mono ?_; rintro e w10 ⟨hp, -⟩; obtain ⟨rfl, rfl⟩ := hp (by decide); clear hp)
              | (go_at_call 21; refine (left_r HR.out).mono ?_; rintro e w11 ⟨rfl, rfl⟩))
            go_ret
            exact ⟨rfl, HBq.out⟩
end Go.Proofs.Ytlonmjmjmnondaa
