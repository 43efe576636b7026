/- slices.SortStableFunc of words. -/
import Derived.Test.YteigplfldhdakaaGreatDoorD19
import Derived.Test.YteigplfldhdakaaGreatDoorD06
import Derived.Test.YteigplfldhdakaaGreatDoorD17
import Derived.Test.YteigplfldhdakaaGreatDoorD14
set_option linter.unusedVariables false
set_option linter.unusedSimpArgs false
namespace Go.Proofs.YteigplfldhdakaaGreatDoor
open Go.RowKit Go.Shelf Go.Sort Dw
attribute [local go_sem ↓] Go.wp_at_zero Go.wp_at_succ
/-- in order within each part of s -/
def Bk (s lo hi : Nat) (d : Array Wd) : Prop := ∀ q i j, lo ≤ i → q * s ≤ i → i < j → j < q * s + s → j < hi → leW d[i]! d[j]!
theorem bk_ext {s p a e : Nat} {d d' : Array Wd} (ha : a = p * s) (h : Bk s 0 a d) (hp : ∀ k, k < a → d'[k]! = d[k]!) (hs : SortedIn ltW a e d') : Bk s 0 e d' := fun q i j h0 h1 h2 h3 h4 => by
  rcases Nat.lt_or_ge j a with c | c
  · rw [hp i (by omega), hp j c]
    exact h q i j h0 h1 h2 h3 c
  · rcases Nat.lt_or_ge q p with c2 | c2
    · have := Nat.mul_le_mul_right s (show q + 1 ≤ p from c2)
      rw [Nat.add_mul, Nat.one_mul] at this
      omega
    · have := Nat.mul_le_mul_right s c2
      exact hs i j (by omega) h2 h4
theorem bk_srt {s p a e n : Nat} {d : Array Wd} (ha : a = p * s) (h : Bk s a n d) (he : e ≤ a + s) (hn : e ≤ n) : SortedIn ltW a e d := fun i j h1 h2 h3 => h p i j h1 (by omega) h2 (by omega) (by omega)
theorem bk_le {s lo lo' hi : Nat} {d d' : Array Wd} (h : Bk s lo hi d) (hl : lo ≤ lo') (hp : ∀ k, lo' ≤ k → d'[k]! = d[k]!) : Bk s lo' hi d' := fun q i j h0 h1 h2 h3 h4 => by
  rw [hp i h0, hp j (by omega)]
  exact h q i j (by omega) h1 h2 h3 h4
/-- two parts made one -/
theorem bk_two {s p a b n : Nat} {d d' : Array Wd} (ha : a = p * (2 * s)) (h1 : Bk (2 * s) 0 a d) (h2 : Bk s a n d) (hb : b = a + 2 * s) (hp : PermIn a b d d') (hs : SortedIn ltW a b d') : Bk (2 * s) 0 b d' ∧ Bk s b n d' :=
  ⟨bk_ext ha h1 (fun k hk => hp.2.1 k (.inl hk)) hs, bk_le h2 (by omega) fun k hk => hp.2.1 k (.inr hk)⟩
theorem bk_left {s p a n : Nat} {d : Array Wd} (ha : a = p * (2 * s)) (h : Bk s a n d) (hn : a + s ≤ n) : SortedIn ltW a (a + s) d := bk_srt (p := 2 * p) (by rw [ha]; rw [Nat.mul_assoc, Nat.mul_left_comm]) h (Nat.le_refl _) hn
theorem bk_right {s p a e n : Nat} {d : Array Wd} (ha : a = p * (2 * s)) (h : Bk s a n d) (he : e ≤ a + 2 * s) (hn : e ≤ n) : SortedIn ltW (a + s) e d := by
  have h2 := bk_le (lo' := a + s) (d' := d) h (by omega) fun k _ => rfl
  refine bk_srt (p := 2 * p + 1) ?_ h2 (by omega) hn
  rw [ha, Nat.add_mul, Nat.one_mul, Nat.mul_assoc, Nat.mul_left_comm]
theorem bk_all {s n : Nat} {d : Array Wd} (h : Bk s 0 n d) (hs : n ≤ s) : SortedIn ltW 0 n d := bk_srt (p := 0) (by simp) h (by omega) (Nat.le_refl _)
set_option maxRecDepth 100000 in
set_option maxHeartbeats 16000000 in
theorem stable_c {n g off cap : Nat} {d0 d : Array Wd} {w0 w : World} (R : RowK wdC 2 w0 g off d0) (hn : d0.size = n) (hd : d.size = n) (hsz : n < 1000000000) (S : SWK wdC 2 w0 g off d w) :
    Calls Tryz.prog 188 #[.slice (some ⟨g, off, none⟩) n cap, .int .i64 n, .func (.func 105) #[] #[]] w fun e w' => e = .returned (.tuple #[]) ∧ ∃ d', SWK wdC 2 w0 g off d' w' ∧ d'.size = n ∧ PermIn 0 n d d' ∧ SortedIn ltW 0 n d' := by
  have HS := hid S
  have HR := hid R
  have HN := hid hn
  have HD := hid hd
  have hins : ∀ (a b : Nat) (e : Array Wd) (W : World), e.size = n → SWK wdC 2 w0 g off e W → a ≤ b → b ≤ n → Calls Tryz.prog 219 #[.slice (some ⟨g, off, none⟩) n cap, .int .i64 a, .int .i64 b, .func (.func 105) #[] #[]] W fun e' w' => e' = .returned (.tuple #[]) ∧ ∃ d', SWK wdC 2 w0 g off d' w' ∧ PermIn a b e d' ∧ SortedIn ltW a b d' := fun a b e W h1 h2 h3 h4 => by
    have := ins_c (cap := cap) R (by rw [hn, h1]) h2 h3 (by omega) (by omega)
    rw [h1] at this
    exact this
  have hsym := fun N => symMerge_c (cap := cap) R hn (by omega) N
  have HINS := hid hins
  have HSYM := hid hsym
  clear S R hn hd hins hsym
  go_enter Tryz.func188, Tryz.ntmps188
  go_wp2
  go_loopw [7, 8] (fun av bv wr => ∃ (p a b : Nat) (e : Array Wd), av = .int .i64 (a : Int) ∧ bv = .int .i64 (b : Int) ∧ Hid (a = p * 20) ∧ Hid (b = a + 20) ∧ a < b ∧ a ≤ n ∧ Hid (e.size = n) ∧ Hid (SWK wdC 2 w0 g off e wr) ∧ Hid (PermIn 0 n d e) ∧ Hid (Bk 20 0 a e)) (fun av _ _ => n - (intOf av).toNat)
  case atStart => exact ⟨0, 0, 20, d, rfl, rfl, hid rfl, hid rfl, by decide, Nat.zero_le _, HD, HS, hid (permIn_refl _ _ _), hid (fun q i j _ _ _ _ h => by omega)⟩
  case round =>
    obtain ⟨p, a, b, e, rfl, rfl, HAP, HBA, hab, han, HE, HSr, HPr, HBr⟩ := hrel
    clear HS
    by_cases hbn : b ≤ n
    · have hbn2 : (b : Int) ≤ (n : Int) := by omega
      have hw1 : IntKind.i64.wrap ((b : Int) + 20) = (b : Int) + 20 := by rw [IntKind.wrap_i64]; omega
      have HC := hid (HINS.out a b e wr HE.out HSr.out (by omega) hbn)
      go_wp2_with (go_at_call 219; refine HC.out.mono ?_; rintro e1 w1 ⟨rfl, d1, hs1, hp1, hq1⟩; have HS1 := hid hs1; have HE1 : Hid (d1.size = n) := hid (hp1.1.trans HE.out); have HP1 := hid (permIn_trans _ _ _ _ _ HPr.out (permIn_mono _ _ _ _ _ _ (Nat.zero_le _) hbn (by rw [HE.out]; exact Nat.le_refl _) hp1)); have HB1 := hid (bk_ext HAP.out HBr.out (fun k hk => hp1.2.1 k (.inl hk)) hq1); clear hs1 hp1 hq1)
      exact ⟨⟨p + 1, b, b + 20, d1, rfl, by simp, hid (by rw [HBA.out, HAP.out, Nat.add_mul]), hid rfl, by omega, hbn, HE1, HS1, HP1, HB1⟩, by simp [intOf]; omega⟩
    · have hbn2 : ¬ (b : Int) ≤ (n : Int) := by omega
      have hbn3 : (n : Int) < (b : Int) := by omega
      have HC := hid (HINS.out a n e wr HE.out HSr.out han (Nat.le_refl _))
      go_wp2_with (go_at_call 219; refine HC.out.mono ?_; rintro e1 w1 ⟨rfl, d1, hs1, hp1, hq1⟩; have HS1 := hid hs1; have HE1 : Hid (d1.size = n) := hid (hp1.1.trans HE.out); have HP1 := hid (permIn_trans _ _ _ _ _ HPr.out (permIn_mono _ _ _ _ _ _ (Nat.zero_le _) (Nat.le_refl _) (by rw [HE.out]; exact Nat.le_refl _) hp1)); have HB1 := hid (bk_ext HAP.out HBr.out (fun k hk => hp1.2.1 k (.inl hk)) hq1); clear hs1 hp1 hq1)
      clear HC HBr HPr HSr HE
      go_loopw [6, 7, 8, 9] (fun sv av bv mv wr => ∃ (s : Nat) (e : Array Wd), sv = .int .i64 (s : Int) ∧ 0 < s ∧ s < 3000000000 ∧ Hid (e.size = n) ∧ Hid (SWK wdC 2 w0 g off e wr) ∧ Hid (PermIn 0 n d e) ∧ Hid (Bk s 0 n e)) (fun sv _ _ _ _ => n - (intOf sv).toNat)
      case atStart => exact ⟨20, d1, rfl, by decide, by decide, HE1, HS1, HP1, HB1⟩
      case round =>
        obtain ⟨s, e2, rfl, hs0, hsb, HE2, HS2, HP2, HB2⟩ := hrel
        clear HE1 HS1 HP1 HB1
        by_cases hsn : s < n
        · have hsn2 : (s : Int) < (n : Int) := by omega
          have hw2 : IntKind.i64.wrap (2 * (s : Int)) = 2 * (s : Int) := by rw [IntKind.wrap_i64]; omega
          have hw3 : IntKind.i64.wrap ((s : Int) * 2) = ((2 * s : Nat) : Int) := by rw [IntKind.wrap_i64]; omega
          go_wp2
          go_loopw [7, 8] (fun av bv wr => ∃ (p a : Nat) (e : Array Wd), av = .int .i64 (a : Int) ∧ bv = .int .i64 ((a : Int) + 2 * (s : Int)) ∧ Hid (a = p * (2 * s)) ∧ a ≤ n ∧ Hid (e.size = n) ∧ Hid (SWK wdC 2 w0 g off e wr) ∧ Hid (PermIn 0 n d e) ∧ Hid (Bk (2 * s) 0 a e) ∧ Hid (Bk s a n e)) (fun av _ _ => n - (intOf av).toNat)
          case atStart => exact ⟨0, 0, e2, rfl, by simp, hid (by simp), Nat.zero_le _, HE2, HS2, HP2, hid (fun q i j _ _ _ _ h => by omega), HB2⟩
          case round =>
            obtain ⟨p, a, e3, rfl, rfl, HAP, han, HE3, HS3, HP3, HX3, HY3⟩ := hrel
            clear HE2 HS2 HP2 HB2
            have hw4 : IntKind.i64.wrap ((a : Int) + (s : Int)) = ((a + s : Nat) : Int) := by rw [IntKind.wrap_i64]; omega
            by_cases hbn : a + 2 * s ≤ n
            · have hbn2 : (a : Int) + 2 * (s : Int) ≤ (n : Int) := by omega
              have hw5 : IntKind.i64.wrap ((a : Int) + 2 * (s : Int) + 2 * (s : Int)) = (a : Int) + 2 * (s : Int) + 2 * (s : Int) := by rw [IntKind.wrap_i64]; omega
              have hc := HSYM.out (2 * s) a (a + s) (a + 2 * s) e3 wr (by omega) HE3.out HS3.out (by omega) (by omega) hbn (bk_left HAP.out HY3.out (by omega)) (bk_right HAP.out HY3.out (by omega) (by omega))
              rw [show ((a + 2 * s : Nat) : Int) = (a : Int) + 2 * (s : Int) by omega] at hc
              have HC := hid hc
              clear hc
              go_wp2_with (go_at_call 220; refine HC.out.mono ?_; rintro e1 w1 ⟨rfl, d1, hs1, hz1, hp1, hq1⟩; have HS1 := hid hs1; have HE1 : Hid (d1.size = n) := hid hz1; have HP1 := hid (permIn_trans _ _ _ _ _ HP3.out (permIn_mono _ _ _ _ _ _ (Nat.zero_le _) hbn (by rw [HE3.out]; exact Nat.le_refl _) hp1)); have HX1 := hid (bk_two HAP.out HX3.out HY3.out rfl hp1 hq1).1; have HY1 := hid (bk_two HAP.out HX3.out HY3.out rfl hp1 hq1).2; clear hs1 hz1 hp1 hq1)
              exact ⟨⟨p + 1, a + 2 * s, d1, by simp, by simp, hid (by rw [Nat.add_mul, Nat.one_mul, HAP.out]), hbn, HE1, HS1, HP1, HX1, HY1⟩, by simp [intOf]; omega⟩
            · have hbn2 : ¬ (a : Int) + 2 * (s : Int) ≤ (n : Int) := by omega
              have hbn3 : (n : Int) < (a : Int) + 2 * (s : Int) := by omega
              by_cases hmn : a + s < n
              · have hmn2 : ((a + s : Nat) : Int) < (n : Int) := by omega
                obtain ⟨m, hm⟩ : ∃ m, a + s = m := ⟨_, rfl⟩
                have hc := HSYM.out (2 * s) a (a + s) n e3 wr (by omega) HE3.out HS3.out (by omega) hmn (Nat.le_refl _) (bk_left HAP.out HY3.out (by omega)) (bk_right HAP.out HY3.out (by omega) (by omega))
                rw [hm] at hc hw4 hmn2
                have HC := hid hc
                clear hc
                go_wp2_with (go_at_call 220; refine HC.out.mono ?_; rintro e1 w1 ⟨rfl, d1, hs1, hz1, hp1, hq1⟩; have HS1 := hid hs1; have HE1 : Hid (d1.size = n) := hid hz1; have HP1 := hid (permIn_trans _ _ _ _ _ HP3.out (permIn_mono _ _ _ _ _ _ (Nat.zero_le _) (Nat.le_refl _) (by rw [HE3.out]; exact Nat.le_refl _) hp1)); have HX1 := hid (bk_ext HAP.out HX3.out (fun k hk => hp1.2.1 k (.inl hk)) hq1); clear hs1 hz1 hp1 hq1)
                exact ⟨⟨2 * s, d1, by simp [hw3], by omega, by omega, HE1, HS1, HP1, HX1⟩, by simp [intOf, hw3]; omega⟩
              · have hmn2 : ¬ ((a + s : Nat) : Int) < (n : Int) := by omega
                obtain ⟨m, hm⟩ : ∃ m, a + s = m := ⟨_, rfl⟩
                have HX1 := hid (bk_ext (e := n) (d' := e3) HAP.out HX3.out (fun _ _ => rfl) (bk_srt (p := 2 * p) (by rw [HAP.out]; rw [Nat.mul_assoc, Nat.mul_left_comm]) HY3.out (by omega) (Nat.le_refl _)))
                rw [hm] at hw4 hmn2
                go_wp2
                exact ⟨⟨2 * s, e3, by simp [hw3], by omega, by omega, HE3, HS3, HP3, HX1⟩, by simp [intOf, hw3]; omega⟩
        · have hsn2 : ¬ (s : Int) < (n : Int) := by omega
          go_wp2
          go_end0
          exact ⟨rfl, e2, HS2.out, HE2.out, HP2.out, bk_all HB2.out (by omega)⟩
set_option maxRecDepth 100000 in
set_option maxHeartbeats 2000000 in
theorem sortStable_c {n g off cap : Nat} {d0 d : Array Wd} {w0 w : World} (R : RowK wdC 2 w0 g off d0) (hn : d0.size = n) (hd : d.size = n) (hsz : n < 1000000000) (S : SWK wdC 2 w0 g off d w) :
    Calls Tryz.prog 155 #[.slice (some ⟨g, off, none⟩) n cap, .func (.func 105) #[] #[]] w fun e w' => e = .returned (.tuple #[]) ∧ ∃ d', SWK wdC 2 w0 g off d' w' ∧ d'.size = n ∧ PermIn 0 n d d' ∧ SortedIn ltW 0 n d' := by
  have HC := hid (stable_c (cap := cap) R hn hd hsz S)
  clear R hn hd S
  go_enter Tryz.func155, Tryz.ntmps155
  go_wp2_with (go_at_call 188; refine HC.out.mono ?_; rintro e1 w1 ⟨rfl, d1, hs1, hz1, hp1, hq1⟩)
  go_end0
  exact ⟨rfl, d1, hs1, hz1, hp1, hq1⟩
end Go.Proofs.YteigplfldhdakaaGreatDoor
/- words gathered out of an iterator, and sorted. -/
namespace Go.Proofs.YteigplfldhdakaaGreatDoor
open Go.RowKit Go.Shelf
attribute [local go_sem] Oper.semAt_some
def wd0 : Wd := (⟨#[]⟩, 0)
def wdV (x : Wd) : Value := .agg #[.string x.1, .int .i64 x.2]
def wdArgs (L : List Wd) (k : Nat) : Array Value := #[wdV (L.getD k wd0)]
def wdsC (L : List Wd) : List Value := L.flatMap wdC
theorem wdsC_append (L M : List Wd) : wdsC (L ++ M) = wdsC L ++ wdsC M := by simp [wdsC]
/-- v is a slice of words: these -/
def WdS (w : World) (v : Value) (L : List Wd) : Prop := SL w 81 2 v L.length (wdsC L)
theorem WdS.below {w W : World} {v : Value} {L : List Wd} (h : WdS w v L) (hb : Below w.heap.size w W) : WdS W v L := SL.keep h fun k hk => hb.block k (SL.lt h k hk)
theorem info81 : (Tryz.prog.info? 81).map (fun i => (i.zero, i.size, i.bytes)) = some (some (.agg #[.string ⟨#[]⟩, .int .i64 0]), 2, 24) := by kernel_rfl
theorem WdS.at2 {w : World} {A : Option Addr} {c : Nat} {L : List Wd} (h : WdS w (.slice A L.length c) L) {k : Nat} (hk : k < L.length) :
    ∃ g off, A = some ⟨g, off, none⟩ ∧ g < w.heap.size ∧ w.cell? ⟨g, off + k * 2, none⟩ = some (.string L[k].1) ∧ w.cell? ⟨g, off + k * 2 + 1, none⟩ = some (.int .i64 L[k].2) := by
  obtain ⟨g, off, cap, hv, _, _, _, _⟩ := SL.open_ h (by omega)
  obtain ⟨rfl, -, rfl⟩ := Value.slice.inj hv
  have hc := SL.cellsK (enc := wdC) wdC_len h k hk
  rw [getElem!_pos L k hk] at hc
  exact ⟨g, off, rfl, SL.lt h g rfl, hc 0 _ rfl, hc 1 _ rfl⟩
def ColW (w : World) (L : List Wd) (k : Nat) (W : World) : Prop :=
  (∃ A c, W.heap[w.heap.size]? = some (.cells #[.slice A k c] 44 (0, 0)) ∧ SL W 81 2 (.slice A k c) k (wdsC (L.take k)) ∧ (∀ b, (Value.slice A k c).ownBlock = some b → w.heap.size < b)) ∧ Below w.heap.size w W
def ColWP (L : List Wd) (w : World) (e : Ending) (w' : World) : Prop :=
  ∃ A c, e = .returned (.slice A L.length c) ∧ WdS w' (.slice A L.length c) L ∧ (∀ b, (Value.slice A L.length c).ownBlock = some b → w.heap.size ≤ b) ∧ Below w.heap.size w w'
set_option maxRecDepth 100000 in
set_option maxHeartbeats 2000000 in
theorem appW_in (n : Nat) (hn : 6 ≤ n) (w : World) (gf : Nat) (lb : Array Value) (eg : ∀ args w, (callFunc gf args).run Tryz.prog w = .ok (.enter gf args) w) (L : List Wd) (hL : L.length ≤ 1100000) (w0 : World) (hw0 : Below w0.heap.size w0 w) (R : Nat → Prop)
    (hseq : SeqL Fence.wide (n - 1) Tryz.prog gf lb (wdArgs L) L.length (fun _ => R) (fun _ _ => False) w0) (hR : ∀ k, R k → k < w0.heap.size) :
    CallsIn Fence.wide n Tryz.prog 187 #[.slice none 0 0, .func (.func gf) #[] lb] w (ColWP L w) := by
  obtain ⟨i0, hi, hz0, hz1, hz2⟩ := info_parts info81
  refine callsIn_of_wp_marks Tryz.func187 rfl trivial ?_ rfl
  simp only [Tryz.ntmps187, List.size_toArray, List.length_cons, List.length_nil, Nat.reduceAdd, Nat.reduceSub, Array.replicate_succ, Array.replicate_zero, List.push_toArray, List.append_toArray, List.nil_append, List.cons_append]
  gi_wp2
  have hsz : (w.alloc (.cells #[.slice none 0 0] 44)).heap.size = w.heap.size + 1 := World.size_alloc _ _
  have hle := hw0.size
  refine wpIn_rangeA rfl (by omega) (gf := gf) (lb := lb) rfl trivial eg hseq (balloc hw0 _ |>.trans (Below.refl _ _)) (fun _ => rfl) (fun k hk => by have := hR k hk; omega)
    (fun k hk W o h => Below.heap_alloc W o k (by have := hR k hk; omega)) (fun k hk => hk.elim)
    (ColW w L) (fun _ _ _ => False) ?hI ?hIx ?h0 ?round ?done ?stop
  case hI =>
    rintro k X Y ⟨⟨A, c, h1, h2, h3⟩, h4⟩ hcs
    exact ⟨⟨A, c, hcs.cells h1 (fun h => h), SL.cs h2 hcs (fun b hb h => h), h3⟩, hcs.below h4 (by omega) (fun b hb h => h)⟩
  case hIx => exact fun _ _ _ _ h _ => h
  case h0 => exact ⟨⟨none, 0, heap_alloc_new _ _, SL.nil _ _ _, fun b hb => by simp [Value.ownBlock] at hb⟩, balloc (Below.refl _ w) _⟩
  case round =>
    intro l k W hk hIk hszW
    obtain ⟨x, hx⟩ : ∃ x, L.getD k wd0 = x := ⟨_, rfl⟩
    unfold wdArgs
    rw [hx, wdV]
    apply Exists.intro
    apply Exists.intro
    refine ⟨?_, fun K hK => ?_, ?_⟩
    rotate_left
    · gi_wp2
      exact hK
    · rintro W' ⟨⟨A, c, h1, h2, h3⟩, h4⟩ hbx hszW' hn1 hn2
      obtain ⟨a0, a1⟩ := box_cell h1
      have x0 : W'.cell? ⟨W.heap.size, 0, none⟩ = some (.string x.1) := by rw [cell_of_row W' _ 0 _ _ _ hbx]; rfl
      have x1 : W'.cell? ⟨W.heap.size, 1, none⟩ = some (.int .i64 x.2) := by rw [cell_of_row W' _ 1 _ _ _ hbx]; rfl
      have HSL : Hid (SL (W'.alloc (.cells #[.string x.1, .int .i64 x.2] 81)) 81 2 (.slice A k c) k (wdsC (L.take k))) := hid (h2.alloc _)
      have HL := hid (SL.lit W' 81 2 1 #[.string x.1, .int .i64 x.2] rfl (by simp [maxLen]))
      have hone : ∀ u ∈ [Value.string x.1, Value.int .i64 x.2], u.oneCell' = true := by simp [Value.oneCell']
      have h63 : k + 1 ≤ maxLen := by simp only [maxLen]; omega
      have hby : (k + 1) * 24 ≤ 140737488355328 := by omega
      have H1 := hid h1
      have H2 := hid h2
      have H3 := hid h3
      have H4 := hid h4
      have HX := hid hx
      clear h1 h2 h3 h4 hbx hx
      gi_wp2_with (gi_at_builtin; refine wpListIn_append_SLs rfl _ _ _ rfl 81 i0 _ 2 24 Tryz.underlying44 hi hz0 hz1 hz2 rfl (by decide) (.slice A k c) k (wdsC (L.take k)) rfl HSL.out _ 1 _ rfl HL.out hone (k + 1) _ rfl rfl h63 hby ?_; intro A2 c2 w2 hs2 hg2 ho2; obtain ⟨g1, g2, g3, g4⟩ := col_step H1.out (by decide) H2.out _ hg2 hs2 ho2; have hv2 : w2.heap[w.heap.size]? = some (.cells #[.slice A k c] 44 (0, 0)) := (hg2.block _ (by have := blk_lt H1.out; rw [World.size_alloc]; omega) (fun h => by have := H3.out _ h.symm; omega)).trans (alloc_keep H1.out _); obtain ⟨e2, f2⟩ := box_cell hv2; have G1 := hid g1; have G2 := hid g2; have G3 := hid g3; have G4 := hid g4; clear hs2 hg2 ho2 g1 g2 g3 g4 hv2)
      have hob : ∀ D, NC W' D → D ≠ w.heap.size → ¬ (D = w.heap.size ∨ (Value.slice A k c).ownBlock = some D) := fun D hD hne h => by
        rcases h with h | h
        · exact hne h
        · obtain ⟨cur, hc⟩ := SL.typed H2.out D h
          exact hD.ne hc rfl
      have hRl : ∀ b, R b → b < w.heap.size := fun b hb => by have := hR b hb; omega
      rw [hsz] at hszW' hn1 hn2
      refine ⟨RK.of_touch G3.out (by omega) (hob _ hn1 (by omega)) (hob _ hn2 (by omega)), Keep.of_touch G3.out (fun b hb2 => ⟨by have := hRl b hb2; omega, fun h => ?_⟩), ⟨A2, c2, G1.out, ?_, fun b hb2 => ?_⟩, G3.out.below H4.out (fun b h => ?_)⟩
      · have := hRl b hb2
        rcases h with h | h
        · omega
        · have := H3.out b h; omega
      · have h := G2.out
        have e : wdsC (L.take (k + 1)) = wdsC (L.take k) ++ [.string x.1, .int .i64 x.2] := by
          rw [List.take_add_one, List.getElem?_eq_getElem hk, wdsC_append]
          have hx2 : L[k] = x := by rw [← HX.out]; simp [List.getD_eq_getElem?_getD, hk]
          rw [hx2]
          rfl
        rw [e]
        exact h
      · rcases G4.out b hb2 with h | h
        · exact H3.out b h
        · omega
      · rcases h with h | h
        · omega
        · have := H3.out b h; omega
    · rfl
  case done =>
    rintro D W hD ⟨⟨A, c, h1, h2, h3⟩, h4⟩ hK
    obtain ⟨e0, f0⟩ := box_cell h1
    have H2 := hid h2
    have H3 := hid h3
    have H4 := hid h4
    rw [List.take_length] at H2
    clear h1 h2 h3 h4
    gi_wp2
    refine ⟨by simp, .inl ⟨_, _, rfl, run_takeDeferred hK, ?_⟩⟩
    refine ⟨_, results_tmp (fn := Tryz.f187) (t := 4) rfl _ _ _, ?_⟩
    exact ⟨A, c, rfl, fin_SL H2.out hK rfl, fun b hb => Nat.le_of_lt (H3.out b hb), fin_below H4.out (by omega)⟩
  case stop => exact fun _ _ _ _ _ _ h _ => h.elim
end Go.Proofs.YteigplfldhdakaaGreatDoor
/- A map of words: its entries in turn, whatever the order. -/
namespace Go.Proofs.YteigplfldhdakaaGreatDoor
open Go Go.RowKit Go.Proofs.YteigplfldhdakaaGreatDoor.Ev MapKept
def kw (x : Wd) : Ke := (.string x.1, x.2)
def entW (b : Wd) : Ent := ((false, [.str b.1.data.toList]), (false, [.f (.int .i64 b.2)]))
def entsW (n : Nat) (T : List Wd) : List MapEntry := entsV n (T.map kw)
/-- block b is a map of words -/
def MapW (w : World) (b : Nat) (T : List Wd) : Prop := w.heap[b]? = some (.map (entsW 0 T).toArray T.length)
theorem ents_relW (γ : Pl) : ∀ (T : List Wd) (n : Nat), entsR γ n (T.map entW) (entsW n T)
  | [], n => trivial
  | b :: r, n => ⟨⟨rfl, ⟨_, rfl, rfl⟩, rfl⟩, ents_relW γ r (n + 1)⟩
theorem ents_eqW {γ : Pl} : ∀ {T : List Wd} {n : Nat} {cs : List MapEntry}, entsR γ n (T.map entW) cs → cs = entsW n T
  | [], n, [], _ => rfl
  | b :: r, n, c :: cs, h => by
    have h2 := ents_eqW h.2
    obtain ⟨⟨h3, ⟨x, hx, h4⟩, h5⟩, _⟩ := h
    obtain ⟨ck, cv, cb⟩ := c
    cases hx
    have h4 : cv = .int .i64 b.2 := h4
    have h3 : ck = .string b.1 := h3
    have h5 : cb = n := h5
    rw [entsW, h2, h3, h4, h5]
    rfl
  | [], n, _ :: _, h => h.elim
  | _ :: _, n, [], h => h.elim
def pl2W (It Bm : Nat) : Pl := fun k => if k = 0 then some (It, 0, 0) else if k = 1 then some (Bm, 0, 0) else none
def as2W (T : List Wd) (seen : List Nat) : AS := ⟨[(0, .mit 1 T.length seen T.length), (1, .map (T.map entW))], 2⟩
theorem hr2W {W : World} {It Bm : Nat} {T : List Wd} {seen : List Nat} (hM : MapW W Bm T) (hI : MIt W It Bm T.length seen) (hne : It ≠ Bm) : HR (pl2W It Bm) (as2W T seen) W := by
  refine ⟨fun b o hb => ?_, by simp [as2W], fun b b' x y h1 h2 h3 h4 h5 => ?_, fun k hk => ?_⟩
  · rcases List.mem_cons.1 hb with h | h
    · cases h
      exact ⟨It, 0, 0, Bm, 0, 0, rfl, rfl, rfl, hI⟩
    · rcases List.mem_cons.1 h with h | h
      · cases h
        refine ⟨Bm, 0, 0, (entsW 0 T).toArray, rfl, ?_, ents_relW _ T 0⟩
        rw [List.length_map]
        exact hM
      · cases h
  · have hk : ∀ b, b ∈ (as2W T seen).H.map (·.1) → b = 0 ∨ b = 1 := fun b hb => by simpa [as2W] using hb
    rcases hk b h1 with rfl | rfl <;> rcases hk b' h2 with rfl | rfl
    · exact absurd rfl h3
    · cases h4; cases h5; exact hne
    · cases h4; cases h5; exact fun e => hne e.symm
    · exact absurd rfl h3
  · have hk : 2 ≤ k := hk
    unfold pl2W
    rw [if_neg (by omega), if_neg (by omega)]
/-- what a step leaves alone -/
structure StepKW (It Bm : Nat) (T : List Wd) (W w' : World) : Prop where
  same : w'.os = W.os ∧ w'.tape = W.tape ∧ w'.output = W.output
  size : W.heap.size ≤ w'.heap.size
  keep : ∀ k, k < W.heap.size → k ≠ It → k ≠ Bm → w'.heap[k]? = W.heap[k]?
  map : MapW w' Bm T
theorem next_mW {W : World} {It Bm : Nat} {T : List Wd} {seen : List Nat} (hM : MapW W Bm T) (hI : MIt W It Bm T.length seen) (hne : It ≠ Bm) (ty : Nat) :
    ∃ u w', (Instr.next (.pointer (some ⟨It, 0, none⟩)) false ty).run Tryz.prog W = .ok u w' ∧ StepKW It Bm T W w' ∧
      (((∀ i, i < T.length → i ∈ seen) ∧ u = .tuple #[.bool false] ∧ MIt w' It Bm T.length seen) ∨
       (∃ (i : Nat) (hi : i < T.length), i ∉ seen ∧ u = .tuple #[.bool true, Value.string T[i].1, .int .i64 T[i].2] ∧ MIt w' It Bm T.length (seen ++ [i]))) := by
  have hH := hr2W hM hI hne
  have hkf : keysFit (as2W T seen) (.sc (.pt 0 0)) = true := by
    show (T.map entW).all (fun e => keyFit e.1) = true
    rw [List.all_map]
    exact List.all_eq_true.2 fun b _ => rfl
  have hpos : ∃ outs, nextA (as2W T seen) (.sc (.pt 0 0)) = some outs ∧ ∀ v s', (v, s') ∈ outs → (leftA T.length seen = [] ∧ v = .tu [(false, [.f (.bool false)])] ∧ s' = as2W T seen) ∨
      (∃ (i : Nat) (hi : i < T.length), i ∈ leftA T.length seen ∧ v = .tu [(false, [.f (.bool true)]), keyE (entW T[i]).1, (entW T[i]).2] ∧ s' = as2W T (seen ++ [i])) := by
    unfold nextA
    simp only [as2W, fnd, beq_self_eq_true, if_true, show ((0 : Nat) == 1) = false from rfl, Bool.false_eq_true, if_false, List.length_map, and_self]
    cases hq : leftA T.length seen with
    | nil => exact ⟨_, rfl, fun v s' h => by
        rcases List.mem_cons.1 h with h | h
        · cases h; exact .inl ⟨rfl, rfl, rfl⟩
        · cases h⟩
    | cons a r =>
      refine ⟨_, rfl, fun v s' h => ?_⟩
      obtain ⟨i, hi, he⟩ := List.mem_filterMap.1 h
      rw [List.getElem?_map] at he
      by_cases hil : i < T.length
      · rw [List.getElem?_eq_getElem hil] at he
        simp only [Option.map_some] at he
        rw [if_pos (show keyFit (entW T[i]).1 = true from rfl)] at he
        cases he
        exact .inr ⟨i, hil, hi, rfl, rfl⟩
      · rw [List.getElem?_eq_none (by omega)] at he
        cases he
  obtain ⟨outs, ho, hall⟩ := hpos
  obtain ⟨v, s', u, w', h1, h2, h3⟩ := next_ok (P := Tryz.prog) (ty := ty) (u := .pointer (some ⟨It, 0, none⟩)) hH (x := .sc (.pt 0 0)) ⟨It, 0, 0, rfl, rfl⟩ hkf ho
  obtain ⟨γ', k1, k2, k3⟩ := h3
  have g0 : γ' 0 = some (It, 0, 0) := k2.sub 0 _ rfl
  have g1 : γ' 1 = some (Bm, 0, 0) := k2.sub 1 _ rfl
  have hkeep : ∀ k, k < W.heap.size → k ≠ It → k ≠ Bm → w'.heap[k]? = W.heap[k]? := fun k hk h4 h5 => k2.keep k hk fun ⟨q, d, z, q1, q2⟩ => by
    have : q = 0 ∨ q = 1 := by simpa [as2W] using q1
    rcases this with rfl | rfl
    · cases q2; exact h4 rfl
    · cases q2; exact h5 rfl
  have hst : ∀ seen', s' = as2W T seen' → StepKW It Bm T W w' ∧ MIt w' It Bm T.length seen' := fun seen' e => by
    subst e
    obtain ⟨B, d, S, M, d', S', q1, q2, q3, q4⟩ := k1.obj 0 (.mit 1 T.length seen' T.length) (List.mem_cons_self ..)
    rw [g0] at q1
    rw [g1] at q2
    cases q1
    cases q2
    obtain ⟨B, d, S, es, p1, p2, p3⟩ := k1.obj 1 (.map (T.map entW)) (List.mem_cons_of_mem _ (List.mem_cons_self ..))
    rw [g1] at p1
    cases p1
    have e2 := ents_eqW p3
    refine ⟨⟨k2.same, k2.size, hkeep, ?_⟩, q4⟩
    unfold MapW
    rw [p2, List.length_map]
    congr 2
    rw [← e2]
  refine ⟨u, w', h2, ?_⟩
  rcases hall v s' h1 with ⟨hl, rfl, rfl⟩ | ⟨i, hi, him, rfl, rfl⟩
  · obtain ⟨c1, c2⟩ := hst seen rfl
    refine ⟨c1, .inl ⟨fun i hi => ?_, ?_, c2⟩⟩
    · by_cases hs : i ∈ seen
      · exact hs
      · exfalso
        have : i ∈ leftA T.length seen := by
          unfold leftA
          rw [List.mem_filter]
          exact ⟨by simpa using hi, by simpa using hs⟩
        rw [hl] at this
        cases this
    · obtain ⟨us, rfl, hr⟩ := k3
      match us, hr with
      | [u0], hr =>
        obtain ⟨x, hx, h4⟩ := hr.1
        cases hx
        have h4 : u0 = .bool false := h4
        rw [h4]
      | [], hr => exact hr.elim
      | _ :: _ :: _, hr => exact hr.2.elim
  · obtain ⟨c1, c2⟩ := hst (seen ++ [i]) rfl
    refine ⟨c1, .inr ⟨i, hi, ?_, ?_, c2⟩⟩
    · unfold leftA at him
      rw [List.mem_filter] at him
      simpa using him.2
    · obtain ⟨us, rfl, hr⟩ := k3
      match us, hr with
      | [u0, u1, u2], hr =>
        obtain ⟨x, hx, h4⟩ := hr.1
        obtain ⟨ky, hk0, hks⟩ := hr.2.1
        obtain ⟨y, hy, h6⟩ := hr.2.2.1
        cases hx
        cases hy
        cases hk0
        have h4 : u0 = .bool true := h4
        have h6 : u2 = .int .i64 T[i].2 := h6
        have e1 : u1 = .string T[i].1 := hks
        rw [h4, h6, e1]
      | [], hr => exact hr.elim
      | [_], hr => exact hr.2.elim
      | [_, _], hr => exact hr.2.2.elim
      | _ :: _ :: _ :: _ :: _, hr => exact hr.2.2.2.elim
theorem entry_mW {W : World} {It Bm : Nat} {T : List Wd} {seen : List Nat} {i : Nat} (hM : MapW W Bm T) (hI : MIt W It Bm T.length (seen ++ [i])) (hne : It ≠ Bm) (hi : i < T.length) :
    (Instr.entry (.pointer (some ⟨It, 0, none⟩))).run Tryz.prog W = .ok (.tuple #[Value.string T[i].1, .int .i64 T[i].2]) W := by
  have hH := hr2W hM hI hne
  have he : entryA (as2W T (seen ++ [i])) (.sc (.pt 0 0)) = some (.tu [keyE (entW T[i]).1, (entW T[i]).2]) := by
    unfold entryA
    simp only [as2W, fnd, beq_self_eq_true, if_true, show ((0 : Nat) == 1) = false from rfl, Bool.false_eq_true, if_false, List.length_map, List.getLast?_append, List.getLast?_singleton, Option.some_or, List.getElem?_map, List.getElem?_eq_getElem hi, Option.map_some]
    rw [if_pos (show keyFit (entW T[i]).1 = true from rfl)]
  obtain ⟨u, h1, h2⟩ := entry_ok (P := Tryz.prog) (u := .pointer (some ⟨It, 0, none⟩)) hH (x := .sc (.pt 0 0)) ⟨It, 0, 0, rfl, rfl⟩ he
  rw [h1]
  obtain ⟨us, rfl, hr⟩ := h2
  match us, hr with
  | [u1, u2], hr =>
    obtain ⟨ky, hk0, hks⟩ := hr.1
    obtain ⟨y, hy, h6⟩ := hr.2.1
    cases hy
    cases hk0
    have h6 : u2 = .int .i64 T[i].2 := h6
    have e1 : u1 = .string T[i].1 := hks
    rw [h6, e1]
  | [], hr => exact hr.elim
  | [_], hr => exact hr.2.elim
  | _ :: _ :: _ :: _, hr => exact hr.2.2.elim
theorem range_mW {W : World} {Bm : Nat} {T : List Wd} (hM : MapW W Bm T) : (Instr.range 148 (.map (some Bm))).run Tryz.prog W = .ok (.pointer (some ⟨W.heap.size, 0, none⟩)) (W.alloc (.mapIter (some Bm) T.length #[] T.length)) := by
  simp [Instr.range, run_underlying Tryz.underlying148, MapKept.run_getObj_map hM, Result.andThen]
end Go.Proofs.YteigplfldhdakaaGreatDoor
/- slices.SortedStableFunc of words. -/
namespace Go.Proofs.YteigplfldhdakaaGreatDoor
open Go.RowKit Go.Shelf Go.Sort
section
attribute [local go_sem] Oper.semAt_some
set_option maxRecDepth 100000 in
set_option maxHeartbeats 2000000 in
theorem values1_in (n : Nat) (hn : 1 ≤ n) (lp Bn : Nat) (A : Option Addr) (c : Nat) (L : List Wd) (hL : L.length ≤ 2000000) (J Jx : Nat → World → Prop)
    (hJ : ∀ k X Y, J k X → Touch (fun _ => False) X Y → J k Y)
    (w0 W : World) (hW0 : Below w0.heap.size w0 W) (hY : ∀ k W1, k < L.length → J k W1 → YieldAt Fence.wide (n - 1) Tryz.prog lp (wdArgs L k) W1 fun e W' =>
      (e = .returned (.bool true) ∧ J (k + 1) W' ∧ Keep (fun j => j < w0.heap.size) W1 W') ∨ (e = .returned (.bool false) ∧ Jx (k + 1) W'))
    (hBn : w0.heap[Bn]? = some (.cells #[.slice A L.length c] 44 (0, 0))) (hS : WdS w0 (.slice A L.length c) L) (h0 : J 0 W) :
    CallsIn Fence.wide n Tryz.prog 156 #[.func (.yield lp) #[] #[], .pointer (some ⟨Bn, 0, none⟩)] W fun e W' => (∃ v, e = .returned v) ∧ (J L.length W' ∨ ∃ k, k < L.length ∧ Jx (k + 1) W') := by
  have hB := hW0.block Bn (blk_lt hBn)
  have hS2 := hS.below hW0
  rw [hBn] at hB
  have HO := hid (SL.lt hS)
  have HS := hid hS2
  have HB := hid hB
  have HY := hid hY
  have hle := hW0.size
  clear hBn hS hW0 hB hS2 hY
  obtain ⟨b0, -⟩ := box_cell HB.out
  refine callsIn_of_wp Tryz.func156 rfl trivial ?_ rfl
  simp only [Tryz.ntmps156, List.size_toArray, List.length_cons, List.length_nil, Nat.reduceAdd, Nat.reduceSub, Array.replicate_succ, Array.replicate_zero, List.push_toArray, List.append_toArray, List.nil_append, List.cons_append]
  gi_wp2
  gi_loopw [7] (fun iv wr => ∃ (i : Nat), i ≤ L.length ∧ iv = .int .i64 (i : Int) ∧ J i wr ∧ Hid (WdS wr (.slice A L.length c) L) ∧ w0.heap.size ≤ wr.heap.size) (fun iv _ => L.length - (intOf iv).toNat)
  case atStart => exact ⟨0, Nat.zero_le _, rfl, h0, HS, hle⟩
  case round =>
    obtain ⟨i, hi, rfl, hJi, HSr, hlr⟩ := hrel
    clear HB HS b0 h0
    by_cases hil : i < L.length
    · have hil2 : (i : Int) < (L.length : Int) := by omega
      obtain ⟨g, off, hA, hgl, k0, k1⟩ := WdS.at2 HSr.out hil
      subst hA
      have hgi : L.getD i wd0 = L[i] := by rw [List.getD_eq_getElem?_getD, List.getElem?_eq_getElem hil]; rfl
      have hy0 := HY.out i
      unfold wdArgs at hy0
      rw [hgi] at hy0
      obtain ⟨x, hx⟩ : ∃ x, L[i] = x := ⟨_, rfl⟩
      obtain ⟨f, m⟩ := x
      rw [hx] at k0 k1 hy0
      unfold wdV at hy0
      dsimp only at k0 k1 hy0
      have HY0 := hid hy0
      have hJ1 := fun o => hJ i _ _ hJi ((Touch.refl _ wr).alloc o)
      clear hy0 hx hgi
      obtain ⟨fn, tmps, assign, body, hy, hR⟩ := HY0.out (wr.alloc (.cells #[.string f, .int .i64 m] 81)) hil (hJ1 _)
      gi_wp2
      refine hR.mono ?_
      rintro e W3 (⟨rfl, hJ3, hk3⟩ | ⟨rfl, hJx3⟩)
      · have HS3 : Hid (WdS W3 (.slice (some ⟨g, off, none⟩) L.length c) L) := hid (SL.keep (SL.alloc HSr.out _) fun k hk => hk3.block k (HO.out k hk))
        have hl3 := hk3.size
        rw [World.size_alloc] at hl3
        clear hy hR hk3
        gi_wp2
        exact ⟨⟨i + 1, by omega, by simp, hJ3, HS3, by omega⟩, by simp [intOf]; omega⟩
      · clear hy hR
        gi_wp2
        refine bodyPost_ret (results_none rfl _ _ _) rfl ?_
        exact ⟨⟨_, rfl⟩, .inr ⟨i, hil, hJx3⟩⟩
    · obtain rfl : i = L.length := by omega
      have hil2 : ¬ (L.length : Int) < (L.length : Int) := by omega
      gi_wp2
      go_end0
      exact ⟨⟨_, rfl⟩, .inl hJi⟩
end
theorem values_seq (n : Nat) (hn : 1 ≤ n) (Bn : Nat) (A : Option Addr) (c : Nat) (L : List Wd) (hL : L.length ≤ 2000000) (w : World) (hBn : w.heap[Bn]? = some (.cells #[.slice A L.length c] 44 (0, 0))) (hS : WdS w (.slice A L.length c) L) :
    SeqL Fence.wide n Tryz.prog 156 #[.pointer (some ⟨Bn, 0, none⟩)] (wdArgs L) L.length (fun _ j => j < w.heap.size) (fun _ _ => False) w := fun l J Jx W hW hJ hJx hY h0 =>
  values1_in n hn l Bn A c L hL J Jx hJ w W hW hY hBn hS h0
attribute [local go_sem ↓] Go.wp_at_zero Go.wp_at_succ
set_option maxRecDepth 100000 in
set_option maxHeartbeats 1100000 in
theorem values_c (A : Option Addr) (n c : Nat) (w : World) : Calls Tryz.prog 104 #[.slice A n c] w fun e w' => e = .returned (.func (.func 156) #[] #[.pointer (some ⟨w.heap.size, 0, none⟩)]) ∧ w' = w.alloc (.cells #[.slice A n c] 44) := by
  go_enter Tryz.func104, Tryz.ntmps104
  go_wp2
  go_ret
  exact ⟨rfl, rfl⟩
theorem collectW_c {w : World} {Bn : Nat} {A : Option Addr} {c : Nat} {L : List Wd} (hL : L.length ≤ 1100000) (hBn : w.heap[Bn]? = some (.cells #[.slice A L.length c] 44 (0, 0))) (hS : WdS w (.slice A L.length c) L) :
    Calls Tryz.prog 154 #[.func (.func 156) #[] #[.pointer (some ⟨Bn, 0, none⟩)]] w (ColWP L w) := by
  have hc := callsIn_wide.1 (appW_in 6 (by omega) w 156 #[.pointer (some ⟨Bn, 0, none⟩)] (enters_of Tryz.func156 (by kernel_rfl) rfl) L hL w (Below.refl _ _) (fun j => j < w.heap.size) (values_seq 5 (by omega) Bn A c L (by omega) w hBn hS) (fun k hk => hk))
  have HC := hid hc
  clear hc hBn hS
  go_enter Tryz.func154, Tryz.ntmps154
  go_wp2_with (go_at_call 187; refine HC.out.mono ?_; rintro e w1 ⟨A, c, rfl, h1, h2, h3⟩; have H1 := hid h1; have H2 := hid h2; have H3 := hid h3; clear h1 h2 h3)
  go_ret
  exact ⟨A, c, rfl, H1.out, H2.out, H3.out⟩
set_option maxRecDepth 100000 in
set_option maxHeartbeats 1100000 in
theorem sortNone_c (A : Option Addr) (c : Nat) (w : World) : Calls Tryz.prog 155 #[.slice A 0 c, .func (.func 105) #[] #[]] w fun e w' => e = .returned (.tuple #[]) ∧ w' = w := by
  have hi := AnyF.insertionSortCmpFunc_none insW A c (.func (.func 105) #[] #[]) w
  have HI : Hid (Calls Tryz.prog 219 #[.slice A 0 c, .int .i64 0, .int .i64 0, .func (.func 105) #[] #[]] w fun e w' => e = .returned (.tuple #[]) ∧ w' = w) := hid hi
  have h8 : Calls Tryz.prog 188 #[.slice A 0 c, .int .i64 0, .func (.func 105) #[] #[]] w fun e w' => e = .returned (.tuple #[]) ∧ w' = w := by
    go_enter Tryz.func188, Tryz.ntmps188
    go_wp2
    go_loopw [7, 8] (fun av bv wr => av = .int .i64 0 ∧ bv = .int .i64 20 ∧ wr = w) (fun _ _ _ => 0)
    case atStart => exact ⟨rfl, rfl, rfl⟩
    case round =>
      obtain ⟨rfl, rfl, rfl⟩ := hrel
      go_wp2_with (go_at_call 219; refine HI.out.mono ?_; rintro e w1 ⟨rfl, rfl⟩)
      go_loopw [6] (fun sv wq => sv = .int .i64 20 ∧ wq = w1) (fun _ _ => 0)
      case atStart => exact ⟨rfl, rfl⟩
      case round =>
        obtain ⟨rfl, rfl⟩ := hrel
        go_wp2
        go_end0
        exact ⟨rfl, rfl⟩
  have H8 := hid h8
  clear hi HI h8
  go_enter Tryz.func155, Tryz.ntmps155
  go_wp2_with (go_at_call 188; refine H8.out.mono ?_; rintro e w1 ⟨rfl, rfl⟩)
  go_end0
  exact ⟨rfl, rfl⟩
/-- in order: none lies behind a later one -/
def srtdW (L : List Wd) : Prop := ∀ i j, i < j → j < L.length → ltW (L.getD j wd0) (L.getD i wd0) = false
theorem sortW_c {w : World} {v : Value} {L : List Wd} (h : WdS w v L) (hl : L.length ≤ 100000000) : Calls Tryz.prog 155 #[v, .func (.func 105) #[] #[]] w fun e w' =>
    e = .returned (.tuple #[]) ∧ ∃ M, M.Perm L ∧ srtdW M ∧ WdS w' v M ∧ Touch (fun b => v.ownBlock = some b) w w' := by
  obtain ⟨A, c, rfl, hc⟩ := SL.form h
  rcases Nat.eq_zero_or_pos L.length with h0 | h0
  · obtain rfl : L = [] := List.eq_nil_of_length_eq_zero h0
    exact (sortNone_c A c w).mono fun e w' ⟨h1, h2⟩ => by
      rw [h2]
      exact ⟨h1, [], List.Perm.refl _, fun i j _ hj => by simp at hj, h, Touch.refl _ _⟩
  · obtain ⟨g, off, cap, hv, _, _, _, _⟩ := SL.open_ h h0
    obtain ⟨rfl, -, rfl⟩ := Value.slice.inj hv
    have hH := SL.holdsK wdC_len h h0
    have R : RowK wdC 2 w g off L.toArray := ⟨wdC_len, wdC_one, hH, SL.lt h g rfl⟩
    have hs := sortStable_c (n := L.length) (cap := c) R (by simp) (by simp) (by omega) (SWK.start hH)
    refine hs.mono fun e w' ⟨h1, d', ⟨n, os, hw⟩, hz, hp, hso⟩ => ⟨h1, d'.toList, ?_, ?_, ?_⟩
    · have h3 := hp.2.2
      have e1 : (d'.extract 0 L.length).toList = d'.toList := by rw [← hz]; simp
      have e2 : (L.toArray.extract 0 L.length).toList = L := by simp
      rw [e1, e2] at h3
      exact h3
    · intro i j hij hj
      have hj2 : j < d'.size := by simpa using hj
      have h4 := hso i j (Nat.zero_le _) hij (by omega)
      rw [getElem!_pos _ j hj2, getElem!_pos _ i (by omega)] at h4
      have ei : d'.toList.getD i wd0 = d'[i]'(by omega) := by simp [List.getD_eq_getElem?_getD, show i < d'.size by omega]
      have ej : d'.toList.getD j wd0 = d'[j] := by simp [List.getD_eq_getElem?_getD, hj2]
      rw [ei, ej]
      exact h4
    · have hlen : d'.toList.length = L.length := by simpa using hz
      have h2 := SL.sorted wdC_len h h0 n d'.toList (by simpa using hz) os
      rw [Array.toArray_toList] at h2
      have hw2 : w' = Sort.grow (Sort.putRowK wdC 2 (Sort.ahead w n) g off d') os := hw
      rw [hw2]
      refine ⟨?_, h2.2.mono fun k hk => by subst hk; rfl⟩
      unfold WdS
      have h3 := h2.1
      rw [hlen] at h3 ⊢
      exact h3
/-- what SortedStableFunc hands back -/
def SortedP (L : List Wd) (w : World) (e : Ending) (w' : World) : Prop :=
  Below w.heap.size w w' ∧ ∃ A c M, e = .returned (.slice A M.length c) ∧ M.Perm L ∧ srtdW M ∧ WdS w' (.slice A M.length c) M
set_option maxRecDepth 100000 in
set_option maxHeartbeats 1100000 in
theorem sortedStable_c {w : World} {Bn : Nat} {A : Option Addr} {c : Nat} {L : List Wd} (hL : L.length ≤ 1100000) (hBn : w.heap[Bn]? = some (.cells #[.slice A L.length c] 44 (0, 0))) (hS : WdS w (.slice A L.length c) L) :
    Calls Tryz.prog 103 #[.func (.func 156) #[] #[.pointer (some ⟨Bn, 0, none⟩)], .func (.func 105) #[] #[]] w (SortedP L w) := by
  have HC := hid (collectW_c hL hBn hS)
  clear hBn hS
  go_enter Tryz.func103, Tryz.ntmps103
  go_wp2_with (first
    | (go_at_call 154; refine HC.out.mono ?_; rintro e w1 ⟨A1, c1, rfl, h1, h2, h3⟩; have H2 := hid h2; have H3 := hid h3; have HS := hid (sortW_c h1 (by omega)); clear h1 h2 h3)
    | (go_at_call 155; refine HS.out.mono ?_; rintro e w2 ⟨rfl, M, k1, k2, k3, k4⟩; have hl := k1.length_eq; have K3 := hid k3; have K4 := hid k4; clear k3 k4))
  go_ret
  refine ⟨K4.out.below H3.out (fun k hk => H2.out k hk), A1, c1, M, by rw [hl]; rfl, k1, k2, ?_⟩
  rw [hl]
  exact K3.out
end Go.Proofs.YteigplfldhdakaaGreatDoor
/- lexicon: Check, each, Is, of lawful words. -/
namespace Go.Proofs.YteigplfldhdakaaGreatDoor
open Go.RowKit Go.Shelf Go.Sort
attribute [local go_sem ↓] Go.wp_at_zero Go.wp_at_succ
/-- a lawful word -/
def lawW (x : Wd) : Prop := TokL x.1 ∧ 1 ≤ x.2 ∧ x.2 ≤ 1073741824
theorem tokL_c {t : ByteArray} (h : TokL t) (w : World) (hT : Tab w) : Calls Tryz.prog 118 #[.string t] w fun e w' => Below w.heap.size w w' ∧ ∃ A c, e = .returned (.tuple #[.slice A (runesOf (bys t)).length c, .int .i64 0]) ∧ RS w' (.slice A (runesOf (bys t)).length c) (runesOf (bys t)) :=
  (token_c t h.small w hT).mono fun e w' ⟨h1, h2⟩ => by
    rcases h2 with ⟨h2, _⟩ | ⟨_, _, _, _, A, c, h3, h4, _⟩
    · exact absurd h.err h2
    · have hl : (runesOf (bys t)).length = cntR (bys t) := runesTo_length _ _
      rw [hl]
      exact ⟨h1, A, c, h3, h4⟩
set_option maxRecDepth 100000 in
set_option maxHeartbeats 2000000 in
theorem checkW_c (x : Wd) (hx : lawW x) (w : World) (hT : Tab w) : Calls Tryz.prog 153 #[.agg #[.string x.1, .int .i64 x.2]] w fun e w' => e = .returned (.int .i64 0) ∧ Below w.heap.size w w' := by
  obtain ⟨f, n⟩ := x
  obtain ⟨h1, h2, h3⟩ := hx
  dsimp only at h1 h2 h3 ⊢
  have HB0 := hid (balloc (Below.refl _ w) (.cells #[.string f, .int .i64 n] 81))
  have HC := hid (tokL_c h1 (w.alloc (.cells #[.string f, .int .i64 n] 81)) (hT.bel HB0.out))
  have g0 := heap_alloc_new w (.cells #[.string f, .int .i64 n] 81)
  have HG0 := hid g0
  have hn1 : ¬ n < 1 := by omega
  have hn3 : ¬ (1073741824 : Int) < n := by omega
  clear g0 h1 hT
  go_enter Tryz.func153, Tryz.ntmps153
  go_wp2_with (go_at_call 118; refine HC.out.mono ?_; rintro e w1 ⟨hb1, A, c, rfl, -⟩; have HB1 := hid (bthen HB0.out hb1); have hg := (hb1.block _ (blk_lt HG0.out)).trans HG0.out; have a0 : w1.cell? ⟨w.heap.size, 0, none⟩ = some (.string f) := (by rw [cell_of_row w1 _ 0 _ _ _ hg]; rfl); have a1 : w1.cell? ⟨w.heap.size, 1, none⟩ = some (.int .i64 n) := (by rw [cell_of_row w1 _ 1 _ _ _ hg]; rfl); clear hb1 hg)
  go_ret
  exact ⟨by simp, HB1.out⟩
set_option maxRecDepth 100000 in
set_option maxHeartbeats 2000000 in
theorem each1_c (x : Wd) (hx : lawW x) (w : World) (hT : Tab w) : Calls Tryz.prog 152 #[.agg #[.string x.1, .int .i64 x.2]] w fun e w' => e = .returned (.bool false) ∧ Below w.heap.size w w' := by
  have HB0 := hid (balloc (Below.refl _ w) (.cells #[.string x.1, .int .i64 x.2] 81))
  have HC := hid (checkW_c x hx (w.alloc (.cells #[.string x.1, .int .i64 x.2] 81)) (hT.bel HB0.out))
  obtain ⟨f, n⟩ := x
  dsimp only at HB0 HC ⊢
  clear hx hT
  go_enter Tryz.func152, Tryz.ntmps152
  go_wp2_with (go_at_call 153; refine HC.out.mono ?_; rintro e w1 ⟨rfl, hb1⟩; have HB1 := hid (bthen HB0.out hb1); clear hb1)
  go_ret
  exact ⟨by simp, HB1.out⟩
set_option maxRecDepth 100000 in
set_option maxHeartbeats 2000000 in
theorem index_c {w : World} {v : Value} {L : List Wd} (h : WdS w v L) (hL : ∀ x ∈ L, lawW x) (hT : Tab w) (hl : L.length ≤ 1000000000) : Calls Tryz.prog 151 #[v, .func (.func 152) #[] #[]] w fun e w' => e = .returned (.int .i64 (-1)) ∧ Below w.heap.size w w' := by
  obtain ⟨A, c, rfl, hc⟩ := SL.form h
  have HS := hid h
  have HL := hid hL
  have HT := hid hT
  clear h hL hT
  go_enter Tryz.func151, Tryz.ntmps151
  go_wp2
  go_loopw [8] (fun iv wr => ∃ k : Nat, k ≤ L.length ∧ iv = .int .i64 (k : Int) ∧ Hid (Below w.heap.size w wr)) (fun iv _ => L.length - (intOf iv).toNat)
  case atStart => exact ⟨0, Nat.zero_le _, rfl, hid (Below.refl _ _)⟩
  case round =>
    obtain ⟨k, hk, rfl, HB⟩ := hrel
    by_cases hkl : k < L.length
    · have hkl2 : (k : Int) < (L.length : Int) := by omega
      obtain ⟨g, off, hA, hgl, k0, k1⟩ := WdS.at2 (HS.out.below HB.out) hkl
      subst hA
      have hcc := each1_c L[k] (HL.out _ (List.getElem_mem hkl)) wr (HT.out.bel HB.out)
      obtain ⟨x, hx⟩ : ∃ x, L[k] = x := ⟨_, rfl⟩
      rw [hx] at k0 k1 hcc
      obtain ⟨f, n⟩ := x
      dsimp only at k0 k1 hcc
      have HC := hid hcc
      clear hcc hx
      go_wp2_with (go_at_call 152; refine HC.out.mono ?_; rintro e w1 ⟨rfl, hb1⟩; have HB1 := hid (bthen HB.out hb1); clear hb1)
      exact ⟨⟨k + 1, by omega, by simp, HB1⟩, by simp [intOf]; omega⟩
    · have hkl2 : ¬ (k : Int) < (L.length : Int) := by omega
      go_wp2
      go_ret
      exact ⟨rfl, HB.out⟩
set_option maxRecDepth 100000 in
set_option maxHeartbeats 2000000 in
theorem eachW_c {w : World} {v : Value} {L : List Wd} (h : WdS w v L) (hL : ∀ x ∈ L, lawW x) (hT : Tab w) (hl : L.length ≤ 1000000000) : Calls Tryz.prog 102 #[v] w fun e w' => e = .returned (.int .i64 0) ∧ Below w.heap.size w w' := by
  have HC := hid (index_c h hL hT hl)
  obtain ⟨A, c, rfl, hc⟩ := SL.form h
  clear h hL hT
  go_enter Tryz.func102, Tryz.ntmps102
  go_wp2_with (go_at_call 151; refine HC.out.mono ?_; rintro e w1 ⟨rfl, hb1⟩; have HB1 := hid hb1; clear hb1)
  go_ret
  exact ⟨by simp, HB1.out⟩
/-- rising words -/
def risW (L : List Wd) : Prop := ∀ i j, i < j → j < L.length → ltS (L.getD i wd0).1 (L.getD j wd0).1 = true
set_option maxRecDepth 100000 in
set_option maxHeartbeats 4000000 in
theorem isW_c {w : World} {v : Value} {L : List Wd} (h : WdS w v L) (hL : ∀ x ∈ L, lawW x) (hr : risW L) (hT : Tab w) (hl : L.length ≤ 65536) : Calls Tryz.prog 69 #[v] w fun e w' => e = .returned (.int .i64 0) ∧ Below w.heap.size w w' := by
  have HC := hid (eachW_c h hL hT (by omega))
  obtain ⟨A, c, rfl, hc⟩ := SL.form h
  have HS := hid h
  have HR := hid hr
  clear h hL hT hr
  go_enter Tryz.func69, Tryz.ntmps69
  go_wp2_with (go_at_call 102; refine HC.out.mono ?_; rintro e w1 ⟨rfl, hb1⟩; have HB1 := hid hb1; clear hb1)
  go_loopw [12] (fun iv wr => ∃ k : Nat, k ≤ L.length ∧ iv = .int .i64 (k : Int) ∧ Hid (Below w.heap.size w wr)) (fun iv _ => L.length - (intOf iv).toNat)
  case atStart => exact ⟨0, Nat.zero_le _, rfl, HB1⟩
  case round =>
    obtain ⟨k, hk, rfl, HB⟩ := hrel
    by_cases hkl : k < L.length
    · have hkl2 : (k : Int) < (L.length : Int) := by omega
      by_cases hk0 : k = 0
      · subst hk0
        go_wp2
        go_quiet (fail)
        go_wp2
        exact ⟨⟨1, by omega, by simp, hid (Below.drewN' HB.out nq)⟩, by simp [intOf]; omega⟩
      · have hk1 : 0 < k := by omega
        have hk1b : decide (0 < k) = true := decide_eq_true hk1
        obtain ⟨g, off, hA, hgl, k0, k1⟩ := WdS.at2 (HS.out.below HB.out) hkl
        subst hA
        obtain ⟨p, hp⟩ : ∃ p, p + 1 = k := ⟨k - 1, by omega⟩
        have hpl : p < L.length := by omega
        obtain ⟨g', off', hA', hgl', j0, j1⟩ := WdS.at2 (HS.out.below HB.out) (k := p) hpl
        cases hA'
        have hwr : IntKind.i64.wrap ((k : Int) - 1) = (p : Int) := by rw [IntKind.wrap_i64]; omega
        have hkl3 : (p : Int) < (L.length : Int) := by omega
        have hk00 : (0 : Int) ≤ (p : Int) := by omega
        have hlt := HR.out p k (by omega) hkl
        rw [List.getD_eq_getElem?_getD, List.getD_eq_getElem?_getD, List.getElem?_eq_getElem hpl, List.getElem?_eq_getElem hkl] at hlt
        dsimp only [Option.getD] at hlt
        obtain ⟨x, hx⟩ : ∃ x, L[p].1 = x := ⟨_, rfl⟩
        obtain ⟨y, hy⟩ : ∃ x, L[k].1 = x := ⟨_, rfl⟩
        rw [hx] at j0 hlt
        rw [hy] at k0 hlt
        have hno : Op.bytesLess x.toList y.toList = true := hlt
        clear hx hy hlt hp k1 j1
        go_wp2
        go_quiet (fail)
        go_wp2
        exact ⟨⟨k + 1, by omega, by simp, hid (Below.drewN' HB.out nq)⟩, by simp [intOf]; omega⟩
    · obtain rfl : k = L.length := by omega
      have hkl2 : ¬ (L.length : Int) < (L.length : Int) := by omega
      have h4i : ¬ (65536 : Int) < (L.length : Int) := by omega
      go_wp2
      go_ret
      exact ⟨rfl, HB.out⟩
/- lexicon: Normal, of words that are apart. -/
/-- words that are apart -/
def distW (L : List Wd) : Prop := (L.map (·.1)).Nodup
theorem ris_of {M L : List Wd} (hp : M.Perm L) (hs : srtdW M) (hd : distW L) : risW M := fun i j hij hj => by
  have hn : distW M := (hp.map _).nodup_iff.2 hd
  have hi : i < M.length := by omega
  have h1 := hs i j hij hj
  cases hq : ltS (M.getD i wd0).1 (M.getD j wd0).1 with
  | true => rfl
  | false =>
    exfalso
    have h2 := ltS_total hq h1
    rw [List.getD_eq_getElem?_getD, List.getD_eq_getElem?_getD, List.getElem?_eq_getElem hi, List.getElem?_eq_getElem hj] at h2
    dsimp only [Option.getD] at h2
    unfold distW at hn
    rw [List.nodup_iff_pairwise_ne, List.pairwise_map, List.pairwise_iff_getElem] at hn
    exact hn i j hi hj hij h2
/-- what Normal hands back -/
def NormalP (L : List Wd) (w : World) (e : Ending) (w' : World) : Prop :=
  Below w.heap.size w w' ∧ ∃ A c M, e = .returned (.tuple #[.slice A M.length c, .int .i64 0]) ∧ M.Perm L ∧ risW M ∧ WdS w' (.slice A M.length c) M ∧ ∀ k, (Value.slice A M.length c).ownBlock = some k → w.heap.size ≤ k
set_option maxRecDepth 100000 in
set_option maxHeartbeats 8000000 in
theorem normal_c {w : World} {v : Value} {L : List Wd} (h : WdS w v L) (hL : ∀ x ∈ L, lawW x) (hd : distW L) (hT : Tab w) (hl : L.length ≤ 65536) : Calls Tryz.prog 63 #[v] w (NormalP L w) := by
  have HC := hid (eachW_c h hL hT (by omega))
  obtain ⟨A, c, rfl, hc⟩ := SL.form h
  have HS := hid h
  have HD := hid hd
  clear h hL hT hd
  obtain ⟨i0, hi, hz0, hz1, hz2⟩ := info_parts info81
  go_enter Tryz.func63, Tryz.ntmps63
  go_wp2_with (first
    | (go_at_call 102; refine HC.out.mono ?_; rintro e w1 ⟨rfl, hb1⟩; have HB1 := hid hb1; clear hb1)
    | (go_at_call 104; refine (values_c _ _ _ _).mono ?_; rintro e w2 ⟨rfl, rfl⟩; have HSS := hid (sortedStable_c (L := L) (by omega) (heap_alloc_new w1 (.cells #[.slice A L.length c] 44)) (SL.alloc (HS.out.below HB1.out) _)))
    | (go_at_call 103; refine HSS.out.mono ?_; rintro e w3 ⟨hb3, AM, cM, M, rfl, hp, hs, hM⟩; have HB3 := hid (bthen (balloc HB1.out _) hb3); have HM := hid hM; have HP := hid hp; have HRI := hid (ris_of hp hs HD.out); clear hb3 hM hs))
  have hml : M.length ≤ 65536 := by rw [hp.length_eq]; exact hl
  clear hp
  go_loopw [5, 18] (fun ov iv wr => ∃ (k : Nat) (A' : Option Addr) (c' : Nat), k ≤ M.length ∧ iv = .int .i64 (k : Int) ∧ ov = .slice A' k c' ∧ Hid (SL wr 81 2 (.slice A' k c') k (wdsC (M.take k))) ∧ Hid (∀ b, (Value.slice A' k c').ownBlock = some b → w3.heap.size ≤ b) ∧ Hid (Below w3.heap.size w3 wr)) (fun ov iv _ => M.length - (intOf iv).toNat)
  case atStart => exact ⟨0, none, 0, Nat.zero_le _, rfl, rfl, hid (SL.nil _ _ _), hid (fun b hb => by simp [Value.ownBlock] at hb), hid (Below.refl _ _)⟩
  case round =>
    obtain ⟨k, A', c', hk, rfl, rfl, HO, HW, HB⟩ := hrel
    by_cases hkl : k < M.length
    · have hkl2 : (k : Int) < (M.length : Int) := by omega
      obtain ⟨g, off, hA, hgl, k0, k1⟩ := WdS.at2 (HM.out.below HB.out) hkl
      subst hA
      have htk : M.take (k + 1) = M.take k ++ [M[k]] := by rw [List.take_add_one, List.getElem?_eq_getElem hkl]; rfl
      have hgk : M.getD k wd0 = M[k] := by rw [List.getD_eq_getElem?_getD, List.getElem?_eq_getElem hkl]; rfl
      obtain ⟨x, hx⟩ : ∃ x, M[k] = x := ⟨_, rfl⟩
      rw [hx] at k0 k1 htk hgk
      obtain ⟨f, m⟩ := x
      dsimp only at k0 k1
      have hone : ∀ u ∈ [Value.string f, Value.int IntKind.i64 m], u.oneCell' = true := by simp [Value.oneCell']
      have h63 : k + 1 ≤ maxLen := by simp only [maxLen]; omega
      have hby : (k + 1) * 24 ≤ 140737488355328 := by omega
      have HTK := hid htk
      have fin : ∀ (X : World) (A2 : Option Addr) (c2 : Nat) (w2 : World), Below wr.heap.size wr X → SL w2 81 2 (.slice A2 (k + 1) c2) (k + 1) (wdsC (M.take k) ++ [.string f, .int .i64 m]) → (X.alloc (.cells #[.string f, .int .i64 m] 81)).grownBy w2 (Value.slice A' k c').ownBlock → (∀ b, (Value.slice A2 (k + 1) c2).ownBlock = some b → (Value.slice A' k c').ownBlock = some b ∨ (X.alloc (.cells #[.string f, .int .i64 m] 81)).heap.size ≤ b) →
          SL w2 81 2 (.slice A2 (k + 1) c2) (k + 1) (wdsC (M.take (k + 1))) ∧ (∀ b, (Value.slice A2 (k + 1) c2).ownBlock = some b → w3.heap.size ≤ b) ∧ Below w3.heap.size w3 w2 := fun X A2 c2 w2 hX hs2 hg2 ho2 => by
        have hb1 := bthen HB.out (balloc hX (.cells #[.string f, .int .i64 m] 81))
        refine ⟨?_, fun b hb => ?_, hb1.grown hg2 hb1.size fun b hb => HW.out b hb⟩
        · rw [HTK.out, wdsC_append]; exact hs2
        · rcases ho2 b hb with h1 | h1
          · exact HW.out b h1
          · exact Nat.le_trans hb1.size h1
      have HFIN := hid fin
      clear hx htk fin
      by_cases hk0 : k = 0
      · have hkng : ¬ (0 : Int) < (k : Int) := by omega
        have hkb : decide (0 < k) = false := decide_eq_false (by omega)
        have hkb2 : ¬ 0 < k := by omega
        clear hk0
        go_wp2
        go_quiet (fail)
        have HX := hid (bdrew (balloc (Below.refl _ wr) (.cells #[.string f, .int .i64 m] 81)) nq)
        have hgx : ((wr.alloc (.cells #[.string f, .int .i64 m] 81)).drewN nq).heap[wr.heap.size]? = some (.cells #[.string f, .int .i64 m] 81 (0, 0)) := heap_alloc_new wr _
        obtain ⟨X, hX⟩ : ∃ X, (wr.alloc (.cells #[.string f, .int .i64 m] 81)).drewN nq = X := ⟨_, rfl⟩
        rw [hX] at HX hgx
        try rw [hX]
        have x0 : X.cell? ⟨wr.heap.size, 0, none⟩ = some (.string f) := by rw [cell_of_row X _ 0 _ _ _ hgx]; rfl
        have x1 : X.cell? ⟨wr.heap.size, 1, none⟩ = some (.int .i64 m) := by rw [cell_of_row X _ 1 _ _ _ hgx]; rfl
        have HOX := hid (SL.alloc (SL.keep HO.out fun b hb => HX.out.block b (SL.lt HO.out b hb)) (.cells #[.string f, .int .i64 m] 81))
        have HLX := hid (SL.lit X 81 2 1 #[.string f, .int .i64 m] rfl (by simp [maxLen]))
        clear hgx hX
        go_wp2_with (at_builtin; refine wpList_append_SLs rfl _ _ _ rfl 81 i0 _ 2 24 Tryz.underlying44 hi hz0 hz1 hz2 rfl (by decide) (.slice A' k c') k (wdsC (M.take k)) rfl HOX.out _ 1 _ rfl HLX.out hone (k + 1) _ rfl rfl h63 hby ?_; intro A2 c2 w2 hs2 hg2 ho2; obtain ⟨f1, f2, f3⟩ := HFIN.out X A2 c2 w2 HX.out hs2 hg2 ho2; have F1 := hid f1; have F2 := hid f2; have F3 := hid f3; clear hs2 hg2 ho2 f1 f2 f3)
        exact ⟨⟨k + 1, A2, c2, by omega, by simp, by simp, F1, F2, F3⟩, by simp [intOf]; omega⟩
      · obtain ⟨p, hp⟩ : ∃ p, p + 1 = k := ⟨k - 1, by omega⟩
        have hpl : p < M.length := by omega
        have hkg : 0 < k := by omega
        have hkg2 : (0 : Int) < (k : Int) := by omega
        have hwr : IntKind.i64.wrap ((k : Int) - 1) = (p : Int) := by rw [IntKind.wrap_i64]; omega
        have hpl3 : (p : Int) < (k : Int) := by omega
        have hp00 : (0 : Int) ≤ (p : Int) := by omega
        have hlt := HRI.out p k (by omega) hkl
        have htl : (M.take k).length = k := by rw [List.length_take]; omega
        have ho2 : WdS wr (.slice A' (M.take k).length c') (M.take k) := by unfold WdS; rw [htl]; exact HO.out
        obtain ⟨g', off', hA', hgl', j0, j1⟩ := WdS.at2 ho2 (k := p) (by omega)
        have hgp : (M.take k)[p]'(by omega) = M.getD p wd0 := by rw [List.getElem_take, List.getD_eq_getElem?_getD, List.getElem?_eq_getElem hpl]; rfl
        rw [hgp] at j0 j1
        rw [hgk] at hlt
        subst hA'
        obtain ⟨y, hy⟩ : ∃ x, (M.getD p wd0).1 = x := ⟨_, rfl⟩
        rw [hy] at j0 hlt
        dsimp only at hlt
        have hne : ¬ y = f := fun e => by rw [e, ltS_irrefl] at hlt; cases hlt
        have hne2 : ¬ y.toList = f.toList := fun e => hne (bytesEq e)
        have hne3 : (y.toList == f.toList) = false := beq_eq_false_iff_ne.2 hne2
        clear hlt htl ho2 hgp hy hp
        go_wp2
        go_quiet (fail)
        have HX := hid (bdrew (balloc (Below.refl _ wr) (.cells #[.string f, .int .i64 m] 81)) nq)
        have hgx : ((wr.alloc (.cells #[.string f, .int .i64 m] 81)).drewN nq).heap[wr.heap.size]? = some (.cells #[.string f, .int .i64 m] 81 (0, 0)) := heap_alloc_new wr _
        obtain ⟨X, hX⟩ : ∃ X, (wr.alloc (.cells #[.string f, .int .i64 m] 81)).drewN nq = X := ⟨_, rfl⟩
        rw [hX] at HX hgx
        try rw [hX]
        have x0 : X.cell? ⟨wr.heap.size, 0, none⟩ = some (.string f) := by rw [cell_of_row X _ 0 _ _ _ hgx]; rfl
        have x1 : X.cell? ⟨wr.heap.size, 1, none⟩ = some (.int .i64 m) := by rw [cell_of_row X _ 1 _ _ _ hgx]; rfl
        have HOX := hid (SL.alloc (SL.keep HO.out fun b hb => HX.out.block b (SL.lt HO.out b hb)) (.cells #[.string f, .int .i64 m] 81))
        have HLX := hid (SL.lit X 81 2 1 #[.string f, .int .i64 m] rfl (by simp [maxLen]))
        clear hgx hX j0 j1 k0 k1
        go_wp2_with (at_builtin; refine wpList_append_SLs rfl _ _ _ rfl 81 i0 _ 2 24 Tryz.underlying44 hi hz0 hz1 hz2 rfl (by decide) (.slice (some ⟨g', off', none⟩) k c') k (wdsC (M.take k)) rfl HOX.out _ 1 _ rfl HLX.out hone (k + 1) _ rfl rfl h63 hby ?_; intro A2 c2 w2 hs2 hg2 ho2; obtain ⟨f1, f2, f3⟩ := HFIN.out X A2 c2 w2 HX.out hs2 hg2 ho2; have F1 := hid f1; have F2 := hid f2; have F3 := hid f3; clear hs2 hg2 ho2 f1 f2 f3)
        exact ⟨⟨k + 1, A2, c2, by omega, by simp, by simp, F1, F2, F3⟩, by simp [intOf]; omega⟩
    · obtain rfl : k = M.length := by omega
      have hkl2 : ¬ (M.length : Int) < (M.length : Int) := by omega
      have h4i : ¬ (65536 : Int) < (M.length : Int) := by omega
      rw [List.take_length] at HO
      go_wp2
      go_ret2
      exact ⟨bthen HB3.out HB.out, A', c', M, rfl, HP.out, HRI.out, HO.out, fun b hb => Nat.le_trans HB3.out.size (HW.out b hb)⟩
end Go.Proofs.YteigplfldhdakaaGreatDoor
