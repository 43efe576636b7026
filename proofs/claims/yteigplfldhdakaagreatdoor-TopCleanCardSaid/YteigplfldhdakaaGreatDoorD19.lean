/- slices: two rows of words in order made one, whole. -/
import Derived.Test.YteigplfldhdakaaGreatDoorD18
set_option linter.unusedVariables false
set_option linter.unusedSimpArgs false
namespace Go.Proofs.YteigplfldhdakaaGreatDoor
open Go.RowKit Go.Shelf Go.Sort Dw
attribute [local go_sem ↓] Go.wp_at_zero Go.wp_at_succ
theorem Found.leftE {d d1 : Array Wd} {a m b mid s e : Nat} (h : Found d a m b mid s) (he : mid + m - s = e) (hr : rotA d d1 s m e) : SortedIn ltW a s d1 ∧ SortedIn ltW s mid d1 := by subst he; exact h.left hr
theorem Found.rightE {d d1 d2 : Array Wd} {a m b mid s e : Nat} (h : Found d a m b mid s) (he : mid + m - s = e) (hr : rotA d d1 s m e) (hp2 : PermIn a mid d1 d2) : SortedIn ltW mid e d2 ∧ SortedIn ltW e b d2 := by subst he; exact h.right hr fun k hk => hp2.2.1 k (.inr hk)
theorem Found.joinE {d d1 d2 d3 : Array Wd} {a m b mid s e : Nat} (h : Found d a m b mid s) (he : mid + m - s = e) (hb : b ≤ d.size) (hr : rotA d d1 s m e) (hp2 : PermIn a mid d1 d2) (hs2 : SortedIn ltW a mid d2) (hp3 : PermIn mid b d2 d3) (hs3 : SortedIn ltW mid b d3) :
    PermIn a b d d3 ∧ SortedIn ltW a b d3 := by subst he; exact h.join hb hr hp2 hs2 hp3 hs3
theorem Found.nums {d : Array Wd} {a m b mid s e : Nat} (h : Found d a m b mid s) (he : mid + m - s = e) : a ≤ s ∧ s ≤ m ∧ m ≤ e ∧ e ≤ b ∧ s ≤ mid := by
  subst he
  obtain ⟨e1, e2, e3, e4, e5, _⟩ := h.cross
  exact ⟨e1, e2, e3, e4, e5⟩
/-- all merges of fewer -/
def SymIH (n g off cap : Nat) (d0 : Array Wd) (w0 : World) (N : Nat) : Prop := ∀ (a m b : Nat) (d : Array Wd) (w : World), b - a ≤ N → d.size = n → SWK wdC 2 w0 g off d w → a < m → m < b → b ≤ n → SortedIn ltW a m d → SortedIn ltW m b d →
  Calls Tryz.prog 220 #[.slice (some ⟨g, off, none⟩) n cap, .int .i64 a, .int .i64 m, .int .i64 b, .func (.func 105) #[] #[]] w (SymP n g off d0 w0 a b d)
set_option maxRecDepth 100000 in
set_option maxHeartbeats 40000000 in
theorem symMore_c {n g off cap a m b N : Nat} {d0 d : Array Wd} {w0 w : World} (R : RowK wdC 2 w0 g off d0) (hn : d0.size = n) (hd : d.size = n) (hsz : n < 4611686018427387904) (S : SWK wdC 2 w0 g off d w) (ham : a + 1 < m) (hmb : m + 1 < b) (hb : b ≤ n) (hA : SortedIn ltW a m d) (hB : SortedIn ltW m b d) (hN : b - a ≤ N + 1) (hIH : SymIH n g off cap d0 w0 N) :
    Calls Tryz.prog 220 #[.slice (some ⟨g, off, none⟩) n cap, .int .i64 a, .int .i64 m, .int .i64 b, .func (.func 105) #[] #[]] w (SymP n g off d0 w0 a b d) := by
  have HS := hid S
  have HR := hid R
  have HA := hid hA
  have HB := hid hB
  have HN := hid hn
  have HD := hid hd
  have HIH := hid hIH
  have hw0 : IntKind.i64.wrap ((m : Int) - (a : Int)) = ((m - a : Nat) : Int) := by rw [IntKind.wrap_i64]; omega
  obtain ⟨ma, hma⟩ : ∃ x, m - a = x := ⟨_, rfl⟩
  rw [hma] at hw0
  have hne1 : ((ma : Int) == 1) = false := by rw [beq_eq_false_iff_ne]; omega
  have hw9 : IntKind.i64.wrap ((b : Int) - (m : Int)) = ((b - m : Nat) : Int) := by rw [IntKind.wrap_i64]; omega
  obtain ⟨bm, hbm⟩ : ∃ x, b - m = x := ⟨_, rfl⟩
  rw [hbm] at hw9
  have hne2 : ((bm : Int) == 1) = false := by rw [beq_eq_false_iff_ne]; omega
  have hw2 : IntKind.i64.wrap ((a : Int) + (b : Int)) = (a : Int) + (b : Int) := by rw [IntKind.wrap_i64]; omega
  obtain ⟨mid, hmid⟩ : ∃ x, (a + b) / 2 = x := ⟨_, rfl⟩
  have hmidI : ((a : Int) + (b : Int)) / 2 = (mid : Int) := by omega
  obtain ⟨nn, hnn⟩ : ∃ x, mid + m = x := ⟨_, rfl⟩
  have hw3 : IntKind.i64.wrap ((mid : Int) + (m : Int)) = (nn : Int) := by rw [IntKind.wrap_i64]; omega
  obtain ⟨pp, hpp⟩ : ∃ x, nn - 1 = x := ⟨_, rfl⟩
  have hw4 : IntKind.i64.wrap ((nn : Int) - 1) = (pp : Int) := by rw [IntKind.wrap_i64]; omega
  obtain ⟨lo, hlo⟩ : ∃ x, (if m > mid then mid + m - b else a) = x := ⟨_, rfl⟩
  obtain ⟨up, hup⟩ : ∃ x, (if m > mid then mid else m) = x := ⟨_, rfl⟩
  have HLO := hid hlo
  have HUP := hid hup
  have HMID := hid hmid
  have HNN := hid hnn
  have HPP := hid hpp
  have hlu : lo ≤ up ∧ up ≤ m ∧ up ≤ mid ∧ a ≤ lo ∧ pp < lo + b ∧ m + up ≤ pp + 1 := by
    split at hlo <;> split at hup <;> omega
  have hmm3 : a < mid ∧ mid < b := by omega
  have hbits : pp + 1 = mid + m := by omega
  clear S R hA hB hn hd hIH hma hbm hmid hnn hpp
  by_cases hmm : m > mid
  · have hmI : (mid : Int) < (m : Int) := by omega
    have hw7 : IntKind.i64.wrap ((nn : Int) - (b : Int)) = (lo : Int) := by have := HNN.out; rw [if_pos hmm] at hlo; rw [IntKind.wrap_i64]; omega
    have HUPI : Hid (mid = up) := hid (by rw [if_pos hmm] at hup; exact hup)
    clear hlo hup
    go_wp2
    go_loopw [20, 21] (fun lv hv wr => ∃ s r : Nat, lv = .int .i64 (s : Int) ∧ hv = .int .i64 (r : Int) ∧ lo ≤ s ∧ s ≤ r ∧ r ≤ up ∧ Hid (∀ c, lo ≤ c → c < s → ltW d[pp - c]! d[c]! = false) ∧ Hid (∀ c, r ≤ c → c < up → ltW d[pp - c]! d[c]! = true) ∧ Hid (SWK wdC 2 w0 g off d wr)) (fun lv hv _ => (intOf hv).toNat - (intOf lv).toNat)
    case atStart => exact ⟨lo, up, rfl, by rw [HUPI.out], Nat.le_refl _, hlu.1, Nat.le_refl _, hid (fun x h1 h2 => by omega), hid (fun x h1 h2 => by omega), HS⟩
    case round =>
      obtain ⟨s, r, rfl, rfl, hls, hsr, hru, H1, H2, HSr⟩ := hrel
      clear HS
      by_cases hlt : s < r
      · have hlt2 : (s : Int) < (r : Int) := by omega
        obtain ⟨c, hc⟩ : ∃ c, (s + r) / 2 = c := ⟨_, rfl⟩
        have hcI : ((s : Int) + (r : Int)) / 2 = (c : Int) := by omega
        obtain ⟨pc, hpc⟩ : ∃ x, pp - c = x := ⟨_, rfl⟩
        have hw5 : IntKind.i64.wrap ((pp : Int) - (c : Int)) = (pc : Int) := by rw [IntKind.wrap_i64]; omega
        have hwsr : IntKind.i64.wrap ((s : Int) + (r : Int)) = (s : Int) + (r : Int) := by rw [IntKind.wrap_i64]; omega
        have hcl : (c : Int) < (n : Int) := by omega
        have hc0 : (0 : Int) ≤ (c : Int) := by omega
        have hpl : (pc : Int) < (n : Int) := by omega
        have hp0 : (0 : Int) ≤ (pc : Int) := by omega
        obtain ⟨a1, a2, -, -⟩ := swk_cells HSr.out HR.out (by rw [HN.out, HD.out]) (i := pc) (by rw [HD.out]; omega)
        obtain ⟨b1, b2, -, -⟩ := swk_cells HSr.out HR.out (by rw [HN.out, HD.out]) (i := c) (by rw [HD.out]; omega)
        have hcc := fun W => compare_c d[pc]! d[c]! W
        have hup2 : ¬ cmpW d[pc]! d[c]! < 0 → Hid (∀ x, lo ≤ x → x < c + 1 → ltW d[pp - x]! d[x]! = false) := fun hq => hid fun x hx1 hx2 => by
          have hq2 : ltW d[pc]! d[c]! = false := by
            rcases hx : ltW d[pc]! d[c]! with _ | _
            · rfl
            · exact absurd ((cmpW_neg _ _).2 hx) hq
          rcases Nat.lt_or_ge x c with h3 | h3
          · exact ltW_swo.ntrans _ _ _ (HB.out pc (pp - x) (by omega) (by omega) (by omega)) (ltW_swo.ntrans _ _ _ hq2 (HA.out x c (by omega) h3 (by omega)))
          · rwa [show x = c by omega, hpc]
        have hdn2 : cmpW d[pc]! d[c]! < 0 → Hid (∀ x, c ≤ x → x < up → ltW d[pp - x]! d[x]! = true) := fun hq => hid fun x hx1 hx2 => by
          have hq2 : ltW d[pc]! d[c]! = true := (cmpW_neg _ _).1 hq
          rcases Nat.lt_or_ge c x with h3 | h3
          · rcases hx : ltW d[pp - x]! d[x]! with _ | _
            · have h4 := HB.out (pp - x) pc (by omega) (by omega) (by omega)
              have h5 := HA.out c x (by omega) h3 (by omega)
              have := ltW_swo.ntrans _ _ _ h4 (ltW_swo.ntrans _ _ _ hx h5)
              rw [hq2] at this; cases this
            · rfl
          · rwa [show x = c by omega, hpc]
        obtain ⟨z, hz⟩ : ∃ z, cmpW d[pc]! d[c]! = z := ⟨_, rfl⟩
        rw [hz] at hcc hup2 hdn2
        obtain ⟨x, hx⟩ : ∃ x, d[pc]! = x := ⟨_, rfl⟩
        obtain ⟨y, hy⟩ : ∃ x, d[c]! = x := ⟨_, rfl⟩
        rw [hx] at a1 a2
        rw [hy] at b1 b2
        rw [hx, hy] at hcc
        obtain ⟨xs, xn⟩ := x
        obtain ⟨ys, yn⟩ := y
        dsimp only at a1 a2 b1 b2 hcc
        have HC := hid hcc
        have hch : s ≤ c := by omega
        have hcr : c < r := by omega
        clear hcc hz hx hy hc hpc
        by_cases hz0 : z < 0
        · have HU := hdn2 hz0
          have hzb : decide (z < 0) = true := decide_eq_true hz0
          clear hup2 hdn2
          go_wp2
          refine wp_region_still_tail 11 (by kernel_rfl) (by kernel_rfl) ?_
          simp only [List.take_succ_cons, List.take_zero, List.drop_succ_cons, List.drop_zero]
          repeat still_step
          refine wpStill_nil ?_
          change wpList _ _ _ _ _ wr.drew
          go_wp2_with (go_at_call 105; refine (HC.out _).mono ?_; rintro e w1 ⟨rfl, hb1⟩; have HS1 := hid (swk_laid (HSr.out.drew) hb1); clear hb1)
          all_goals exact ⟨⟨s, c, rfl, by simp [hcI], hls, hch, by omega, H1, HU, HS1⟩, by simp [intOf, hcI]; omega⟩
        · have HU := hup2 hz0
          have hzb : decide (z < 0) = false := decide_eq_false hz0
          have hzc : 0 ≤ z := by omega
          clear hup2 hdn2
          go_wp2
          refine wp_region_still_tail 11 (by kernel_rfl) (by kernel_rfl) ?_
          simp only [List.take_succ_cons, List.take_zero, List.drop_succ_cons, List.drop_zero]
          repeat still_step
          refine wpStill_nil ?_
          change wpList _ _ _ _ _ wr.drew
          go_wp2_with (go_at_call 105; refine (HC.out _).mono ?_; rintro e w1 ⟨rfl, hb1⟩; have HS1 := hid (swk_laid (HSr.out.drew) hb1); clear hb1)
          all_goals exact ⟨⟨c + 1, r, by simp [hcI], rfl, by omega, by omega, hru, HU, H2, HS1⟩, by simp [intOf, hcI]; omega⟩
      · obtain rfl : r = s := by omega
        have hlt2 : ¬ (r : Int) < (r : Int) := by omega
        have hfd : Found d a m b mid r := ⟨by omega, by omega, HMID.out.symm, HA.out, HB.out, by rw [HLO.out]; exact hls, by rw [HUP.out]; exact hru, fun c h1 h2 => by rw [HLO.out] at h1; rw [HNN.out, HPP.out]; exact H1.out c h1 h2, fun c h1 h2 => by rw [HUP.out] at h2; rw [HNN.out, HPP.out]; exact H2.out c h1 h2⟩
        obtain ⟨e, he⟩ : ∃ e, mid + m - r = e := ⟨_, rfl⟩
        have hnum := hfd.nums he
        have hw6 : IntKind.i64.wrap ((nn : Int) - (r : Int)) = (e : Int) := by have := HNN.out; rw [IntKind.wrap_i64]; omega
        have HFD := hid hfd
        have HEE := hid he
        have hee : e + r = mid + m := by omega
        have hrot : ∀ fv, r < m → m < e → Calls Tryz.prog 248 #[.slice (some ⟨g, off, none⟩) n cap, .int .i64 r, .int .i64 m, .int .i64 e, fv] wr fun e' w' => e' = .returned (.tuple #[]) ∧ ∃ d', SWK wdC 2 w0 g off d' w' ∧ d'.size = n ∧ rotA d d' r m e := fun fv h1 h2 => by
          have := rotate_c (cap := cap) HR.out (by rw [HN.out, HD.out]) HSr.out h1 h2 (by rw [HD.out]; omega) (by rw [HD.out]; exact hsz) fv
          rw [HD.out] at this
          exact this
        have HROT := hid hrot
        clear hfd he hrot
        by_cases hA1 : a < r
        · by_cases hA2 : r < m
          · by_cases hB1 : r < mid
            · by_cases hB2 : e < b
              · have f1 : (r : Int) < (m : Int) := by omega
                have f2 : (m : Int) < (e : Int) := by omega
                have f3 : (a : Int) < (r : Int) := by omega
                have f4 : (r : Int) < (mid : Int) := by omega
                have f5 : (mid : Int) < (e : Int) := by omega
                have f6 : (e : Int) < (b : Int) := by omega
                have HTK : Hid True := hid trivial
                go_wp2_with (first | (go_at_call 248; refine (HROT.out _ (by omega) (by omega)).mono ?_; rintro e1 w1 ⟨rfl, d1, hs1, hz1, hr1⟩; have HS1 := hid hs1; have HZ1 := hid hz1; have HRT := hid hr1; clear hs1 hz1 hr1 HROT HSr) | (go_at_call 220; have htk := HTK; clear htk HTK; have hL := HFD.out.leftE HEE.out HRT.out; refine (HIH.out a r mid d1 _ (by omega) HZ1.out HS1.out (by omega) (by omega) (by omega) hL.1 hL.2).mono ?_; rintro e2 w2 ⟨rfl, d2, hs2, hz2, hp2, hq2⟩; have HS2 := hid hs2; have HZ2 := hid hz2; have HP2 := hid hp2; have HQ2 := hid hq2; clear hs2 hz2 hp2 hq2 hL HS1) | (go_at_call 220; have hR := HFD.out.rightE HEE.out HRT.out HP2.out; refine (HIH.out mid e b d2 _ (by omega) HZ2.out HS2.out (by omega) (by omega) (by omega) hR.1 hR.2).mono ?_; rintro e3 w3 ⟨rfl, d3, hs3, hz3, hp3, hq3⟩; have HS3 := hid hs3; have HZ3 := hid hz3; have HP3 := hid hp3; have HQ3 := hid hq3; clear hs3 hz3 hp3 hq3 hR))
                all_goals
                  go_end0
                  obtain ⟨j1, j2⟩ := HFD.out.joinE HEE.out (by rw [HD.out]; exact hb) HRT.out HP2.out HQ2.out HP3.out HQ3.out
                  exact ⟨rfl, d3, HS3.out, HZ3.out, j1, j2⟩
              · have f1 : (r : Int) < (m : Int) := by omega
                have f2 : (m : Int) < (e : Int) := by omega
                have f3 : (a : Int) < (r : Int) := by omega
                have f4 : (r : Int) < (mid : Int) := by omega
                have f5 : (mid : Int) < (e : Int) := by omega
                have f6 : ¬ (e : Int) < (b : Int) := by omega
                have HTK : Hid True := hid trivial
                go_wp2_with (first | (go_at_call 248; refine (HROT.out _ (by omega) (by omega)).mono ?_; rintro e1 w1 ⟨rfl, d1, hs1, hz1, hr1⟩; have HS1 := hid hs1; have HZ1 := hid hz1; have HRT := hid hr1; clear hs1 hz1 hr1 HROT HSr) | (go_at_call 220; have htk := HTK; clear htk HTK; have hL := HFD.out.leftE HEE.out HRT.out; refine (HIH.out a r mid d1 _ (by omega) HZ1.out HS1.out (by omega) (by omega) (by omega) hL.1 hL.2).mono ?_; rintro e2 w2 ⟨rfl, d2, hs2, hz2, hp2, hq2⟩; have HS2 := hid hs2; have HZ2 := hid hz2; have HP2 := hid hp2; have HQ2 := hid hq2; clear hs2 hz2 hp2 hq2 hL HS1))
                all_goals
                  have HS3 := HS2
                  have HZ3 := HZ2
                  have HP3 := hid (permIn_refl d2 mid b)
                  have HQ3 : Hid (SortedIn ltW mid b d2) := hid (by have := (HFD.out.rightE HEE.out HRT.out HP2.out).1; rwa [show b = e by omega])
                  go_end0
                  obtain ⟨j1, j2⟩ := HFD.out.joinE HEE.out (by rw [HD.out]; exact hb) HRT.out HP2.out HQ2.out HP3.out HQ3.out
                  exact ⟨rfl, d2, HS3.out, HZ3.out, j1, j2⟩
            · by_cases hB2 : e < b
              · have f1 : (r : Int) < (m : Int) := by omega
                have f2 : ¬ (m : Int) < (e : Int) := by omega
                have f3 : (a : Int) < (r : Int) := by omega
                have f4 : ¬ (r : Int) < (mid : Int) := by omega
                have f5 : (mid : Int) < (e : Int) := by omega
                have f6 : (e : Int) < (b : Int) := by omega
                have HS1 := HSr
                have HZ1 := HD
                have HRT : Hid (rotA d d r m e) := hid (rotA_none (by omega))
                go_wp2_with (first | (go_at_call 220; have HS2 := HS1; have HZ2 := HZ1; have HP2 := hid (permIn_refl d a mid); have HQ2 : Hid (SortedIn ltW a mid d) := hid (by have := (HFD.out.leftE HEE.out HRT.out).1; rwa [show mid = r by omega]); have hR := HFD.out.rightE HEE.out HRT.out HP2.out; refine (HIH.out mid e b d _ (by omega) HZ2.out HS2.out (by omega) (by omega) (by omega) hR.1 hR.2).mono ?_; rintro e3 w3 ⟨rfl, d3, hs3, hz3, hp3, hq3⟩; have HS3 := hid hs3; have HZ3 := hid hz3; have HP3 := hid hp3; have HQ3 := hid hq3; clear hs3 hz3 hp3 hq3 hR))
                all_goals
                  go_end0
                  obtain ⟨j1, j2⟩ := HFD.out.joinE HEE.out (by rw [HD.out]; exact hb) HRT.out HP2.out HQ2.out HP3.out HQ3.out
                  exact ⟨rfl, d3, HS3.out, HZ3.out, j1, j2⟩
              · have f1 : (r : Int) < (m : Int) := by omega
                have f2 : ¬ (m : Int) < (e : Int) := by omega
                have f3 : (a : Int) < (r : Int) := by omega
                have f4 : ¬ (r : Int) < (mid : Int) := by omega
                have f5 : (mid : Int) < (e : Int) := by omega
                have f6 : ¬ (e : Int) < (b : Int) := by omega
                have HS1 := HSr
                have HZ1 := HD
                have HRT : Hid (rotA d d r m e) := hid (rotA_none (by omega))
                go_wp2
                all_goals
                  have HS2 := HS1
                  have HZ2 := HZ1
                  have HP2 := hid (permIn_refl d a mid)
                  have HQ2 : Hid (SortedIn ltW a mid d) := hid (by have := (HFD.out.leftE HEE.out HRT.out).1; rwa [show mid = r by omega])
                  have HS3 := HS2
                  have HZ3 := HZ2
                  have HP3 := hid (permIn_refl d mid b)
                  have HQ3 : Hid (SortedIn ltW mid b d) := hid (by have := (HFD.out.rightE HEE.out HRT.out HP2.out).1; rwa [show b = e by omega])
                  go_end0
                  obtain ⟨j1, j2⟩ := HFD.out.joinE HEE.out (by rw [HD.out]; exact hb) HRT.out HP2.out HQ2.out HP3.out HQ3.out
                  exact ⟨rfl, d, HS3.out, HZ3.out, j1, j2⟩
          · by_cases hB1 : r < mid
            · by_cases hB2 : e < b
              · have f1 : ¬ (r : Int) < (m : Int) := by omega
                have f2 : (m : Int) < (e : Int) := by omega
                have f3 : (a : Int) < (r : Int) := by omega
                have f4 : (r : Int) < (mid : Int) := by omega
                have f5 : ¬ (mid : Int) < (e : Int) := by omega
                have f6 : (e : Int) < (b : Int) := by omega
                have HS1 := HSr
                have HZ1 := HD
                have HRT : Hid (rotA d d r m e) := hid (rotA_none (by omega))
                have HTK : Hid True := hid trivial
                go_wp2_with (first | (go_at_call 220; have htk := HTK; clear htk HTK; have hL := HFD.out.leftE HEE.out HRT.out; refine (HIH.out a r mid d _ (by omega) HZ1.out HS1.out (by omega) (by omega) (by omega) hL.1 hL.2).mono ?_; rintro e2 w2 ⟨rfl, d2, hs2, hz2, hp2, hq2⟩; have HS2 := hid hs2; have HZ2 := hid hz2; have HP2 := hid hp2; have HQ2 := hid hq2; clear hs2 hz2 hp2 hq2 hL HS1))
                all_goals
                  have HS3 := HS2
                  have HZ3 := HZ2
                  have HP3 := hid (permIn_refl d2 mid b)
                  have HQ3 : Hid (SortedIn ltW mid b d2) := hid (by have := (HFD.out.rightE HEE.out HRT.out HP2.out).2; rwa [show mid = e by omega])
                  go_end0
                  obtain ⟨j1, j2⟩ := HFD.out.joinE HEE.out (by rw [HD.out]; exact hb) HRT.out HP2.out HQ2.out HP3.out HQ3.out
                  exact ⟨rfl, d2, HS3.out, HZ3.out, j1, j2⟩
              · have f1 : ¬ (r : Int) < (m : Int) := by omega
                have f2 : (m : Int) < (e : Int) := by omega
                have f3 : (a : Int) < (r : Int) := by omega
                have f4 : (r : Int) < (mid : Int) := by omega
                have f5 : ¬ (mid : Int) < (e : Int) := by omega
                have f6 : ¬ (e : Int) < (b : Int) := by omega
                have HS1 := HSr
                have HZ1 := HD
                have HRT : Hid (rotA d d r m e) := hid (rotA_none (by omega))
                have HTK : Hid True := hid trivial
                go_wp2_with (first | (go_at_call 220; have htk := HTK; clear htk HTK; have hL := HFD.out.leftE HEE.out HRT.out; refine (HIH.out a r mid d _ (by omega) HZ1.out HS1.out (by omega) (by omega) (by omega) hL.1 hL.2).mono ?_; rintro e2 w2 ⟨rfl, d2, hs2, hz2, hp2, hq2⟩; have HS2 := hid hs2; have HZ2 := hid hz2; have HP2 := hid hp2; have HQ2 := hid hq2; clear hs2 hz2 hp2 hq2 hL HS1))
                all_goals
                  have HS3 := HS2
                  have HZ3 := HZ2
                  have HP3 := hid (permIn_refl d2 mid b)
                  have HQ3 : Hid (SortedIn ltW mid b d2) := hid (by have := (HFD.out.rightE HEE.out HRT.out HP2.out).2; rwa [show mid = e by omega])
                  go_end0
                  obtain ⟨j1, j2⟩ := HFD.out.joinE HEE.out (by rw [HD.out]; exact hb) HRT.out HP2.out HQ2.out HP3.out HQ3.out
                  exact ⟨rfl, d2, HS3.out, HZ3.out, j1, j2⟩
            · by_cases hB2 : e < b
              · have f1 : ¬ (r : Int) < (m : Int) := by omega
                have f2 : ¬ (m : Int) < (e : Int) := by omega
                have f3 : (a : Int) < (r : Int) := by omega
                have f4 : ¬ (r : Int) < (mid : Int) := by omega
                have f5 : ¬ (mid : Int) < (e : Int) := by omega
                have f6 : (e : Int) < (b : Int) := by omega
                have HS1 := HSr
                have HZ1 := HD
                have HRT : Hid (rotA d d r m e) := hid (rotA_none (by omega))
                go_wp2
                all_goals
                  have HS2 := HS1
                  have HZ2 := HZ1
                  have HP2 := hid (permIn_refl d a mid)
                  have HQ2 : Hid (SortedIn ltW a mid d) := hid (by have := (HFD.out.leftE HEE.out HRT.out).1; rwa [show mid = r by omega])
                  have HS3 := HS2
                  have HZ3 := HZ2
                  have HP3 := hid (permIn_refl d mid b)
                  have HQ3 : Hid (SortedIn ltW mid b d) := hid (by have := (HFD.out.rightE HEE.out HRT.out HP2.out).2; rwa [show mid = e by omega])
                  go_end0
                  obtain ⟨j1, j2⟩ := HFD.out.joinE HEE.out (by rw [HD.out]; exact hb) HRT.out HP2.out HQ2.out HP3.out HQ3.out
                  exact ⟨rfl, d, HS3.out, HZ3.out, j1, j2⟩
              · have f1 : ¬ (r : Int) < (m : Int) := by omega
                have f2 : ¬ (m : Int) < (e : Int) := by omega
                have f3 : (a : Int) < (r : Int) := by omega
                have f4 : ¬ (r : Int) < (mid : Int) := by omega
                have f5 : ¬ (mid : Int) < (e : Int) := by omega
                have f6 : ¬ (e : Int) < (b : Int) := by omega
                have HS1 := HSr
                have HZ1 := HD
                have HRT : Hid (rotA d d r m e) := hid (rotA_none (by omega))
                go_wp2
                all_goals
                  have HS2 := HS1
                  have HZ2 := HZ1
                  have HP2 := hid (permIn_refl d a mid)
                  have HQ2 : Hid (SortedIn ltW a mid d) := hid (by have := (HFD.out.leftE HEE.out HRT.out).1; rwa [show mid = r by omega])
                  have HS3 := HS2
                  have HZ3 := HZ2
                  have HP3 := hid (permIn_refl d mid b)
                  have HQ3 : Hid (SortedIn ltW mid b d) := hid (by have := (HFD.out.rightE HEE.out HRT.out HP2.out).2; rwa [show mid = e by omega])
                  go_end0
                  obtain ⟨j1, j2⟩ := HFD.out.joinE HEE.out (by rw [HD.out]; exact hb) HRT.out HP2.out HQ2.out HP3.out HQ3.out
                  exact ⟨rfl, d, HS3.out, HZ3.out, j1, j2⟩
        · by_cases hA2 : r < m
          · by_cases hB1 : r < mid
            · by_cases hB2 : e < b
              · have f1 : (r : Int) < (m : Int) := by omega
                have f2 : (m : Int) < (e : Int) := by omega
                have f3 : ¬ (a : Int) < (r : Int) := by omega
                have f4 : (r : Int) < (mid : Int) := by omega
                have f5 : (mid : Int) < (e : Int) := by omega
                have f6 : (e : Int) < (b : Int) := by omega
                go_wp2_with (first | (go_at_call 248; refine (HROT.out _ (by omega) (by omega)).mono ?_; rintro e1 w1 ⟨rfl, d1, hs1, hz1, hr1⟩; have HS1 := hid hs1; have HZ1 := hid hz1; have HRT := hid hr1; clear hs1 hz1 hr1 HROT HSr) | (go_at_call 220; have HS2 := HS1; have HZ2 := HZ1; have HP2 := hid (permIn_refl d1 a mid); have HQ2 : Hid (SortedIn ltW a mid d1) := hid (by have := (HFD.out.leftE HEE.out HRT.out).2; rwa [show a = r by omega]); have hR := HFD.out.rightE HEE.out HRT.out HP2.out; refine (HIH.out mid e b d1 _ (by omega) HZ2.out HS2.out (by omega) (by omega) (by omega) hR.1 hR.2).mono ?_; rintro e3 w3 ⟨rfl, d3, hs3, hz3, hp3, hq3⟩; have HS3 := hid hs3; have HZ3 := hid hz3; have HP3 := hid hp3; have HQ3 := hid hq3; clear hs3 hz3 hp3 hq3 hR))
                all_goals
                  go_end0
                  obtain ⟨j1, j2⟩ := HFD.out.joinE HEE.out (by rw [HD.out]; exact hb) HRT.out HP2.out HQ2.out HP3.out HQ3.out
                  exact ⟨rfl, d3, HS3.out, HZ3.out, j1, j2⟩
              · have f1 : (r : Int) < (m : Int) := by omega
                have f2 : (m : Int) < (e : Int) := by omega
                have f3 : ¬ (a : Int) < (r : Int) := by omega
                have f4 : (r : Int) < (mid : Int) := by omega
                have f5 : (mid : Int) < (e : Int) := by omega
                have f6 : ¬ (e : Int) < (b : Int) := by omega
                go_wp2_with (first | (go_at_call 248; refine (HROT.out _ (by omega) (by omega)).mono ?_; rintro e1 w1 ⟨rfl, d1, hs1, hz1, hr1⟩; have HS1 := hid hs1; have HZ1 := hid hz1; have HRT := hid hr1; clear hs1 hz1 hr1 HROT HSr))
                all_goals
                  have HS2 := HS1
                  have HZ2 := HZ1
                  have HP2 := hid (permIn_refl d1 a mid)
                  have HQ2 : Hid (SortedIn ltW a mid d1) := hid (by have := (HFD.out.leftE HEE.out HRT.out).2; rwa [show a = r by omega])
                  have HS3 := HS2
                  have HZ3 := HZ2
                  have HP3 := hid (permIn_refl d1 mid b)
                  have HQ3 : Hid (SortedIn ltW mid b d1) := hid (by have := (HFD.out.rightE HEE.out HRT.out HP2.out).1; rwa [show b = e by omega])
                  go_end0
                  obtain ⟨j1, j2⟩ := HFD.out.joinE HEE.out (by rw [HD.out]; exact hb) HRT.out HP2.out HQ2.out HP3.out HQ3.out
                  exact ⟨rfl, d1, HS3.out, HZ3.out, j1, j2⟩
            · by_cases hB2 : e < b
              · have f1 : (r : Int) < (m : Int) := by omega
                have f2 : ¬ (m : Int) < (e : Int) := by omega
                have f3 : ¬ (a : Int) < (r : Int) := by omega
                have f4 : ¬ (r : Int) < (mid : Int) := by omega
                have f5 : (mid : Int) < (e : Int) := by omega
                have f6 : (e : Int) < (b : Int) := by omega
                have HS1 := HSr
                have HZ1 := HD
                have HRT : Hid (rotA d d r m e) := hid (rotA_none (by omega))
                go_wp2_with (first | (go_at_call 220; have HS2 := HS1; have HZ2 := HZ1; have HP2 := hid (permIn_refl d a mid); have HQ2 : Hid (SortedIn ltW a mid d) := hid (by have := (HFD.out.leftE HEE.out HRT.out).2; rwa [show a = r by omega]); have hR := HFD.out.rightE HEE.out HRT.out HP2.out; refine (HIH.out mid e b d _ (by omega) HZ2.out HS2.out (by omega) (by omega) (by omega) hR.1 hR.2).mono ?_; rintro e3 w3 ⟨rfl, d3, hs3, hz3, hp3, hq3⟩; have HS3 := hid hs3; have HZ3 := hid hz3; have HP3 := hid hp3; have HQ3 := hid hq3; clear hs3 hz3 hp3 hq3 hR))
                all_goals
                  go_end0
                  obtain ⟨j1, j2⟩ := HFD.out.joinE HEE.out (by rw [HD.out]; exact hb) HRT.out HP2.out HQ2.out HP3.out HQ3.out
                  exact ⟨rfl, d3, HS3.out, HZ3.out, j1, j2⟩
              · have f1 : (r : Int) < (m : Int) := by omega
                have f2 : ¬ (m : Int) < (e : Int) := by omega
                have f3 : ¬ (a : Int) < (r : Int) := by omega
                have f4 : ¬ (r : Int) < (mid : Int) := by omega
                have f5 : (mid : Int) < (e : Int) := by omega
                have f6 : ¬ (e : Int) < (b : Int) := by omega
                have HS1 := HSr
                have HZ1 := HD
                have HRT : Hid (rotA d d r m e) := hid (rotA_none (by omega))
                go_wp2
                all_goals
                  have HS2 := HS1
                  have HZ2 := HZ1
                  have HP2 := hid (permIn_refl d a mid)
                  have HQ2 : Hid (SortedIn ltW a mid d) := hid (by have := (HFD.out.leftE HEE.out HRT.out).2; rwa [show a = r by omega])
                  have HS3 := HS2
                  have HZ3 := HZ2
                  have HP3 := hid (permIn_refl d mid b)
                  have HQ3 : Hid (SortedIn ltW mid b d) := hid (by have := (HFD.out.rightE HEE.out HRT.out HP2.out).1; rwa [show b = e by omega])
                  go_end0
                  obtain ⟨j1, j2⟩ := HFD.out.joinE HEE.out (by rw [HD.out]; exact hb) HRT.out HP2.out HQ2.out HP3.out HQ3.out
                  exact ⟨rfl, d, HS3.out, HZ3.out, j1, j2⟩
          · by_cases hB1 : r < mid
            · by_cases hB2 : e < b
              · have f1 : ¬ (r : Int) < (m : Int) := by omega
                have f2 : (m : Int) < (e : Int) := by omega
                have f3 : ¬ (a : Int) < (r : Int) := by omega
                have f4 : (r : Int) < (mid : Int) := by omega
                have f5 : ¬ (mid : Int) < (e : Int) := by omega
                have f6 : (e : Int) < (b : Int) := by omega
                have HS1 := HSr
                have HZ1 := HD
                have HRT : Hid (rotA d d r m e) := hid (rotA_none (by omega))
                go_wp2
                all_goals
                  have HS2 := HS1
                  have HZ2 := HZ1
                  have HP2 := hid (permIn_refl d a mid)
                  have HQ2 : Hid (SortedIn ltW a mid d) := hid (by have := (HFD.out.leftE HEE.out HRT.out).2; rwa [show a = r by omega])
                  have HS3 := HS2
                  have HZ3 := HZ2
                  have HP3 := hid (permIn_refl d mid b)
                  have HQ3 : Hid (SortedIn ltW mid b d) := hid (by have := (HFD.out.rightE HEE.out HRT.out HP2.out).2; rwa [show mid = e by omega])
                  go_end0
                  obtain ⟨j1, j2⟩ := HFD.out.joinE HEE.out (by rw [HD.out]; exact hb) HRT.out HP2.out HQ2.out HP3.out HQ3.out
                  exact ⟨rfl, d, HS3.out, HZ3.out, j1, j2⟩
              · have f1 : ¬ (r : Int) < (m : Int) := by omega
                have f2 : (m : Int) < (e : Int) := by omega
                have f3 : ¬ (a : Int) < (r : Int) := by omega
                have f4 : (r : Int) < (mid : Int) := by omega
                have f5 : ¬ (mid : Int) < (e : Int) := by omega
                have f6 : ¬ (e : Int) < (b : Int) := by omega
                have HS1 := HSr
                have HZ1 := HD
                have HRT : Hid (rotA d d r m e) := hid (rotA_none (by omega))
                go_wp2
                all_goals
                  have HS2 := HS1
                  have HZ2 := HZ1
                  have HP2 := hid (permIn_refl d a mid)
                  have HQ2 : Hid (SortedIn ltW a mid d) := hid (by have := (HFD.out.leftE HEE.out HRT.out).2; rwa [show a = r by omega])
                  have HS3 := HS2
                  have HZ3 := HZ2
                  have HP3 := hid (permIn_refl d mid b)
                  have HQ3 : Hid (SortedIn ltW mid b d) := hid (by have := (HFD.out.rightE HEE.out HRT.out HP2.out).2; rwa [show mid = e by omega])
                  go_end0
                  obtain ⟨j1, j2⟩ := HFD.out.joinE HEE.out (by rw [HD.out]; exact hb) HRT.out HP2.out HQ2.out HP3.out HQ3.out
                  exact ⟨rfl, d, HS3.out, HZ3.out, j1, j2⟩
            · by_cases hB2 : e < b
              · have f1 : ¬ (r : Int) < (m : Int) := by omega
                have f2 : ¬ (m : Int) < (e : Int) := by omega
                have f3 : ¬ (a : Int) < (r : Int) := by omega
                have f4 : ¬ (r : Int) < (mid : Int) := by omega
                have f5 : ¬ (mid : Int) < (e : Int) := by omega
                have f6 : (e : Int) < (b : Int) := by omega
                have HS1 := HSr
                have HZ1 := HD
                have HRT : Hid (rotA d d r m e) := hid (rotA_none (by omega))
                go_wp2
                all_goals
                  have HS2 := HS1
                  have HZ2 := HZ1
                  have HP2 := hid (permIn_refl d a mid)
                  have HQ2 : Hid (SortedIn ltW a mid d) := hid (by have := (HFD.out.leftE HEE.out HRT.out).2; rwa [show a = r by omega])
                  have HS3 := HS2
                  have HZ3 := HZ2
                  have HP3 := hid (permIn_refl d mid b)
                  have HQ3 : Hid (SortedIn ltW mid b d) := hid (by have := (HFD.out.rightE HEE.out HRT.out HP2.out).2; rwa [show mid = e by omega])
                  go_end0
                  obtain ⟨j1, j2⟩ := HFD.out.joinE HEE.out (by rw [HD.out]; exact hb) HRT.out HP2.out HQ2.out HP3.out HQ3.out
                  exact ⟨rfl, d, HS3.out, HZ3.out, j1, j2⟩
              · have f1 : ¬ (r : Int) < (m : Int) := by omega
                have f2 : ¬ (m : Int) < (e : Int) := by omega
                have f3 : ¬ (a : Int) < (r : Int) := by omega
                have f4 : ¬ (r : Int) < (mid : Int) := by omega
                have f5 : ¬ (mid : Int) < (e : Int) := by omega
                have f6 : ¬ (e : Int) < (b : Int) := by omega
                have HS1 := HSr
                have HZ1 := HD
                have HRT : Hid (rotA d d r m e) := hid (rotA_none (by omega))
                go_wp2
                all_goals
                  have HS2 := HS1
                  have HZ2 := HZ1
                  have HP2 := hid (permIn_refl d a mid)
                  have HQ2 : Hid (SortedIn ltW a mid d) := hid (by have := (HFD.out.leftE HEE.out HRT.out).2; rwa [show a = r by omega])
                  have HS3 := HS2
                  have HZ3 := HZ2
                  have HP3 := hid (permIn_refl d mid b)
                  have HQ3 : Hid (SortedIn ltW mid b d) := hid (by have := (HFD.out.rightE HEE.out HRT.out HP2.out).2; rwa [show mid = e by omega])
                  go_end0
                  obtain ⟨j1, j2⟩ := HFD.out.joinE HEE.out (by rw [HD.out]; exact hb) HRT.out HP2.out HQ2.out HP3.out HQ3.out
                  exact ⟨rfl, d, HS3.out, HZ3.out, j1, j2⟩
  · have hmI : ¬ (mid : Int) < (m : Int) := by omega
    have HLOI : Hid (a = lo) := hid (by rw [if_neg hmm] at hlo; exact hlo)
    have HUPI : Hid (m = up) := hid (by rw [if_neg hmm] at hup; exact hup)
    clear hlo hup
    go_wp2
    go_loopw [20, 21] (fun lv hv wr => ∃ s r : Nat, lv = .int .i64 (s : Int) ∧ hv = .int .i64 (r : Int) ∧ lo ≤ s ∧ s ≤ r ∧ r ≤ up ∧ Hid (∀ c, lo ≤ c → c < s → ltW d[pp - c]! d[c]! = false) ∧ Hid (∀ c, r ≤ c → c < up → ltW d[pp - c]! d[c]! = true) ∧ Hid (SWK wdC 2 w0 g off d wr)) (fun lv hv _ => (intOf hv).toNat - (intOf lv).toNat)
    case atStart => exact ⟨lo, up, by rw [HLOI.out], by rw [HUPI.out], Nat.le_refl _, hlu.1, Nat.le_refl _, hid (fun x h1 h2 => by omega), hid (fun x h1 h2 => by omega), HS⟩
    case round =>
      obtain ⟨s, r, rfl, rfl, hls, hsr, hru, H1, H2, HSr⟩ := hrel
      clear HS
      by_cases hlt : s < r
      · have hlt2 : (s : Int) < (r : Int) := by omega
        obtain ⟨c, hc⟩ : ∃ c, (s + r) / 2 = c := ⟨_, rfl⟩
        have hcI : ((s : Int) + (r : Int)) / 2 = (c : Int) := by omega
        obtain ⟨pc, hpc⟩ : ∃ x, pp - c = x := ⟨_, rfl⟩
        have hw5 : IntKind.i64.wrap ((pp : Int) - (c : Int)) = (pc : Int) := by rw [IntKind.wrap_i64]; omega
        have hwsr : IntKind.i64.wrap ((s : Int) + (r : Int)) = (s : Int) + (r : Int) := by rw [IntKind.wrap_i64]; omega
        have hcl : (c : Int) < (n : Int) := by omega
        have hc0 : (0 : Int) ≤ (c : Int) := by omega
        have hpl : (pc : Int) < (n : Int) := by omega
        have hp0 : (0 : Int) ≤ (pc : Int) := by omega
        obtain ⟨a1, a2, -, -⟩ := swk_cells HSr.out HR.out (by rw [HN.out, HD.out]) (i := pc) (by rw [HD.out]; omega)
        obtain ⟨b1, b2, -, -⟩ := swk_cells HSr.out HR.out (by rw [HN.out, HD.out]) (i := c) (by rw [HD.out]; omega)
        have hcc := fun W => compare_c d[pc]! d[c]! W
        have hup2 : ¬ cmpW d[pc]! d[c]! < 0 → Hid (∀ x, lo ≤ x → x < c + 1 → ltW d[pp - x]! d[x]! = false) := fun hq => hid fun x hx1 hx2 => by
          have hq2 : ltW d[pc]! d[c]! = false := by
            rcases hx : ltW d[pc]! d[c]! with _ | _
            · rfl
            · exact absurd ((cmpW_neg _ _).2 hx) hq
          rcases Nat.lt_or_ge x c with h3 | h3
          · exact ltW_swo.ntrans _ _ _ (HB.out pc (pp - x) (by omega) (by omega) (by omega)) (ltW_swo.ntrans _ _ _ hq2 (HA.out x c (by omega) h3 (by omega)))
          · rwa [show x = c by omega, hpc]
        have hdn2 : cmpW d[pc]! d[c]! < 0 → Hid (∀ x, c ≤ x → x < up → ltW d[pp - x]! d[x]! = true) := fun hq => hid fun x hx1 hx2 => by
          have hq2 : ltW d[pc]! d[c]! = true := (cmpW_neg _ _).1 hq
          rcases Nat.lt_or_ge c x with h3 | h3
          · rcases hx : ltW d[pp - x]! d[x]! with _ | _
            · have h4 := HB.out (pp - x) pc (by omega) (by omega) (by omega)
              have h5 := HA.out c x (by omega) h3 (by omega)
              have := ltW_swo.ntrans _ _ _ h4 (ltW_swo.ntrans _ _ _ hx h5)
              rw [hq2] at this; cases this
            · rfl
          · rwa [show x = c by omega, hpc]
        obtain ⟨z, hz⟩ : ∃ z, cmpW d[pc]! d[c]! = z := ⟨_, rfl⟩
        rw [hz] at hcc hup2 hdn2
        obtain ⟨x, hx⟩ : ∃ x, d[pc]! = x := ⟨_, rfl⟩
        obtain ⟨y, hy⟩ : ∃ x, d[c]! = x := ⟨_, rfl⟩
        rw [hx] at a1 a2
        rw [hy] at b1 b2
        rw [hx, hy] at hcc
        obtain ⟨xs, xn⟩ := x
        obtain ⟨ys, yn⟩ := y
        dsimp only at a1 a2 b1 b2 hcc
        have HC := hid hcc
        have hch : s ≤ c := by omega
        have hcr : c < r := by omega
        clear hcc hz hx hy hc hpc
        by_cases hz0 : z < 0
        · have HU := hdn2 hz0
          have hzb : decide (z < 0) = true := decide_eq_true hz0
          clear hup2 hdn2
          go_wp2
          refine wp_region_still_tail 11 (by kernel_rfl) (by kernel_rfl) ?_
          simp only [List.take_succ_cons, List.take_zero, List.drop_succ_cons, List.drop_zero]
          repeat still_step
          refine wpStill_nil ?_
          change wpList _ _ _ _ _ wr.drew
          go_wp2_with (go_at_call 105; refine (HC.out _).mono ?_; rintro e w1 ⟨rfl, hb1⟩; have HS1 := hid (swk_laid (HSr.out.drew) hb1); clear hb1)
          all_goals exact ⟨⟨s, c, rfl, by simp [hcI], hls, hch, by omega, H1, HU, HS1⟩, by simp [intOf, hcI]; omega⟩
        · have HU := hup2 hz0
          have hzb : decide (z < 0) = false := decide_eq_false hz0
          have hzc : 0 ≤ z := by omega
          clear hup2 hdn2
          go_wp2
          refine wp_region_still_tail 11 (by kernel_rfl) (by kernel_rfl) ?_
          simp only [List.take_succ_cons, List.take_zero, List.drop_succ_cons, List.drop_zero]
          repeat still_step
          refine wpStill_nil ?_
          change wpList _ _ _ _ _ wr.drew
          go_wp2_with (go_at_call 105; refine (HC.out _).mono ?_; rintro e w1 ⟨rfl, hb1⟩; have HS1 := hid (swk_laid (HSr.out.drew) hb1); clear hb1)
          all_goals exact ⟨⟨c + 1, r, by simp [hcI], rfl, by omega, by omega, hru, HU, H2, HS1⟩, by simp [intOf, hcI]; omega⟩
      · obtain rfl : r = s := by omega
        have hlt2 : ¬ (r : Int) < (r : Int) := by omega
        have hfd : Found d a m b mid r := ⟨by omega, by omega, HMID.out.symm, HA.out, HB.out, by rw [HLO.out]; exact hls, by rw [HUP.out]; exact hru, fun c h1 h2 => by rw [HLO.out] at h1; rw [HNN.out, HPP.out]; exact H1.out c h1 h2, fun c h1 h2 => by rw [HUP.out] at h2; rw [HNN.out, HPP.out]; exact H2.out c h1 h2⟩
        obtain ⟨e, he⟩ : ∃ e, mid + m - r = e := ⟨_, rfl⟩
        have hnum := hfd.nums he
        have hw6 : IntKind.i64.wrap ((nn : Int) - (r : Int)) = (e : Int) := by have := HNN.out; rw [IntKind.wrap_i64]; omega
        have HFD := hid hfd
        have HEE := hid he
        have hee : e + r = mid + m := by omega
        have hrot : ∀ fv, r < m → m < e → Calls Tryz.prog 248 #[.slice (some ⟨g, off, none⟩) n cap, .int .i64 r, .int .i64 m, .int .i64 e, fv] wr fun e' w' => e' = .returned (.tuple #[]) ∧ ∃ d', SWK wdC 2 w0 g off d' w' ∧ d'.size = n ∧ rotA d d' r m e := fun fv h1 h2 => by
          have := rotate_c (cap := cap) HR.out (by rw [HN.out, HD.out]) HSr.out h1 h2 (by rw [HD.out]; omega) (by rw [HD.out]; exact hsz) fv
          rw [HD.out] at this
          exact this
        have HROT := hid hrot
        clear hfd he hrot
        by_cases hA1 : a < r
        · by_cases hA2 : r < m
          · by_cases hB1 : r < mid
            · by_cases hB2 : e < b
              · have f1 : (r : Int) < (m : Int) := by omega
                have f2 : (m : Int) < (e : Int) := by omega
                have f3 : (a : Int) < (r : Int) := by omega
                have f4 : (r : Int) < (mid : Int) := by omega
                have f5 : (mid : Int) < (e : Int) := by omega
                have f6 : (e : Int) < (b : Int) := by omega
                have HTK : Hid True := hid trivial
                go_wp2_with (first | (go_at_call 248; refine (HROT.out _ (by omega) (by omega)).mono ?_; rintro e1 w1 ⟨rfl, d1, hs1, hz1, hr1⟩; have HS1 := hid hs1; have HZ1 := hid hz1; have HRT := hid hr1; clear hs1 hz1 hr1 HROT HSr) | (go_at_call 220; have htk := HTK; clear htk HTK; have hL := HFD.out.leftE HEE.out HRT.out; refine (HIH.out a r mid d1 _ (by omega) HZ1.out HS1.out (by omega) (by omega) (by omega) hL.1 hL.2).mono ?_; rintro e2 w2 ⟨rfl, d2, hs2, hz2, hp2, hq2⟩; have HS2 := hid hs2; have HZ2 := hid hz2; have HP2 := hid hp2; have HQ2 := hid hq2; clear hs2 hz2 hp2 hq2 hL HS1) | (go_at_call 220; have hR := HFD.out.rightE HEE.out HRT.out HP2.out; refine (HIH.out mid e b d2 _ (by omega) HZ2.out HS2.out (by omega) (by omega) (by omega) hR.1 hR.2).mono ?_; rintro e3 w3 ⟨rfl, d3, hs3, hz3, hp3, hq3⟩; have HS3 := hid hs3; have HZ3 := hid hz3; have HP3 := hid hp3; have HQ3 := hid hq3; clear hs3 hz3 hp3 hq3 hR))
                all_goals
                  go_end0
                  obtain ⟨j1, j2⟩ := HFD.out.joinE HEE.out (by rw [HD.out]; exact hb) HRT.out HP2.out HQ2.out HP3.out HQ3.out
                  exact ⟨rfl, d3, HS3.out, HZ3.out, j1, j2⟩
              · have f1 : (r : Int) < (m : Int) := by omega
                have f2 : (m : Int) < (e : Int) := by omega
                have f3 : (a : Int) < (r : Int) := by omega
                have f4 : (r : Int) < (mid : Int) := by omega
                have f5 : (mid : Int) < (e : Int) := by omega
                have f6 : ¬ (e : Int) < (b : Int) := by omega
                have HTK : Hid True := hid trivial
                go_wp2_with (first | (go_at_call 248; refine (HROT.out _ (by omega) (by omega)).mono ?_; rintro e1 w1 ⟨rfl, d1, hs1, hz1, hr1⟩; have HS1 := hid hs1; have HZ1 := hid hz1; have HRT := hid hr1; clear hs1 hz1 hr1 HROT HSr) | (go_at_call 220; have htk := HTK; clear htk HTK; have hL := HFD.out.leftE HEE.out HRT.out; refine (HIH.out a r mid d1 _ (by omega) HZ1.out HS1.out (by omega) (by omega) (by omega) hL.1 hL.2).mono ?_; rintro e2 w2 ⟨rfl, d2, hs2, hz2, hp2, hq2⟩; have HS2 := hid hs2; have HZ2 := hid hz2; have HP2 := hid hp2; have HQ2 := hid hq2; clear hs2 hz2 hp2 hq2 hL HS1))
                all_goals
                  have HS3 := HS2
                  have HZ3 := HZ2
                  have HP3 := hid (permIn_refl d2 mid b)
                  have HQ3 : Hid (SortedIn ltW mid b d2) := hid (by have := (HFD.out.rightE HEE.out HRT.out HP2.out).1; rwa [show b = e by omega])
                  go_end0
                  obtain ⟨j1, j2⟩ := HFD.out.joinE HEE.out (by rw [HD.out]; exact hb) HRT.out HP2.out HQ2.out HP3.out HQ3.out
                  exact ⟨rfl, d2, HS3.out, HZ3.out, j1, j2⟩
            · by_cases hB2 : e < b
              · have f1 : (r : Int) < (m : Int) := by omega
                have f2 : ¬ (m : Int) < (e : Int) := by omega
                have f3 : (a : Int) < (r : Int) := by omega
                have f4 : ¬ (r : Int) < (mid : Int) := by omega
                have f5 : (mid : Int) < (e : Int) := by omega
                have f6 : (e : Int) < (b : Int) := by omega
                have HS1 := HSr
                have HZ1 := HD
                have HRT : Hid (rotA d d r m e) := hid (rotA_none (by omega))
                go_wp2_with (first | (go_at_call 220; have HS2 := HS1; have HZ2 := HZ1; have HP2 := hid (permIn_refl d a mid); have HQ2 : Hid (SortedIn ltW a mid d) := hid (by have := (HFD.out.leftE HEE.out HRT.out).1; rwa [show mid = r by omega]); have hR := HFD.out.rightE HEE.out HRT.out HP2.out; refine (HIH.out mid e b d _ (by omega) HZ2.out HS2.out (by omega) (by omega) (by omega) hR.1 hR.2).mono ?_; rintro e3 w3 ⟨rfl, d3, hs3, hz3, hp3, hq3⟩; have HS3 := hid hs3; have HZ3 := hid hz3; have HP3 := hid hp3; have HQ3 := hid hq3; clear hs3 hz3 hp3 hq3 hR))
                all_goals
                  go_end0
                  obtain ⟨j1, j2⟩ := HFD.out.joinE HEE.out (by rw [HD.out]; exact hb) HRT.out HP2.out HQ2.out HP3.out HQ3.out
                  exact ⟨rfl, d3, HS3.out, HZ3.out, j1, j2⟩
              · have f1 : (r : Int) < (m : Int) := by omega
                have f2 : ¬ (m : Int) < (e : Int) := by omega
                have f3 : (a : Int) < (r : Int) := by omega
                have f4 : ¬ (r : Int) < (mid : Int) := by omega
                have f5 : (mid : Int) < (e : Int) := by omega
                have f6 : ¬ (e : Int) < (b : Int) := by omega
                have HS1 := HSr
                have HZ1 := HD
                have HRT : Hid (rotA d d r m e) := hid (rotA_none (by omega))
                go_wp2
                all_goals
                  have HS2 := HS1
                  have HZ2 := HZ1
                  have HP2 := hid (permIn_refl d a mid)
                  have HQ2 : Hid (SortedIn ltW a mid d) := hid (by have := (HFD.out.leftE HEE.out HRT.out).1; rwa [show mid = r by omega])
                  have HS3 := HS2
                  have HZ3 := HZ2
                  have HP3 := hid (permIn_refl d mid b)
                  have HQ3 : Hid (SortedIn ltW mid b d) := hid (by have := (HFD.out.rightE HEE.out HRT.out HP2.out).1; rwa [show b = e by omega])
                  go_end0
                  obtain ⟨j1, j2⟩ := HFD.out.joinE HEE.out (by rw [HD.out]; exact hb) HRT.out HP2.out HQ2.out HP3.out HQ3.out
                  exact ⟨rfl, d, HS3.out, HZ3.out, j1, j2⟩
          · by_cases hB1 : r < mid
            · by_cases hB2 : e < b
              · have f1 : ¬ (r : Int) < (m : Int) := by omega
                have f2 : (m : Int) < (e : Int) := by omega
                have f3 : (a : Int) < (r : Int) := by omega
                have f4 : (r : Int) < (mid : Int) := by omega
                have f5 : ¬ (mid : Int) < (e : Int) := by omega
                have f6 : (e : Int) < (b : Int) := by omega
                have HS1 := HSr
                have HZ1 := HD
                have HRT : Hid (rotA d d r m e) := hid (rotA_none (by omega))
                have HTK : Hid True := hid trivial
                go_wp2_with (first | (go_at_call 220; have htk := HTK; clear htk HTK; have hL := HFD.out.leftE HEE.out HRT.out; refine (HIH.out a r mid d _ (by omega) HZ1.out HS1.out (by omega) (by omega) (by omega) hL.1 hL.2).mono ?_; rintro e2 w2 ⟨rfl, d2, hs2, hz2, hp2, hq2⟩; have HS2 := hid hs2; have HZ2 := hid hz2; have HP2 := hid hp2; have HQ2 := hid hq2; clear hs2 hz2 hp2 hq2 hL HS1))
                all_goals
                  have HS3 := HS2
                  have HZ3 := HZ2
                  have HP3 := hid (permIn_refl d2 mid b)
                  have HQ3 : Hid (SortedIn ltW mid b d2) := hid (by have := (HFD.out.rightE HEE.out HRT.out HP2.out).2; rwa [show mid = e by omega])
                  go_end0
                  obtain ⟨j1, j2⟩ := HFD.out.joinE HEE.out (by rw [HD.out]; exact hb) HRT.out HP2.out HQ2.out HP3.out HQ3.out
                  exact ⟨rfl, d2, HS3.out, HZ3.out, j1, j2⟩
              · have f1 : ¬ (r : Int) < (m : Int) := by omega
                have f2 : (m : Int) < (e : Int) := by omega
                have f3 : (a : Int) < (r : Int) := by omega
                have f4 : (r : Int) < (mid : Int) := by omega
                have f5 : ¬ (mid : Int) < (e : Int) := by omega
                have f6 : ¬ (e : Int) < (b : Int) := by omega
                have HS1 := HSr
                have HZ1 := HD
                have HRT : Hid (rotA d d r m e) := hid (rotA_none (by omega))
                have HTK : Hid True := hid trivial
                go_wp2_with (first | (go_at_call 220; have htk := HTK; clear htk HTK; have hL := HFD.out.leftE HEE.out HRT.out; refine (HIH.out a r mid d _ (by omega) HZ1.out HS1.out (by omega) (by omega) (by omega) hL.1 hL.2).mono ?_; rintro e2 w2 ⟨rfl, d2, hs2, hz2, hp2, hq2⟩; have HS2 := hid hs2; have HZ2 := hid hz2; have HP2 := hid hp2; have HQ2 := hid hq2; clear hs2 hz2 hp2 hq2 hL HS1))
                all_goals
                  have HS3 := HS2
                  have HZ3 := HZ2
                  have HP3 := hid (permIn_refl d2 mid b)
                  have HQ3 : Hid (SortedIn ltW mid b d2) := hid (by have := (HFD.out.rightE HEE.out HRT.out HP2.out).2; rwa [show mid = e by omega])
                  go_end0
                  obtain ⟨j1, j2⟩ := HFD.out.joinE HEE.out (by rw [HD.out]; exact hb) HRT.out HP2.out HQ2.out HP3.out HQ3.out
                  exact ⟨rfl, d2, HS3.out, HZ3.out, j1, j2⟩
            · by_cases hB2 : e < b
              · have f1 : ¬ (r : Int) < (m : Int) := by omega
                have f2 : ¬ (m : Int) < (e : Int) := by omega
                have f3 : (a : Int) < (r : Int) := by omega
                have f4 : ¬ (r : Int) < (mid : Int) := by omega
                have f5 : ¬ (mid : Int) < (e : Int) := by omega
                have f6 : (e : Int) < (b : Int) := by omega
                have HS1 := HSr
                have HZ1 := HD
                have HRT : Hid (rotA d d r m e) := hid (rotA_none (by omega))
                go_wp2
                all_goals
                  have HS2 := HS1
                  have HZ2 := HZ1
                  have HP2 := hid (permIn_refl d a mid)
                  have HQ2 : Hid (SortedIn ltW a mid d) := hid (by have := (HFD.out.leftE HEE.out HRT.out).1; rwa [show mid = r by omega])
                  have HS3 := HS2
                  have HZ3 := HZ2
                  have HP3 := hid (permIn_refl d mid b)
                  have HQ3 : Hid (SortedIn ltW mid b d) := hid (by have := (HFD.out.rightE HEE.out HRT.out HP2.out).2; rwa [show mid = e by omega])
                  go_end0
                  obtain ⟨j1, j2⟩ := HFD.out.joinE HEE.out (by rw [HD.out]; exact hb) HRT.out HP2.out HQ2.out HP3.out HQ3.out
                  exact ⟨rfl, d, HS3.out, HZ3.out, j1, j2⟩
              · have f1 : ¬ (r : Int) < (m : Int) := by omega
                have f2 : ¬ (m : Int) < (e : Int) := by omega
                have f3 : (a : Int) < (r : Int) := by omega
                have f4 : ¬ (r : Int) < (mid : Int) := by omega
                have f5 : ¬ (mid : Int) < (e : Int) := by omega
                have f6 : ¬ (e : Int) < (b : Int) := by omega
                have HS1 := HSr
                have HZ1 := HD
                have HRT : Hid (rotA d d r m e) := hid (rotA_none (by omega))
                go_wp2
                all_goals
                  have HS2 := HS1
                  have HZ2 := HZ1
                  have HP2 := hid (permIn_refl d a mid)
                  have HQ2 : Hid (SortedIn ltW a mid d) := hid (by have := (HFD.out.leftE HEE.out HRT.out).1; rwa [show mid = r by omega])
                  have HS3 := HS2
                  have HZ3 := HZ2
                  have HP3 := hid (permIn_refl d mid b)
                  have HQ3 : Hid (SortedIn ltW mid b d) := hid (by have := (HFD.out.rightE HEE.out HRT.out HP2.out).2; rwa [show mid = e by omega])
                  go_end0
                  obtain ⟨j1, j2⟩ := HFD.out.joinE HEE.out (by rw [HD.out]; exact hb) HRT.out HP2.out HQ2.out HP3.out HQ3.out
                  exact ⟨rfl, d, HS3.out, HZ3.out, j1, j2⟩
        · by_cases hA2 : r < m
          · by_cases hB1 : r < mid
            · by_cases hB2 : e < b
              · have f1 : (r : Int) < (m : Int) := by omega
                have f2 : (m : Int) < (e : Int) := by omega
                have f3 : ¬ (a : Int) < (r : Int) := by omega
                have f4 : (r : Int) < (mid : Int) := by omega
                have f5 : (mid : Int) < (e : Int) := by omega
                have f6 : (e : Int) < (b : Int) := by omega
                go_wp2_with (first | (go_at_call 248; refine (HROT.out _ (by omega) (by omega)).mono ?_; rintro e1 w1 ⟨rfl, d1, hs1, hz1, hr1⟩; have HS1 := hid hs1; have HZ1 := hid hz1; have HRT := hid hr1; clear hs1 hz1 hr1 HROT HSr) | (go_at_call 220; have HS2 := HS1; have HZ2 := HZ1; have HP2 := hid (permIn_refl d1 a mid); have HQ2 : Hid (SortedIn ltW a mid d1) := hid (by have := (HFD.out.leftE HEE.out HRT.out).2; rwa [show a = r by omega]); have hR := HFD.out.rightE HEE.out HRT.out HP2.out; refine (HIH.out mid e b d1 _ (by omega) HZ2.out HS2.out (by omega) (by omega) (by omega) hR.1 hR.2).mono ?_; rintro e3 w3 ⟨rfl, d3, hs3, hz3, hp3, hq3⟩; have HS3 := hid hs3; have HZ3 := hid hz3; have HP3 := hid hp3; have HQ3 := hid hq3; clear hs3 hz3 hp3 hq3 hR))
                all_goals
                  go_end0
                  obtain ⟨j1, j2⟩ := HFD.out.joinE HEE.out (by rw [HD.out]; exact hb) HRT.out HP2.out HQ2.out HP3.out HQ3.out
                  exact ⟨rfl, d3, HS3.out, HZ3.out, j1, j2⟩
              · have f1 : (r : Int) < (m : Int) := by omega
                have f2 : (m : Int) < (e : Int) := by omega
                have f3 : ¬ (a : Int) < (r : Int) := by omega
                have f4 : (r : Int) < (mid : Int) := by omega
                have f5 : (mid : Int) < (e : Int) := by omega
                have f6 : ¬ (e : Int) < (b : Int) := by omega
                go_wp2_with (first | (go_at_call 248; refine (HROT.out _ (by omega) (by omega)).mono ?_; rintro e1 w1 ⟨rfl, d1, hs1, hz1, hr1⟩; have HS1 := hid hs1; have HZ1 := hid hz1; have HRT := hid hr1; clear hs1 hz1 hr1 HROT HSr))
                all_goals
                  have HS2 := HS1
                  have HZ2 := HZ1
                  have HP2 := hid (permIn_refl d1 a mid)
                  have HQ2 : Hid (SortedIn ltW a mid d1) := hid (by have := (HFD.out.leftE HEE.out HRT.out).2; rwa [show a = r by omega])
                  have HS3 := HS2
                  have HZ3 := HZ2
                  have HP3 := hid (permIn_refl d1 mid b)
                  have HQ3 : Hid (SortedIn ltW mid b d1) := hid (by have := (HFD.out.rightE HEE.out HRT.out HP2.out).1; rwa [show b = e by omega])
                  go_end0
                  obtain ⟨j1, j2⟩ := HFD.out.joinE HEE.out (by rw [HD.out]; exact hb) HRT.out HP2.out HQ2.out HP3.out HQ3.out
                  exact ⟨rfl, d1, HS3.out, HZ3.out, j1, j2⟩
            · by_cases hB2 : e < b
              · have f1 : (r : Int) < (m : Int) := by omega
                have f2 : ¬ (m : Int) < (e : Int) := by omega
                have f3 : ¬ (a : Int) < (r : Int) := by omega
                have f4 : ¬ (r : Int) < (mid : Int) := by omega
                have f5 : (mid : Int) < (e : Int) := by omega
                have f6 : (e : Int) < (b : Int) := by omega
                have HS1 := HSr
                have HZ1 := HD
                have HRT : Hid (rotA d d r m e) := hid (rotA_none (by omega))
                go_wp2_with (first | (go_at_call 220; have HS2 := HS1; have HZ2 := HZ1; have HP2 := hid (permIn_refl d a mid); have HQ2 : Hid (SortedIn ltW a mid d) := hid (by have := (HFD.out.leftE HEE.out HRT.out).2; rwa [show a = r by omega]); have hR := HFD.out.rightE HEE.out HRT.out HP2.out; refine (HIH.out mid e b d _ (by omega) HZ2.out HS2.out (by omega) (by omega) (by omega) hR.1 hR.2).mono ?_; rintro e3 w3 ⟨rfl, d3, hs3, hz3, hp3, hq3⟩; have HS3 := hid hs3; have HZ3 := hid hz3; have HP3 := hid hp3; have HQ3 := hid hq3; clear hs3 hz3 hp3 hq3 hR))
                all_goals
                  go_end0
                  obtain ⟨j1, j2⟩ := HFD.out.joinE HEE.out (by rw [HD.out]; exact hb) HRT.out HP2.out HQ2.out HP3.out HQ3.out
                  exact ⟨rfl, d3, HS3.out, HZ3.out, j1, j2⟩
              · have f1 : (r : Int) < (m : Int) := by omega
                have f2 : ¬ (m : Int) < (e : Int) := by omega
                have f3 : ¬ (a : Int) < (r : Int) := by omega
                have f4 : ¬ (r : Int) < (mid : Int) := by omega
                have f5 : (mid : Int) < (e : Int) := by omega
                have f6 : ¬ (e : Int) < (b : Int) := by omega
                have HS1 := HSr
                have HZ1 := HD
                have HRT : Hid (rotA d d r m e) := hid (rotA_none (by omega))
                go_wp2
                all_goals
                  have HS2 := HS1
                  have HZ2 := HZ1
                  have HP2 := hid (permIn_refl d a mid)
                  have HQ2 : Hid (SortedIn ltW a mid d) := hid (by have := (HFD.out.leftE HEE.out HRT.out).2; rwa [show a = r by omega])
                  have HS3 := HS2
                  have HZ3 := HZ2
                  have HP3 := hid (permIn_refl d mid b)
                  have HQ3 : Hid (SortedIn ltW mid b d) := hid (by have := (HFD.out.rightE HEE.out HRT.out HP2.out).1; rwa [show b = e by omega])
                  go_end0
                  obtain ⟨j1, j2⟩ := HFD.out.joinE HEE.out (by rw [HD.out]; exact hb) HRT.out HP2.out HQ2.out HP3.out HQ3.out
                  exact ⟨rfl, d, HS3.out, HZ3.out, j1, j2⟩
          · by_cases hB1 : r < mid
            · by_cases hB2 : e < b
              · have f1 : ¬ (r : Int) < (m : Int) := by omega
                have f2 : (m : Int) < (e : Int) := by omega
                have f3 : ¬ (a : Int) < (r : Int) := by omega
                have f4 : (r : Int) < (mid : Int) := by omega
                have f5 : ¬ (mid : Int) < (e : Int) := by omega
                have f6 : (e : Int) < (b : Int) := by omega
                have HS1 := HSr
                have HZ1 := HD
                have HRT : Hid (rotA d d r m e) := hid (rotA_none (by omega))
                go_wp2
                all_goals
                  have HS2 := HS1
                  have HZ2 := HZ1
                  have HP2 := hid (permIn_refl d a mid)
                  have HQ2 : Hid (SortedIn ltW a mid d) := hid (by have := (HFD.out.leftE HEE.out HRT.out).2; rwa [show a = r by omega])
                  have HS3 := HS2
                  have HZ3 := HZ2
                  have HP3 := hid (permIn_refl d mid b)
                  have HQ3 : Hid (SortedIn ltW mid b d) := hid (by have := (HFD.out.rightE HEE.out HRT.out HP2.out).2; rwa [show mid = e by omega])
                  go_end0
                  obtain ⟨j1, j2⟩ := HFD.out.joinE HEE.out (by rw [HD.out]; exact hb) HRT.out HP2.out HQ2.out HP3.out HQ3.out
                  exact ⟨rfl, d, HS3.out, HZ3.out, j1, j2⟩
              · have f1 : ¬ (r : Int) < (m : Int) := by omega
                have f2 : (m : Int) < (e : Int) := by omega
                have f3 : ¬ (a : Int) < (r : Int) := by omega
                have f4 : (r : Int) < (mid : Int) := by omega
                have f5 : ¬ (mid : Int) < (e : Int) := by omega
                have f6 : ¬ (e : Int) < (b : Int) := by omega
                have HS1 := HSr
                have HZ1 := HD
                have HRT : Hid (rotA d d r m e) := hid (rotA_none (by omega))
                go_wp2
                all_goals
                  have HS2 := HS1
                  have HZ2 := HZ1
                  have HP2 := hid (permIn_refl d a mid)
                  have HQ2 : Hid (SortedIn ltW a mid d) := hid (by have := (HFD.out.leftE HEE.out HRT.out).2; rwa [show a = r by omega])
                  have HS3 := HS2
                  have HZ3 := HZ2
                  have HP3 := hid (permIn_refl d mid b)
                  have HQ3 : Hid (SortedIn ltW mid b d) := hid (by have := (HFD.out.rightE HEE.out HRT.out HP2.out).2; rwa [show mid = e by omega])
                  go_end0
                  obtain ⟨j1, j2⟩ := HFD.out.joinE HEE.out (by rw [HD.out]; exact hb) HRT.out HP2.out HQ2.out HP3.out HQ3.out
                  exact ⟨rfl, d, HS3.out, HZ3.out, j1, j2⟩
            · by_cases hB2 : e < b
              · have f1 : ¬ (r : Int) < (m : Int) := by omega
                have f2 : ¬ (m : Int) < (e : Int) := by omega
                have f3 : ¬ (a : Int) < (r : Int) := by omega
                have f4 : ¬ (r : Int) < (mid : Int) := by omega
                have f5 : ¬ (mid : Int) < (e : Int) := by omega
                have f6 : (e : Int) < (b : Int) := by omega
                have HS1 := HSr
                have HZ1 := HD
                have HRT : Hid (rotA d d r m e) := hid (rotA_none (by omega))
                go_wp2
                all_goals
                  have HS2 := HS1
                  have HZ2 := HZ1
                  have HP2 := hid (permIn_refl d a mid)
                  have HQ2 : Hid (SortedIn ltW a mid d) := hid (by have := (HFD.out.leftE HEE.out HRT.out).2; rwa [show a = r by omega])
                  have HS3 := HS2
                  have HZ3 := HZ2
                  have HP3 := hid (permIn_refl d mid b)
                  have HQ3 : Hid (SortedIn ltW mid b d) := hid (by have := (HFD.out.rightE HEE.out HRT.out HP2.out).2; rwa [show mid = e by omega])
                  go_end0
                  obtain ⟨j1, j2⟩ := HFD.out.joinE HEE.out (by rw [HD.out]; exact hb) HRT.out HP2.out HQ2.out HP3.out HQ3.out
                  exact ⟨rfl, d, HS3.out, HZ3.out, j1, j2⟩
              · have f1 : ¬ (r : Int) < (m : Int) := by omega
                have f2 : ¬ (m : Int) < (e : Int) := by omega
                have f3 : ¬ (a : Int) < (r : Int) := by omega
                have f4 : ¬ (r : Int) < (mid : Int) := by omega
                have f5 : ¬ (mid : Int) < (e : Int) := by omega
                have f6 : ¬ (e : Int) < (b : Int) := by omega
                have HS1 := HSr
                have HZ1 := HD
                have HRT : Hid (rotA d d r m e) := hid (rotA_none (by omega))
                go_wp2
                all_goals
                  have HS2 := HS1
                  have HZ2 := HZ1
                  have HP2 := hid (permIn_refl d a mid)
                  have HQ2 : Hid (SortedIn ltW a mid d) := hid (by have := (HFD.out.leftE HEE.out HRT.out).2; rwa [show a = r by omega])
                  have HS3 := HS2
                  have HZ3 := HZ2
                  have HP3 := hid (permIn_refl d mid b)
                  have HQ3 : Hid (SortedIn ltW mid b d) := hid (by have := (HFD.out.rightE HEE.out HRT.out HP2.out).2; rwa [show mid = e by omega])
                  go_end0
                  obtain ⟨j1, j2⟩ := HFD.out.joinE HEE.out (by rw [HD.out]; exact hb) HRT.out HP2.out HQ2.out HP3.out HQ3.out
                  exact ⟨rfl, d, HS3.out, HZ3.out, j1, j2⟩
theorem symMerge_c {n g off cap : Nat} {d0 : Array Wd} {w0 : World} (R : RowK wdC 2 w0 g off d0) (hn : d0.size = n) (hsz : n < 4611686018427387904) : ∀ N, SymIH n g off cap d0 w0 N
  | 0 => fun a m b d w h1 _ _ h2 h3 => by omega
  | N + 1 => fun a m b d w h1 hd S h2 h3 h4 hA hB => by
    by_cases c1 : m = a + 1
    · exact symOne_c R hn hd hsz S c1 h3 h4 hB
    · by_cases c2 : b = m + 1
      · exact symLast_c R hn hd hsz S (by omega) c2 h4 hA
      · exact symMore_c R hn hd hsz S (by omega) (by omega) h4 hA hB h1 (symMerge_c R hn hsz N)
end Go.Proofs.YteigplfldhdakaaGreatDoor
