/- slices: two ranges of words exchanged; a turn. -/
import Derived.Test.YteigplfldhdakaaGreatDoorD17
set_option linter.unusedVariables false
set_option linter.unusedSimpArgs false
namespace Go.Proofs.YteigplfldhdakaaGreatDoor
open Go.RowKit Go.Shelf Go.Sort Dw
attribute [local go_sem ↓] Go.wp_at_zero Go.wp_at_succ
def swpR (d : Array Wd) (p q : Nat) : Nat → Array Wd
  | 0 => d
  | n + 1 => swp (swpR d p q n) (p + n) (q + n)
theorem swpR_size (d : Array Wd) (p q : Nat) : ∀ n, (swpR d p q n).size = d.size
  | 0 => rfl
  | n + 1 => by rw [swpR, swp_size, swpR_size d p q n]
theorem swpR_get (d : Array Wd) {p q : Nat} : ∀ {n : Nat}, p + n ≤ q → q + n ≤ d.size → ∀ k, (swpR d p q n)[k]! = swapR (fun k => d[k]!) p q n k
  | 0, _, _, k => by rw [swapR_zero]; rfl
  | n + 1, h1, h2, k => by
    have hs := swpR_size d p q n
    rw [swpR, swp_get _ (by omega) (by omega), ← swapR_succ _ (by omega)]
    have ih := swpR_get d (n := n) (p := p) (q := q) (by omega) (by omega)
    unfold swapF
    rw [ih, ih, ih]
    by_cases h3 : k = p + n
    · rw [if_neg (show ¬ k = q + n by omega), if_pos h3, if_pos h3]
    · rw [if_neg h3, if_neg h3]
theorem swpR_perm (d : Array Wd) {a b p q : Nat} : ∀ {n : Nat}, p + n ≤ q → q + n ≤ b → a ≤ p → b ≤ d.size → PermIn a b d (swpR d p q n)
  | 0, _, _, _, _ => permIn_refl _ _ _
  | n + 1, h1, h2, h3, h4 => by
    have hs := swpR_size d p q n
    exact permIn_trans _ _ _ _ _ (swpR_perm d (n := n) (by omega) (by omega) h3 h4) (swp_permIn _ _ _ _ _ (by omega) (by omega) (by omega) (by omega) (by omega))
set_option maxRecDepth 100000 in
set_option maxHeartbeats 8000000 in
theorem swapRange_c {g off cap p q n : Nat} {d0 d : Array Wd} {w0 w : World} (R : RowK wdC 2 w0 g off d0) (hs : d.size = d0.size) (S : SWK wdC 2 w0 g off d w) (h1 : p + n ≤ q) (h2 : q + n ≤ d.size) (hsz : d.size < 4611686018427387904) (fv : Value) :
    Calls Tryz.prog 259 #[.slice (some ⟨g, off, none⟩) d.size cap, .int .i64 p, .int .i64 q, .int .i64 n, fv] w fun e w' => e = .returned (.tuple #[]) ∧ SWK wdC 2 w0 g off (swpR d p q n) w' := by
  have HS := hid S
  have HR := hid R
  clear S R
  go_enter Tryz.func259, Tryz.ntmps259
  go_wp2
  go_loopw [10] (fun iv wr => ∃ i : Nat, i ≤ n ∧ iv = .int .i64 (i : Int) ∧ Hid (SWK wdC 2 w0 g off (swpR d p q i) wr)) (fun iv _ => n - (intOf iv).toNat)
  case atStart => exact ⟨0, Nat.zero_le _, rfl, HS⟩
  case round =>
    obtain ⟨i, hi, rfl, HSr⟩ := hrel
    by_cases hin : i < n
    · have hin2 : (i : Int) < (n : Int) := by omega
      have hsi := swpR_size d p q i
      obtain ⟨m1, hm1⟩ : ∃ m, p + i = m := ⟨_, rfl⟩
      obtain ⟨m2, hm2⟩ : ∃ m, q + i = m := ⟨_, rfl⟩
      have hw1 : IntKind.i64.wrap ((p : Int) + (i : Int)) = (m1 : Int) := by rw [IntKind.wrap_i64]; omega
      have hw2 : IntKind.i64.wrap ((q : Int) + (i : Int)) = (m2 : Int) := by rw [IntKind.wrap_i64]; omega
      have hb1 : (m1 : Int) < (d.size : Int) := by omega
      have hb2 : (m2 : Int) < (d.size : Int) := by omega
      have hz1 : (0 : Int) ≤ (m1 : Int) := by omega
      have hz2 : (0 : Int) ≤ (m2 : Int) := by omega
      have hne : m1 ≠ m2 := by omega
      obtain ⟨a1, a2, a3, a4⟩ := swk_cells HSr.out HR.out (by omega) (i := m1) (by omega)
      obtain ⟨b1, b2, b3, b4⟩ := swk_cells HSr.out HR.out (by omega) (i := m2) (by omega)
      have hS2 := HSr.out.swapped HR.out m1 m2 (by omega) (by omega)
      rw [← hm1, ← hm2] at hS2
      have hS3 : SWK wdC 2 w0 g off (swpR d p q (i + 1)) _ := hS2
      rw [hm1, hm2] at hS3
      clear hS2
      obtain ⟨x, hx⟩ : ∃ x, (swpR d p q i)[m1]! = x := ⟨_, rfl⟩
      obtain ⟨y, hy⟩ : ∃ x, (swpR d p q i)[m2]! = x := ⟨_, rfl⟩
      rw [hx, hy] at hS3
      rw [hx] at a1 a2
      rw [hy] at b1 b2
      obtain ⟨xs, xn⟩ := x
      obtain ⟨ys, yn⟩ := y
      simp only [wdC, World.setCells] at hS3
      dsimp only at a1 a2 b1 b2
      have HS3 := hid hS3
      clear hS3 hx hy hm1 hm2
      go_wp2
      go_region
      go_wp2
      exact ⟨⟨i + 1, by omega, by simp, HS3⟩, by simp [intOf]; omega⟩
    · obtain rfl : i = n := by omega
      have hin2 : ¬ (i : Int) < (i : Int) := by omega
      go_wp2
      go_end0
      exact ⟨rfl, HSr.out⟩
/-- a..m and m..b the other way round -/
def rotA (d d' : Array Wd) (a m b : Nat) : Prop := (∀ k, d'[k]! = rotF (fun k => d[k]!) a m b k) ∧ PermIn a b d d'
set_option maxRecDepth 100000 in
set_option maxHeartbeats 8000000 in
theorem rotate_c {g off cap a m b : Nat} {d0 d : Array Wd} {w0 w : World} (R : RowK wdC 2 w0 g off d0) (hs : d.size = d0.size) (S : SWK wdC 2 w0 g off d w) (h1 : a < m) (h2 : m < b) (h3 : b ≤ d.size) (hsz : d.size < 4611686018427387904) (fv : Value) :
    Calls Tryz.prog 248 #[.slice (some ⟨g, off, none⟩) d.size cap, .int .i64 a, .int .i64 m, .int .i64 b, fv] w fun e w' => e = .returned (.tuple #[]) ∧ ∃ d', SWK wdC 2 w0 g off d' w' ∧ d'.size = d.size ∧ rotA d d' a m b := by
  have HS := hid S
  have HR := hid R
  have HSZ := hid hs
  clear S R hs
  have hwa : IntKind.i64.wrap ((m : Int) - (a : Int)) = ((m - a : Nat) : Int) := by rw [IntKind.wrap_i64]; omega
  have hwb : IntKind.i64.wrap ((b : Int) - (m : Int)) = ((b - m : Nat) : Int) := by rw [IntKind.wrap_i64]; omega
  go_enter Tryz.func248, Tryz.ntmps248
  go_wp2
  go_loopw [10, 11] (fun iv jv wr => ∃ (i j : Nat) (e : Array Wd), 0 < i ∧ 0 < j ∧ i ≤ m - a ∧ j ≤ b - m ∧ iv = .int .i64 (i : Int) ∧ jv = .int .i64 (j : Int) ∧ e.size = d.size ∧ Hid (SWK wdC 2 w0 g off e wr) ∧ Hid (PermIn a b d e) ∧ Hid (rotF (fun k => e[k]!) (m - i) m (m + j) = rotF (fun k => d[k]!) a m b)) (fun iv jv _ => (intOf iv).toNat + (intOf jv).toNat)
  case atStart => exact ⟨m - a, b - m, d, by omega, by omega, Nat.le_refl _, Nat.le_refl _, rfl, rfl, rfl, HS, hid (permIn_refl _ _ _), hid (by rw [show m - (m - a) = a by omega, show m + (b - m) = b by omega])⟩
  case round =>
    obtain ⟨i, j, e, hi0, hj0, hia, hjb, rfl, rfl, hes, HSr, HPr, HFr⟩ := hrel
    clear HS
    obtain ⟨m1, hm1⟩ : ∃ x, m - i = x := ⟨_, rfl⟩
    have hw1 : IntKind.i64.wrap ((m : Int) - (i : Int)) = (m1 : Int) := by rw [IntKind.wrap_i64]; omega
    rcases Nat.lt_trichotomy i j with hij | hij | hij
    · have hc1 : ((i : Int) != (j : Int)) = true := by rw [bne_iff_ne]; omega
      have hc2 : ¬ (j : Int) < (i : Int) := by omega
      have hc3 : ¬ (i : Int) > (j : Int) := by omega
      obtain ⟨m2, hm2⟩ : ∃ x, m + j = x := ⟨_, rfl⟩
      obtain ⟨m3, hm3⟩ : ∃ x, m + j - i = x := ⟨_, rfl⟩
      have hw2 : IntKind.i64.wrap ((m : Int) + (j : Int)) = (m2 : Int) := by rw [IntKind.wrap_i64]; omega
      have hw3 : IntKind.i64.wrap ((m2 : Int) - (i : Int)) = (m3 : Int) := by rw [IntKind.wrap_i64]; omega
      have hw4 : IntKind.i64.wrap ((j : Int) - (i : Int)) = ((j - i : Nat) : Int) := by rw [IntKind.wrap_i64]; omega
      have hc := fun fv => swapRange_c (cap := cap) (p := m1) (q := m3) (n := i) HR.out (by have := HSZ.out; omega) HSr.out (by omega) (by omega) (by omega) fv
      rw [hes] at hc
      have HC := hid hc
      have HP2 := hid (permIn_trans _ _ _ _ _ HPr.out (swpR_perm e (a := a) (b := b) (p := m1) (q := m3) (n := i) (by omega) (by omega) (by omega) (by omega)))
      have HF2 : Hid (rotF (fun k => (swpR e m1 m3 i)[k]!) (m - i) m (m + (j - i)) = rotF (fun k => d[k]!) a m b) := hid (by
        rw [← HFr.out, ← rot_right (fun k => e[k]!) (m := m) (i := i) (j := j) (by omega) hij hi0, hm1, hm3]
        congr 1
        funext k
        exact swpR_get e (by omega) (by omega) k)
      have hes2 := swpR_size e m1 m3 i
      clear hc
      go_wp2_with (go_at_call 259; refine (HC.out _).mono ?_; rintro e1 w1 ⟨rfl, hs1⟩; have HS1 := hid hs1; clear hs1)
      exact ⟨⟨i, j - i, _, hi0, by omega, hia, by omega, rfl, by simp, by omega, HS1, HP2, HF2⟩, by simp [intOf]; omega⟩
    · subst hij
      have hc1 : ((i : Int) != (i : Int)) = false := by simp
      have hc := fun fv => swapRange_c (cap := cap) (p := m1) (q := m) (n := i) HR.out (by have := HSZ.out; omega) HSr.out (by omega) (by omega) (by omega) fv
      rw [hes] at hc
      have HC := hid hc
      have HP2 := hid (permIn_trans _ _ _ _ _ HPr.out (swpR_perm e (a := a) (b := b) (p := m1) (q := m) (n := i) (by omega) (by omega) (by omega) (by omega)))
      have HF2 : Hid (∀ k, (swpR e m1 m i)[k]! = rotF (fun k => d[k]!) a m b k) := hid fun k => by
        rw [← HFr.out, ← rot_even (fun k => e[k]!) (m := m) (i := i) (by omega), hm1]
        exact swpR_get e (by omega) (by omega) k
      have hes2 := swpR_size e m1 m i
      clear hc
      go_wp2_with (go_at_call 259; refine (HC.out _).mono ?_; rintro e1 w1 ⟨rfl, hs1⟩; have HS1 := hid hs1; clear hs1)
      go_end0
      exact ⟨rfl, _, HS1.out, by omega, HF2.out, HP2.out⟩
    · have hc1 : ((i : Int) != (j : Int)) = true := by rw [bne_iff_ne]; omega
      have hc2 : (j : Int) < (i : Int) := by omega
      have hw4 : IntKind.i64.wrap ((i : Int) - (j : Int)) = ((i - j : Nat) : Int) := by rw [IntKind.wrap_i64]; omega
      have hc := fun fv => swapRange_c (cap := cap) (p := m1) (q := m) (n := j) HR.out (by have := HSZ.out; omega) HSr.out (by omega) (by omega) (by omega) fv
      rw [hes] at hc
      have HC := hid hc
      have HP2 := hid (permIn_trans _ _ _ _ _ HPr.out (swpR_perm e (a := a) (b := b) (p := m1) (q := m) (n := j) (by omega) (by omega) (by omega) (by omega)))
      have HF2 : Hid (rotF (fun k => (swpR e m1 m j)[k]!) (m - (i - j)) m (m + j) = rotF (fun k => d[k]!) a m b) := hid (by
        rw [← HFr.out, ← rot_left (fun k => e[k]!) (m := m) (i := i) (j := j) (by omega) hij hj0, hm1]
        congr 1
        funext k
        exact swpR_get e (by omega) (by omega) k)
      have hes2 := swpR_size e m1 m j
      clear hc
      go_wp2_with (go_at_call 259; refine (HC.out _).mono ?_; rintro e1 w1 ⟨rfl, hs1⟩; have HS1 := hid hs1; clear hs1)
      exact ⟨⟨i - j, j, _, by omega, hj0, by omega, hjb, by simp, rfl, by omega, HS1, HP2, HF2⟩, by simp [intOf]; omega⟩
end Go.Proofs.YteigplfldhdakaaGreatDoor
/- two rows of words in order made one: what is at its end (plain). -/
namespace Go.Proofs.YteigplfldhdakaaGreatDoor
open Go.RowKit Go.Shelf Go.Sort Dw
/-- not behind -/
def leW (x y : Wd) : Prop := ltW y x = false
theorem leW_trans {x y z : Wd} (h : leW x y) (k : leW y z) : leW x z := ltW_swo.ntrans _ _ _ k h
theorem leW_of {x y : Wd} (h : ltW x y = true) : leW x y := ltW_swo.asymmA h
theorem srt_of {d : Array Wd} {a b : Nat} (h : SortedIn ltW a b d) : srtF leW (fun k => d[k]!) a b := h
theorem swpF_get (d : Array Wd) {i j : Nat} (hi : i < d.size) (hj : j < d.size) (k : Nat) : (swp d i j)[k]! = swapF (fun k => d[k]!) i j k := by
  rw [swp_get d hi hj]
  unfold swapF
  by_cases h1 : k = i
  · subst h1
    by_cases h2 : k = j
    · subst h2; simp
    · simp [h2]
  · by_cases h2 : k = j
    · subst h2; simp [h1]
    · simp [h1, h2]
theorem rot_ins {α : Type} (f : Nat → α) {a k : Nat} (h : a ≤ k) : swapF (rotF f a (a + 1) (k + 1)) k (k + 1) = rotF f a (a + 1) (k + 2) := by
  funext x
  unfold swapF rotF
  repeat' split
  all_goals first | omega | (congr 1; omega) | rfl
theorem rot_ins2 {α : Type} (f : Nat → α) {m k : Nat} (h : k < m) : swapF (rotF f (k + 1) m (m + 1)) (k + 1) k = rotF f k m (m + 1) := by
  funext x
  unfold swapF rotF
  repeat' split
  all_goals first | omega | (congr 1; omega) | rfl
theorem fin_one {d e : Array Wd} {a m i b : Nat} (hm : m = a + 1) (hmi : m ≤ i) (hib : i ≤ b) (hB : SortedIn ltW m b d) (h1 : ∀ x, m ≤ x → x < i → ltW d[x]! d[a]! = true) (h2 : ∀ x, i ≤ x → x < b → ltW d[x]! d[a]! = false)
    (he : ∀ k, e[k]! = rotF (fun k => d[k]!) a m i k) : SortedIn ltW a b e := by
  have g1 : ∀ k, a ≤ k → k + 1 < i → e[k]! = d[k + 1]! := fun k hk1 hk2 => by rw [he]; unfold rotF; rw [if_pos (by omega), if_pos (by omega)]; dsimp only; congr 1; omega
  have g2 : e[i - 1]! = d[a]! := by rw [he]; unfold rotF; rw [if_pos (by omega), if_neg (by omega)]; dsimp only; congr 1; omega
  have g3 : ∀ k, i ≤ k → e[k]! = d[k]! := fun k hk => by rw [he]; unfold rotF; rw [if_neg (by omega)]
  intro p q hp hpq hq
  show leW e[p]! e[q]!
  rcases Nat.lt_trichotomy (q + 1) i with c1 | c1 | c1
  · rw [g1 p hp (by omega), g1 q (by omega) c1]; exact hB _ _ (by omega) (by omega) (by omega)
  · rw [g1 p hp (by omega), show q = i - 1 by omega, g2]
    exact leW_of (h1 _ (by omega) (by omega))
  · rw [g3 q (by omega)]
    rcases Nat.lt_trichotomy (p + 1) i with c2 | c2 | c2
    · rw [g1 p hp c2]; exact hB _ _ (by omega) (by omega) hq
    · rw [show p = i - 1 by omega, g2]; exact h2 _ (by omega) hq
    · rw [g3 p (by omega)]; exact hB _ _ (by omega) hpq hq
theorem fin_last {d e : Array Wd} {a m i b : Nat} (hb : b = m + 1) (hai : a ≤ i) (him : i ≤ m) (hA : SortedIn ltW a m d) (h1 : ∀ x, a ≤ x → x < i → ltW d[m]! d[x]! = false) (h2 : ∀ x, i ≤ x → x < m → ltW d[m]! d[x]! = true)
    (he : ∀ k, e[k]! = rotF (fun k => d[k]!) i m b k) : SortedIn ltW a b e := by
  have g1 : ∀ k, k < i → e[k]! = d[k]! := fun k hk => by rw [he]; unfold rotF; rw [if_neg (by omega)]
  have g2 : e[i]! = d[m]! := by rw [he]; unfold rotF; rw [if_pos (by omega), if_pos (by omega)]; dsimp only; congr 1; omega
  have g3 : ∀ k, i < k → k < b → e[k]! = d[k - 1]! := fun k hk1 hk2 => by rw [he]; unfold rotF; rw [if_pos (by omega), if_neg (by omega)]; dsimp only; congr 1; omega
  intro p q hp hpq hq
  show leW e[p]! e[q]!
  rcases Nat.lt_trichotomy q i with c1 | c1 | c1
  · rw [g1 p (by omega), g1 q c1]; exact hA _ _ hp hpq (by omega)
  · rw [g1 p (by omega), c1, g2]; exact h1 _ hp (by omega)
  · rw [g3 q c1 hq]
    rcases Nat.lt_trichotomy p i with c2 | c2 | c2
    · rw [g1 p c2]; exact hA _ _ hp (by omega) (by omega)
    · rw [c2, g2]; exact leW_of (h2 _ (by omega) (by omega))
    · rw [g3 p c2 (by omega)]; exact hA _ _ (by omega) (by omega) (by omega)
/-- what a search between two rows has found -/
structure Found (d : Array Wd) (a m b mid s : Nat) : Prop where
  ham : a < m
  hmb : m < b
  hmid : mid = (a + b) / 2
  hA : SortedIn ltW a m d
  hB : SortedIn ltW m b d
  lo : (if m > mid then mid + m - b else a) ≤ s
  up : s ≤ if m > mid then mid else m
  h1 : ∀ c, (if m > mid then mid + m - b else a) ≤ c → c < s → ltW d[mid + m - 1 - c]! d[c]! = false
  h2 : ∀ c, s ≤ c → c < (if m > mid then mid else m) → ltW d[mid + m - 1 - c]! d[c]! = true
theorem Found.cross {d : Array Wd} {a m b mid s : Nat} (h : Found d a m b mid s) :
    a ≤ s ∧ s ≤ m ∧ m ≤ mid + m - s ∧ mid + m - s ≤ b ∧ s ≤ mid ∧
    srtF leW (rotF (fun k => d[k]!) s m (mid + m - s)) a s ∧ srtF leW (rotF (fun k => d[k]!) s m (mid + m - s)) s mid ∧ srtF leW (rotF (fun k => d[k]!) s m (mid + m - s)) mid (mid + m - s) ∧ srtF leW (rotF (fun k => d[k]!) s m (mid + m - s)) (mid + m - s) b ∧
    ∀ i j, a ≤ i → i < mid → mid ≤ j → j < b → leW (rotF (fun k => d[k]!) s m (mid + m - s) i) (rotF (fun k => d[k]!) s m (mid + m - s) j) :=
  cut_cross (lt := leW) (fun h k => leW_trans h k) (f := fun k => d[k]!) h.ham h.hmb h.hmid (srt_of h.hA) (srt_of h.hB) rfl rfl h.lo h.up (fun c h1 h2 => h.h1 c h1 h2) (fun c h1 h2 => leW_of (h.h2 c h1 h2))
theorem srt_get {e : Array Wd} {f : Nat → Wd} {a b : Nat} (h : srtF leW f a b) (he : ∀ k, a ≤ k → e[k]! = f k) : SortedIn ltW a b e := fun p q hp hpq hq => by
  rw [he p hp, he q (by omega)]
  exact h p q hp hpq hq
theorem Found.left {d d1 : Array Wd} {a m b mid s : Nat} (h : Found d a m b mid s) (hr : rotA d d1 s m (mid + m - s)) : SortedIn ltW a s d1 ∧ SortedIn ltW s mid d1 := by
  obtain ⟨_, _, _, _, _, h1, h2, _⟩ := h.cross
  exact ⟨srt_get h1 fun k _ => hr.1 k, srt_get h2 fun k _ => hr.1 k⟩
theorem Found.right {d d1 d2 : Array Wd} {a m b mid s : Nat} (h : Found d a m b mid s) (hr : rotA d d1 s m (mid + m - s)) (hp2 : ∀ k, mid ≤ k → d2[k]! = d1[k]!) : SortedIn ltW mid (mid + m - s) d2 ∧ SortedIn ltW (mid + m - s) b d2 := by
  obtain ⟨_, e2, _, _, e5, _, _, h1, h2, _⟩ := h.cross
  exact ⟨srt_get h1 fun k hk => (hp2 k hk).trans (hr.1 k), srt_get h2 fun k hk => (hp2 k (by omega)).trans (hr.1 k)⟩
theorem permIn_in {d d' : Array Wd} {a b : Nat} (hb : b ≤ d.size) (h : PermIn a b d d') (p : Wd → Prop) (hp : ∀ i, a ≤ i → i < b → p d[i]!) : ∀ i, a ≤ i → i < b → p d'[i]! := permIn_all _ _ _ _ p hb h hp
/-- **the end**: both halves are in order, and the one ahead of the other -/
theorem Found.join {d d1 d2 d3 : Array Wd} {a m b mid s : Nat} (h : Found d a m b mid s) (hb : b ≤ d.size) (hr : rotA d d1 s m (mid + m - s)) (hp2 : PermIn a mid d1 d2) (hs2 : SortedIn ltW a mid d2) (hp3 : PermIn mid b d2 d3) (hs3 : SortedIn ltW mid b d3) :
    PermIn a b d d3 ∧ SortedIn ltW a b d3 := by
  obtain ⟨e1, e2, e3, e4, e5, _, _, _, _, hc⟩ := h.cross
  have ham := h.ham
  have hmb := h.hmb
  have hmid := h.hmid
  have z1 := hr.2.1
  have z2 := hp2.1
  have q1 : PermIn a b d d1 := permIn_mono _ _ _ _ _ _ (by omega) (by omega) hb hr.2
  have q2 : PermIn a b d1 d2 := permIn_mono _ _ _ _ _ _ (by omega) (by omega) (by omega) hp2
  have q3 : PermIn a b d2 d3 := permIn_mono _ _ _ _ _ _ (by omega) (by omega) (by omega) hp3
  refine ⟨permIn_trans _ _ _ _ _ (permIn_trans _ _ _ _ _ q1 q2) q3, fun p q hp hpq hq => ?_⟩
  have k2 : ∀ k, mid ≤ k → d2[k]! = d1[k]! := fun k hk => hp2.2.1 k (.inr hk)
  have k3 : ∀ k, k < mid → d3[k]! = d2[k]! := fun k hk => hp3.2.1 k (.inl hk)
  have c1 : ∀ i, a ≤ i → i < mid → ∀ j, mid ≤ j → j < b → leW d1[i]! d1[j]! := fun i hi1 hi2 j hj1 hj2 => by
    rw [hr.1, hr.1]; exact hc i j hi1 hi2 hj1 hj2
  have c2 : ∀ i, a ≤ i → i < mid → ∀ j, mid ≤ j → j < b → leW d2[i]! d2[j]! := fun i hi1 hi2 => permIn_in (by omega) hp2 (fun x => ∀ j, mid ≤ j → j < b → leW x d2[j]!) (fun i hi1 hi2 j hj1 hj2 => by rw [k2 j hj1]; exact c1 i hi1 hi2 j hj1 hj2) i hi1 hi2
  have c3 : ∀ j, mid ≤ j → j < b → ∀ i, a ≤ i → i < mid → leW d2[i]! d3[j]! := fun j hj1 hj2 => permIn_in (by omega) hp3 (fun x => ∀ i, a ≤ i → i < mid → leW d2[i]! x) (fun j hj1 hj2 i hi1 hi2 => c2 i hi1 hi2 j hj1 hj2) j hj1 hj2
  rcases Nat.lt_or_ge q mid with h1 | h1
  · rw [k3 p (by omega), k3 q h1]; exact hs2 p q hp hpq h1
  · rcases Nat.lt_or_ge p mid with h2 | h2
    · rw [k3 p h2]; exact c3 q h1 hq p hp h2
    · exact hs3 p q h2 hpq hq
theorem rotA_none {d : Array Wd} {s m e : Nat} (h : s = m ∨ m = e) : rotA d d s m e := by
  refine ⟨fun k => ?_, permIn_refl _ _ _⟩
  rcases h with rfl | rfl
  · rw [rot_same]
  · rw [rot_none]
end Go.Proofs.YteigplfldhdakaaGreatDoor
/- slices: two rows of words in order made one. -/
namespace Go.Proofs.YteigplfldhdakaaGreatDoor
open Go.RowKit Go.Shelf Go.Sort Dw
attribute [local go_sem ↓] Go.wp_at_zero Go.wp_at_succ
/-- what the making of one row hands back -/
def SymP (n g off : Nat) (d0 : Array Wd) (w0 : World) (a b : Nat) (d : Array Wd) (e : Ending) (w' : World) : Prop := e = .returned (.tuple #[]) ∧ ∃ d', SWK wdC 2 w0 g off d' w' ∧ d'.size = n ∧ PermIn a b d d' ∧ SortedIn ltW a b d'
theorem compare_c (x y : Wd) (w : World) : Calls Tryz.prog 105 #[.agg #[.string x.1, .int .i64 x.2], .agg #[.string y.1, .int .i64 y.2]] w fun e w' => e = .returned (.int .i64 (cmpW x y)) ∧ Laid w w' := compare_l x y w
theorem swk_laid {g off : Nat} {d : Array Wd} {w0 W W' : World} (S : SWK wdC 2 w0 g off d W) (h : Laid W W') : SWK wdC 2 w0 g off d W' := by
  obtain ⟨q, os, rfl⟩ := h
  exact S.grown q os

set_option maxRecDepth 100000 in
set_option maxHeartbeats 8000000 in
theorem symOne_c {n g off cap a m b : Nat} {d0 d : Array Wd} {w0 w : World} (R : RowK wdC 2 w0 g off d0) (hn : d0.size = n) (hd : d.size = n) (hsz : n < 4611686018427387904) (S : SWK wdC 2 w0 g off d w) (hm : m = a + 1) (hmb : m < b) (hb : b ≤ n) (hB : SortedIn ltW m b d) :
    Calls Tryz.prog 220 #[.slice (some ⟨g, off, none⟩) n cap, .int .i64 a, .int .i64 m, .int .i64 b, .func (.func 105) #[] #[]] w (SymP n g off d0 w0 a b d) := by
  have HS := hid S
  have HR := hid R
  have HB := hid hB
  have HN := hid hn
  have HD := hid hd
  have hw0 : IntKind.i64.wrap ((m : Int) - (a : Int)) = 1 := by rw [IntKind.wrap_i64]; omega
  have HM := hid hm
  have ha0 : (0 : Int) ≤ (a : Int) := by omega
  have hal : (a : Int) < (n : Int) := by omega
  clear S R hB hn hd hm
  go_enter Tryz.func220, Tryz.ntmps220
  go_wp2
  go_loopw [10, 11] (fun lv hv wr => ∃ i j : Nat, lv = .int .i64 (i : Int) ∧ hv = .int .i64 (j : Int) ∧ m ≤ i ∧ i ≤ j ∧ j ≤ b ∧ Hid (∀ x, m ≤ x → x < i → ltW d[x]! d[a]! = true) ∧ Hid (∀ x, j ≤ x → x < b → ltW d[x]! d[a]! = false) ∧ Hid (SWK wdC 2 w0 g off d wr)) (fun lv hv _ => (intOf hv).toNat - (intOf lv).toNat)
  case atStart => exact ⟨m, b, rfl, rfl, Nat.le_refl _, by omega, Nat.le_refl _, hid (fun x h1 h2 => by omega), hid (fun x h1 h2 => by omega), HS⟩
  case round =>
    obtain ⟨i, j, rfl, rfl, hmi, hij, hjb, H1, H2, HSr⟩ := hrel
    clear HS
    by_cases hlt : i < j
    · have hlt2 : (i : Int) < (j : Int) := by omega
      obtain ⟨h, hh⟩ : ∃ h, (i + j) / 2 = h := ⟨_, rfl⟩
      have hhI : ((i : Int) + (j : Int)) / 2 = (h : Int) := by omega
      have hhl : (h : Int) < (n : Int) := by omega
      have hh0 : (0 : Int) ≤ (h : Int) := by omega
      have hw1 : IntKind.i64.wrap ((i : Int) + j) = (i : Int) + j := by rw [IntKind.wrap_i64]; omega
      obtain ⟨a1, a2, -, -⟩ := swk_cells HSr.out HR.out (by rw [HN.out, HD.out]) (i := h) (by rw [HD.out]; omega)
      obtain ⟨b1, b2, -, -⟩ := swk_cells HSr.out HR.out (by rw [HN.out, HD.out]) (i := a) (by rw [HD.out]; omega)
      have hcc := fun W => compare_c d[h]! d[a]! W
      have hup : cmpW d[h]! d[a]! < 0 → Hid (∀ x, m ≤ x → x < h + 1 → ltW d[x]! d[a]! = true) := fun hq => hid fun x hx1 hx2 => by
        have hq2 : ltW d[h]! d[a]! = true := (cmpW_neg _ _).1 hq
        rcases Nat.lt_or_ge x h with h3 | h3
        · rcases hx : ltW d[x]! d[a]! with _ | _
          · have h4 := HB.out x h hx1 h3 (by omega)
            have := ltW_swo.ntrans _ _ _ h4 hx
            rw [hq2] at this; cases this
          · rfl
        · rwa [show x = h by omega]
      have hdn : ¬ cmpW d[h]! d[a]! < 0 → Hid (∀ x, h ≤ x → x < b → ltW d[x]! d[a]! = false) := fun hq => hid fun x hx1 hx2 => by
        have hq2 : ltW d[h]! d[a]! = false := by
          rcases hx : ltW d[h]! d[a]! with _ | _
          · rfl
          · exact absurd ((cmpW_neg _ _).2 hx) hq
        rcases Nat.lt_or_ge h x with h3 | h3
        · exact ltW_swo.ntrans _ _ _ (HB.out h x (by omega) h3 hx2) hq2
        · rwa [show x = h by omega]
      obtain ⟨z, hz⟩ : ∃ z, cmpW d[h]! d[a]! = z := ⟨_, rfl⟩
      rw [hz] at hcc hup hdn
      obtain ⟨x, hx⟩ : ∃ x, d[h]! = x := ⟨_, rfl⟩
      obtain ⟨y, hy⟩ : ∃ x, d[a]! = x := ⟨_, rfl⟩
      rw [hx] at a1 a2 hcc
      rw [hy] at b1 b2 hcc
      obtain ⟨xs, xn⟩ := x
      obtain ⟨ys, yn⟩ := y
      dsimp only at a1 a2 b1 b2 hcc
      have HC := hid hcc
      have hmh : m ≤ h := by omega
      have hhj : h < j := by omega
      have hih : i ≤ h := by omega
      clear hcc hz hx hy hh
      by_cases hz0 : z < 0
      · have HU := hup hz0
        clear hup hdn
        go_wp2
        refine wp_region_still_tail 9 (by kernel_rfl) (by kernel_rfl) ?_
        simp only [List.take_succ_cons, List.take_zero, List.drop_succ_cons, List.drop_zero]
        repeat still_step
        refine wpStill_nil ?_
        change wpList _ _ _ _ _ wr.drew
        go_wp2_with (go_at_call 105; refine (HC.out _).mono ?_; rintro e w1 ⟨rfl, hb1⟩; have HS1 := hid (swk_laid (HSr.out.drew) hb1); clear hb1)
        exact ⟨⟨h + 1, j, by simp [hhI], rfl, by omega, by omega, hjb, HU, H2, HS1⟩, by simp [intOf, hhI]; omega⟩
      · have HU := hdn hz0
        clear hup hdn
        go_wp2
        refine wp_region_still_tail 9 (by kernel_rfl) (by kernel_rfl) ?_
        simp only [List.take_succ_cons, List.take_zero, List.drop_succ_cons, List.drop_zero]
        repeat still_step
        refine wpStill_nil ?_
        change wpList _ _ _ _ _ wr.drew
        go_wp2_with (go_at_call 105; refine (HC.out _).mono ?_; rintro e w1 ⟨rfl, hb1⟩; have HS1 := hid (swk_laid (HSr.out.drew) hb1); clear hb1)
        exact ⟨⟨i, h, rfl, by simp [hhI], hmi, by omega, by omega, H1, HU, HS1⟩, by simp [intOf, hhI]; omega⟩
    · obtain rfl : j = i := by omega
      have hlt2 : ¬ (j : Int) < (j : Int) := by omega
      have hwi : IntKind.i64.wrap ((j : Int) - 1) = (j : Int) - 1 := by rw [IntKind.wrap_i64]; omega
      have HP0 := hid (permIn_refl d a b)
      go_wp2
      go_loopw [13] (fun kv wr => ∃ (k : Nat) (e : Array Wd), a ≤ k ∧ k < j ∧ kv = .int .i64 (k : Int) ∧ Hid (e.size = n) ∧ Hid (SWK wdC 2 w0 g off e wr) ∧ Hid (PermIn a b d e) ∧ Hid (∀ x, e[x]! = rotF (fun x => d[x]!) a (a + 1) (k + 1) x)) (fun kv _ => j - (intOf kv).toNat)
      case atStart => exact ⟨a, d, Nat.le_refl _, by have := HM.out; omega, rfl, HD, HSr, HP0, hid (fun x => by rw [rot_none])⟩
      case round =>
        obtain ⟨k, e, hak, hkj, rfl, HE, HSk, HPk, HFk⟩ := hrel
        clear HSr HP0
        by_cases hkl : k + 1 < j
        · have hkl2 : (k : Int) < (j : Int) - 1 := by omega
          obtain ⟨k1, hk1⟩ : ∃ k1, k + 1 = k1 := ⟨_, rfl⟩
          have hw1 : IntKind.i64.wrap ((k : Int) + 1) = (k1 : Int) := by rw [IntKind.wrap_i64]; omega
          have hb1 : (k : Int) < (n : Int) := by omega
          have hb2 : (k1 : Int) < (n : Int) := by omega
          have hz1 : (0 : Int) ≤ (k : Int) := by omega
          have hz2 : (0 : Int) ≤ (k1 : Int) := by omega
          have hne : k ≠ k1 := by omega
          obtain ⟨a1, a2, a3, a4⟩ := swk_cells HSk.out HR.out (by rw [HN.out, HE.out]) (i := k) (by rw [HE.out]; omega)
          obtain ⟨b1, b2, b3, b4⟩ := swk_cells HSk.out HR.out (by rw [HN.out, HE.out]) (i := k1) (by rw [HE.out]; omega)
          have hS2 := HSk.out.swapped HR.out k k1 (by rw [HE.out]; omega) (by rw [HE.out]; omega)
          have HE2 : Hid ((swp e k k1).size = n) := hid (by rw [swp_size, HE.out])
          have HP2 := hid (permIn_trans _ _ _ _ _ HPk.out (swp_permIn e a b k k1 (by omega) (by omega) (by omega) (by omega) (by rw [HE.out]; omega)))
          have HF2 : Hid (∀ x, (swp e k k1)[x]! = rotF (fun x => d[x]!) a (a + 1) (k1 + 1) x) := hid fun x => by
            rw [swpF_get e (by rw [HE.out]; omega) (by rw [HE.out]; omega), ← hk1, ← rot_ins (fun x => d[x]!) hak]
            congr 1
            funext x
            exact HFk.out x
          obtain ⟨x, hx⟩ : ∃ x, e[k]! = x := ⟨_, rfl⟩
          obtain ⟨y, hy⟩ : ∃ x, e[k1]! = x := ⟨_, rfl⟩
          rw [hx, hy] at hS2
          rw [hx] at a1 a2
          rw [hy] at b1 b2
          obtain ⟨xs, xn⟩ := x
          obtain ⟨ys, yn⟩ := y
          simp only [wdC, World.setCells] at hS2
          dsimp only at a1 a2 b1 b2
          have HS3 := hid hS2
          clear hS2 hx hy
          go_wp2
          go_region
          go_wp2
          exact ⟨⟨k1, _, by omega, by omega, by simp [hk1, hw1], HE2, HS3, HP2, HF2⟩, by simp [intOf]; omega⟩
        · have hkl2 : ¬ (k : Int) < (j : Int) - 1 := by omega
          have hkj2 : k + 1 = j := by omega
          go_wp2
          go_end0
          refine ⟨rfl, e, HSk.out, HE.out, HPk.out, fin_one HM.out (by omega) hjb HB.out H1.out H2.out fun x => ?_⟩
          rw [HFk.out, HM.out, hkj2]

set_option maxRecDepth 100000 in
set_option maxHeartbeats 8000000 in
theorem symLast_c {n g off cap a m b : Nat} {d0 d : Array Wd} {w0 w : World} (R : RowK wdC 2 w0 g off d0) (hn : d0.size = n) (hd : d.size = n) (hsz : n < 4611686018427387904) (S : SWK wdC 2 w0 g off d w) (ham : a + 1 < m) (hbm : b = m + 1) (hb : b ≤ n) (hA : SortedIn ltW a m d) :
    Calls Tryz.prog 220 #[.slice (some ⟨g, off, none⟩) n cap, .int .i64 a, .int .i64 m, .int .i64 b, .func (.func 105) #[] #[]] w (SymP n g off d0 w0 a b d) := by
  have HS := hid S
  have HR := hid R
  have HA := hid hA
  have HN := hid hn
  have HD := hid hd
  have hw0 : IntKind.i64.wrap ((m : Int) - (a : Int)) = ((m - a : Nat) : Int) := by rw [IntKind.wrap_i64]; omega
  obtain ⟨ma, hma⟩ : ∃ x, m - a = x := ⟨_, rfl⟩
  rw [hma] at hw0
  have hne1 : ((ma : Int) == 1) = false := by rw [beq_eq_false_iff_ne]; omega
  have hw9 : IntKind.i64.wrap ((b : Int) - (m : Int)) = 1 := by rw [IntKind.wrap_i64]; omega
  have HM := hid hbm
  have hm0 : (0 : Int) ≤ (m : Int) := by omega
  have hml : (m : Int) < (n : Int) := by omega
  have hmln : m < n := by omega
  clear S R hA hn hd hbm
  go_enter Tryz.func220, Tryz.ntmps220
  go_wp2
  go_loopw [14, 15] (fun lv hv wr => ∃ i j : Nat, lv = .int .i64 (i : Int) ∧ hv = .int .i64 (j : Int) ∧ a ≤ i ∧ i ≤ j ∧ j ≤ m ∧ Hid (∀ x, a ≤ x → x < i → ltW d[m]! d[x]! = false) ∧ Hid (∀ x, j ≤ x → x < m → ltW d[m]! d[x]! = true) ∧ Hid (SWK wdC 2 w0 g off d wr)) (fun lv hv _ => (intOf hv).toNat - (intOf lv).toNat)
  case atStart => exact ⟨a, m, rfl, rfl, Nat.le_refl _, by omega, Nat.le_refl _, hid (fun x h1 h2 => by omega), hid (fun x h1 h2 => by omega), HS⟩
  case round =>
    obtain ⟨i, j, rfl, rfl, hmi, hij, hjb, H1, H2, HSr⟩ := hrel
    clear HS
    by_cases hlt : i < j
    · have hlt2 : (i : Int) < (j : Int) := by omega
      obtain ⟨h, hh⟩ : ∃ h, (i + j) / 2 = h := ⟨_, rfl⟩
      have hhI : ((i : Int) + (j : Int)) / 2 = (h : Int) := by omega
      have hhl : (h : Int) < (n : Int) := by omega
      have hh0 : (0 : Int) ≤ (h : Int) := by omega
      have hw1 : IntKind.i64.wrap ((i : Int) + j) = (i : Int) + j := by rw [IntKind.wrap_i64]; omega
      obtain ⟨a1, a2, -, -⟩ := swk_cells HSr.out HR.out (by rw [HN.out, HD.out]) (i := h) (by rw [HD.out]; omega)
      obtain ⟨b1, b2, -, -⟩ := swk_cells HSr.out HR.out (by rw [HN.out, HD.out]) (i := m) (by rw [HD.out]; omega)
      have hcc := fun W => compare_c d[m]! d[h]! W
      have hup : ¬ cmpW d[m]! d[h]! < 0 → Hid (∀ x, a ≤ x → x < h + 1 → ltW d[m]! d[x]! = false) := fun hq => hid fun x hx1 hx2 => by
        have hq2 : ltW d[m]! d[h]! = false := by
          rcases hx : ltW d[m]! d[h]! with _ | _
          · rfl
          · exact absurd ((cmpW_neg _ _).2 hx) hq
        rcases Nat.lt_or_ge x h with h3 | h3
        · exact ltW_swo.ntrans _ _ _ hq2 (HA.out x h hx1 h3 (by omega))
        · rwa [show x = h by omega]
      have hdn : cmpW d[m]! d[h]! < 0 → Hid (∀ x, h ≤ x → x < m → ltW d[m]! d[x]! = true) := fun hq => hid fun x hx1 hx2 => by
        have hq2 : ltW d[m]! d[h]! = true := (cmpW_neg _ _).1 hq
        rcases Nat.lt_or_ge h x with h3 | h3
        · rcases hx : ltW d[m]! d[x]! with _ | _
          · have h4 := HA.out h x (by omega) h3 hx2
            have := ltW_swo.ntrans _ _ _ hx h4
            rw [hq2] at this; cases this
          · rfl
        · rwa [show x = h by omega]
      obtain ⟨z, hz⟩ : ∃ z, cmpW d[m]! d[h]! = z := ⟨_, rfl⟩
      rw [hz] at hcc hup hdn
      obtain ⟨x, hx⟩ : ∃ x, d[h]! = x := ⟨_, rfl⟩
      obtain ⟨y, hy⟩ : ∃ x, d[m]! = x := ⟨_, rfl⟩
      rw [hx] at a1 a2
      rw [hy] at b1 b2
      rw [hx, hy] at hcc
      obtain ⟨xs, xn⟩ := x
      obtain ⟨ys, yn⟩ := y
      dsimp only at a1 a2 b1 b2 hcc
      have HC := hid hcc
      have hmh : a ≤ h := by omega
      have hhj : h < j := by omega
      have hih : i ≤ h := by omega
      clear hcc hz hx hy hh
      by_cases hz0 : z < 0
      · have HU := hdn hz0
        have hzb : decide (z < 0) = true := decide_eq_true hz0
        clear hup hdn
        go_wp2
        refine wp_region_still_tail 9 (by kernel_rfl) (by kernel_rfl) ?_
        simp only [List.take_succ_cons, List.take_zero, List.drop_succ_cons, List.drop_zero]
        repeat still_step
        refine wpStill_nil ?_
        change wpList _ _ _ _ _ wr.drew
        go_wp2_with (go_at_call 105; refine (HC.out _).mono ?_; rintro e w1 ⟨rfl, hb1⟩; have HS1 := hid (swk_laid (HSr.out.drew) hb1); clear hb1)
        exact ⟨⟨i, h, rfl, by simp [hhI], hmi, by omega, by omega, H1, HU, HS1⟩, by simp [intOf, hhI]; omega⟩
      · have HU := hup hz0
        have hzb : decide (z < 0) = false := decide_eq_false hz0
        have hzc : 0 ≤ z := by omega
        clear hup hdn
        go_wp2
        refine wp_region_still_tail 9 (by kernel_rfl) (by kernel_rfl) ?_
        simp only [List.take_succ_cons, List.take_zero, List.drop_succ_cons, List.drop_zero]
        repeat still_step
        refine wpStill_nil ?_
        change wpList _ _ _ _ _ wr.drew
        go_wp2_with (go_at_call 105; refine (HC.out _).mono ?_; rintro e w1 ⟨rfl, hb1⟩; have HS1 := hid (swk_laid (HSr.out.drew) hb1); clear hb1)
        all_goals exact ⟨⟨h + 1, j, by simp [hhI], rfl, by omega, by omega, hjb, HU, H2, HS1⟩, by simp [intOf, hhI]; omega⟩
    · obtain rfl : j = i := by omega
      have hlt2 : ¬ (j : Int) < (j : Int) := by omega
      have HP0 := hid (permIn_refl d a b)
      go_wp2
      go_loopw [17] (fun kv wr => ∃ (k : Nat) (e : Array Wd), j ≤ k ∧ k ≤ m ∧ kv = .int .i64 (k : Int) ∧ Hid (e.size = n) ∧ Hid (SWK wdC 2 w0 g off e wr) ∧ Hid (PermIn a b d e) ∧ Hid (∀ x, e[x]! = rotF (fun x => d[x]!) k m (m + 1) x)) (fun kv _ => (intOf kv).toNat)
      case atStart => exact ⟨m, d, hjb, Nat.le_refl _, rfl, HD, HSr, HP0, hid (fun x => by rw [rot_same])⟩
      case round =>
        obtain ⟨k, e, hjk, hkm, rfl, HE, HSk, HPk, HFk⟩ := hrel
        clear HSr HP0
        by_cases hkl : j < k
        · have hkl2 : (j : Int) < (k : Int) := by omega
          obtain ⟨k1, hk1⟩ : ∃ k1, k1 + 1 = k := ⟨k - 1, by omega⟩
          have hw1 : IntKind.i64.wrap ((k : Int) - 1) = (k1 : Int) := by rw [IntKind.wrap_i64]; omega
          have hb1 : (k : Int) < (n : Int) := by omega
          have hb2 : (k1 : Int) < (n : Int) := by omega
          have hz1 : (0 : Int) ≤ (k : Int) := by omega
          have hz2 : (0 : Int) ≤ (k1 : Int) := by omega
          have hne : k ≠ k1 := by omega
          have hbb := HM.out
          obtain ⟨a1, a2, a3, a4⟩ := swk_cells HSk.out HR.out (by rw [HN.out, HE.out]) (i := k) (by rw [HE.out]; omega)
          obtain ⟨b1, b2, b3, b4⟩ := swk_cells HSk.out HR.out (by rw [HN.out, HE.out]) (i := k1) (by rw [HE.out]; omega)
          have hS2 := HSk.out.swapped HR.out k k1 (by rw [HE.out]; omega) (by rw [HE.out]; omega)
          have HE2 : Hid ((swp e k k1).size = n) := hid (by rw [swp_size, HE.out])
          have HP2 := hid (permIn_trans _ _ _ _ _ HPk.out (swp_permIn e a b k k1 (by omega) (by omega) (by omega) (by omega) (by rw [HE.out]; omega)))
          have HF2 : Hid (∀ x, (swp e k k1)[x]! = rotF (fun x => d[x]!) k1 m (m + 1) x) := hid fun x => by
            rw [swpF_get e (by rw [HE.out]; omega) (by rw [HE.out]; omega), ← rot_ins2 (fun x => d[x]!) (show k1 < m by omega), hk1]
            congr 1
            funext x
            exact HFk.out x
          obtain ⟨x, hx⟩ : ∃ x, e[k]! = x := ⟨_, rfl⟩
          obtain ⟨y, hy⟩ : ∃ x, e[k1]! = x := ⟨_, rfl⟩
          rw [hx, hy] at hS2
          rw [hx] at a1 a2
          rw [hy] at b1 b2
          obtain ⟨xs, xn⟩ := x
          obtain ⟨ys, yn⟩ := y
          simp only [wdC, World.setCells] at hS2
          dsimp only at a1 a2 b1 b2
          have HS3 := hid hS2
          clear hS2 hx hy hbb
          go_wp2
          go_region
          go_wp2
          exact ⟨⟨k1, _, by omega, by omega, by simp [hw1], HE2, HS3, HP2, HF2⟩, by simp [intOf]; omega⟩
        · have hkl2 : ¬ (j : Int) < (k : Int) := by omega
          obtain rfl : k = j := by omega
          go_wp2
          go_end0
          refine ⟨rfl, e, HSk.out, HE.out, HPk.out, fin_last HM.out hmi hjb HA.out H1.out H2.out fun x => ?_⟩
          rw [HFk.out, HM.out]
end Go.Proofs.YteigplfldhdakaaGreatDoor
