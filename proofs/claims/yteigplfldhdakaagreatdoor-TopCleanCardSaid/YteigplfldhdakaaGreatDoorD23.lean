/- dawg: common. -/
import Derived.Test.YteigplfldhdakaaGreatDoorD22
import Derived.Test.YteigplfldhdakaaGreatDoorD20
import Derived.Test.YteigplfldhdakaaGreatDoorD17
set_option linter.unusedVariables false
set_option linter.unusedSimpArgs false
namespace Go.Proofs.YteigplfldhdakaaGreatDoor
open Go.RowKit Go.Shelf Dw
attribute [local go_sem ↓] Go.wp_at_zero Go.wp_at_succ
theorem RS.below {w W : World} {v : Value} {L : List Int} (h : RS w v L) (hb : Below w.heap.size w W) : RS W v L := SL.keep h fun k hk => hb.block k (SL.lt h k hk)
theorem RS.at1 {w : World} {A : Option Addr} {c : Nat} {L : List Int} (h : RS w (.slice A L.length c) L) {k : Nat} (hk : k < L.length) :
    ∃ g off, A = some ⟨g, off, none⟩ ∧ g < w.heap.size ∧ w.cell? ⟨g, off + k, none⟩ = some (.int .i32 L[k]) := by
  obtain ⟨g, off, cap, hv, _, _, hc, _⟩ := SL.open_ h (by omega)
  obtain ⟨rfl, -, rfl⟩ := Value.slice.inj hv
  refine ⟨g, off, rfl, SL.lt h g rfl, ?_⟩
  rw [hc k (by omega)]
  simp [i32, hk]
theorem comm_step {A B : List Int} {k : Nat} (hA : k < A.length) (hB : k < B.length) : comm (A.drop k) (B.drop k) = if A[k] = B[k] then comm (A.drop (k + 1)) (B.drop (k + 1)) + 1 else 0 := by
  rw [List.drop_eq_getElem_cons hA, List.drop_eq_getElem_cons hB, comm]
theorem comm_end {A B : List Int} {k : Nat} (h : A.length ≤ k ∨ B.length ≤ k) : comm (A.drop k) (B.drop k) = 0 := by
  rcases h with h | h
  · rw [List.drop_of_length_le h, comm]
    intro a x b y h1; cases h1
  · rw [List.drop_of_length_le h]
    cases A.drop k <;> rfl
set_option maxRecDepth 100000 in
set_option maxHeartbeats 4000000 in
theorem common_c {w : World} {va vb : Value} {A B : List Int} (hA : RS w va A) (hB : RS w vb B) (hl : A.length ≤ 4500000) (hl2 : B.length ≤ 4500000) :
    Calls Tryz.prog 114 #[va, vb] w fun e w' => e = .returned (.int .i64 (comm A B : Nat)) ∧ Below w.heap.size w w' := by
  obtain ⟨A1, c1, rfl, -⟩ := SL.form hA
  obtain ⟨A2, c2, rfl, -⟩ := SL.form hB
  have HA := hid hA
  have HB := hid hB
  clear hA hB
  go_enter Tryz.func114, Tryz.ntmps114
  go_wp2
  go_loopw [4] (fun iv wr => ∃ k : Nat, k ≤ A.length ∧ k ≤ B.length ∧ iv = .int .i64 (k : Int) ∧ Hid (comm A B = k + comm (A.drop k) (B.drop k)) ∧ Hid (Below w.heap.size w wr)) (fun iv _ => A.length - (intOf iv).toNat)
  case atStart => exact ⟨0, Nat.zero_le _, Nat.zero_le _, rfl, hid (by simp), hid (Below.refl _ _)⟩
  case round =>
    obtain ⟨k, hkA, hkB, rfl, HC, HBe⟩ := hrel
    by_cases h1 : k < A.length
    · have h1i : (k : Int) < (A.length : Int) := by omega
      by_cases h2 : k < B.length
      · have h2i : (k : Int) < (B.length : Int) := by omega
        obtain ⟨g1, o1, e1, l1, p1⟩ := RS.at1 (RS.below HA.out HBe.out) h1
        obtain ⟨g2, o2, e2, l2, p2⟩ := RS.at1 (RS.below HB.out HBe.out) h2
        subst e1
        subst e2
        have hst := comm_step h1 h2
        obtain ⟨x, hx⟩ : ∃ x, A[k] = x := ⟨_, rfl⟩
        obtain ⟨y, hy⟩ : ∃ x, B[k] = x := ⟨_, rfl⟩
        rw [hx] at p1 hst
        rw [hy] at p2 hst
        by_cases hxy : x = y
        · subst hxy
          have HC2 : Hid (comm A B = (k + 1) + comm (A.drop (k + 1)) (B.drop (k + 1))) := hid (by rw [HC.out, hst, if_pos rfl]; omega)
          clear hst hx hy
          go_wp2
          go_quiet (fail)
          go_wp2
          exact ⟨⟨k + 1, by omega, by omega, by simp, HC2, hid (Below.drewN' HBe.out nq)⟩, by simp [intOf]; omega⟩
        · have HC2 : Hid (comm A B = k) := hid (by rw [HC.out, hst, if_neg hxy]; omega)
          have hxb : (x == y) = false := by rw [beq_eq_false_iff_ne]; exact hxy
          clear hst hx hy
          go_wp2
          go_quiet (fail)
          go_wp2
          go_ret
          exact ⟨by rw [HC2.out]; rfl, Below.drewN' HBe.out nq⟩
      · have h2i : ¬ (k : Int) < (B.length : Int) := by omega
        have HC2 : Hid (comm A B = k) := hid (by rw [HC.out, comm_end (.inr (by omega))]; omega)
        go_wp2
        go_quiet (fail)
        go_wp2
        go_ret
        exact ⟨by rw [HC2.out]; rfl, Below.drewN' HBe.out nq⟩
    · have h1i : ¬ (k : Int) < (A.length : Int) := by omega
      have h1b : decide (k < A.length) = false := decide_eq_false h1
      have HC2 : Hid (comm A B = k) := hid (by rw [HC.out, comm_end (.inl (by omega))]; omega)
      go_wp2
      go_quiet (fail)
      go_wp2
      go_ret
      exact ⟨by rw [HC2.out]; rfl, Below.drewN' HBe.out nq⟩
/- dawg: find. -/
set_option maxRecDepth 100000 in
set_option maxHeartbeats 2000000 in
theorem find1_c (x : Ed) (r : Int) (hx : 0 ≤ x.1 ∧ x.1 ≤ 1114111) (hr : 0 ≤ r ∧ r ≤ 1114111) (w : World) : Calls Tryz.prog 201 #[.agg #[.int .i32 x.1, .int .i64 (x.2 : Int)], .int .i32 r] w fun e w' => e = .returned (.int .i64 (x.1 - r)) ∧ Below w.heap.size w w' := by
  obtain ⟨a, b⟩ := x
  dsimp only at hx ⊢
  have HB0 := hid (balloc (Below.refl _ w) (.cells #[.int .i32 a, .int .i64 (b : Int)] 220))
  have h1 : IntKind.i64.wrap a = a := by rw [IntKind.wrap_i64]; omega
  have h2 : IntKind.i64.wrap r = r := by rw [IntKind.wrap_i64]; omega
  have h3 : IntKind.i64.wrap (a - r) = a - r := by rw [IntKind.wrap_i64]; omega
  go_enter Tryz.func201, Tryz.ntmps201
  go_wp2
  go_ret
  exact ⟨by simp [h1, h2, h3], HB0.out⟩
theorem ris_at {L : List Ed} (h : risE L) {i j : Nat} (hij : i < j) (hj : j < L.length) : L[i].1 < L[j].1 := List.pairwise_iff_getElem.1 h i j (by omega) hj hij
def okE (L : List Ed) : Prop := ∀ e ∈ L, okU e.1
/-- where rune r stands, or would -/
def FoundE (L : List Ed) (r : Int) (k : Nat) (b : Bool) : Prop := k ≤ L.length ∧ (∀ i (h : i < L.length), i < k → L[i].1 < r) ∧ (∀ i (h : i < L.length), k ≤ i → r ≤ L[i].1) ∧ (b = true ↔ ∃ h : k < L.length, L[k].1 = r)
set_option maxRecDepth 100000 in
set_option maxHeartbeats 8000000 in
theorem bsE_c {w : World} {v : Value} {L : List Ed} (h : EdS w v L) (hs : risE L) (hok : okE L) (hl : L.length ≤ 4500000) (r : Int) (hr : 0 ≤ r ∧ r ≤ 1114111) :
    Calls Tryz.prog 200 #[v, .int .i32 r, .func (.func 201) #[] #[]] w fun e w' => Below w.heap.size w w' ∧ ∃ k b, FoundE L r k b ∧ e = .returned (.tuple #[.int .i64 (k : Int), .bool b]) := by
  obtain ⟨A, c, rfl, hc⟩ := SL.form h
  have HS := hid h
  have HR := hid hs
  have HOK := hid hok
  clear h hs hok
  go_enter Tryz.func200, Tryz.ntmps200
  go_wp2
  go_loopw [9, 10] (fun lv hv wr => ∃ lo hi : Nat, lv = .int .i64 (lo : Int) ∧ hv = .int .i64 (hi : Int) ∧ lo ≤ hi ∧ hi ≤ L.length ∧ Hid (∀ i (h : i < L.length), i < lo → L[i].1 < r) ∧ Hid (∀ i (h : i < L.length), hi ≤ i → r ≤ L[i].1) ∧ Hid (Below w.heap.size w wr)) (fun lv hv _ => (intOf hv).toNat - (intOf lv).toNat)
  case atStart => exact ⟨0, L.length, rfl, rfl, Nat.zero_le _, Nat.le_refl _, hid (fun i h h2 => by omega), hid (fun i h h2 => by omega), hid (Below.refl _ _)⟩
  case round =>
    obtain ⟨lo, hi, rfl, rfl, hlh, hin, H1, H2, HB⟩ := hrel
    by_cases hlt : lo < hi
    · have hlt2 : (lo : Int) < (hi : Int) := by omega
      obtain ⟨m, hm⟩ : ∃ m, (lo + hi) / 2 = m := ⟨_, rfl⟩
      have hml : m < L.length := by omega
      have hmI : ((lo : Int) + (hi : Int)) / 2 = (m : Int) := by omega
      have hw1 : IntKind.i64.wrap ((lo : Int) + hi) = (lo : Int) + hi := by rw [IntKind.wrap_i64]; omega
      have hmlI : (m : Int) < (L.length : Int) := by omega
      have hm0 : (0 : Int) ≤ (m : Int) := by omega
      obtain ⟨g, off, hA, hgl, k0, k1⟩ := EdS.at2 (HS.out.below HB.out) hml
      subst hA
      have hup : L[m].1 < r → Hid (∀ i (h : i < L.length), i < m + 1 → L[i].1 < r) := fun hq => hid fun i h h2 => by
        rcases Nat.lt_or_ge i m with h3 | h3
        · have := ris_at HR.out h3 hml; omega
        · have e : i = m := by omega
          subst e; exact hq
      have hdn : ¬ L[m].1 < r → Hid (∀ i (h : i < L.length), m ≤ i → r ≤ L[i].1) := fun hq => hid fun i h h2 => by
        rcases Nat.lt_or_ge m i with h3 | h3
        · have := ris_at HR.out h3 h; omega
        · have e : i = m := by omega
          subst e; omega
      have hro := HOK.out _ (List.getElem_mem hml)
      have hcc := fun (h9 : 0 ≤ L[m].1 ∧ L[m].1 ≤ 1114111) W => find1_c L[m] r h9 hr W
      obtain ⟨x, hx⟩ : ∃ x, L[m] = x := ⟨_, rfl⟩
      rw [hx] at k0 k1 hup hdn hro hcc
      obtain ⟨xr, xt⟩ := x
      dsimp only at k0 k1 hup hdn hro hcc
      unfold okU at hro
      have hcc2 := hcc (by omega)
      have HC := hid hcc2
      have hm1 : lo ≤ m := by omega
      have hm2 : m < hi := by omega
      clear hcc hcc2 hx hm
      by_cases hz0 : xr < r
      · have HU := hup hz0
        have hz1 : xr - r < 0 := by omega
        clear hup hdn
        go_wp2_with (go_at_call 201; refine (HC.out _).mono ?_; rintro e w1 ⟨rfl, hb1⟩; have HB1 := hid (bthen HB.out hb1); clear hb1)
        all_goals exact ⟨⟨m + 1, hi, by simp [hmI], by simp, by omega, hin, HU, H2, HB1⟩, by simp [intOf, hmI]; omega⟩
      · have HU := hdn hz0
        have hz1 : ¬ xr - r < 0 := by omega
        clear hup hdn
        go_wp2_with (go_at_call 201; refine (HC.out _).mono ?_; rintro e w1 ⟨rfl, hb1⟩; have HB1 := hid (bthen HB.out hb1); clear hb1)
        all_goals exact ⟨⟨lo, m, by simp, by simp [hmI], by omega, by omega, H1, HU, HB1⟩, by simp [intOf, hmI]; omega⟩
    · obtain rfl : hi = lo := by omega
      have hlt2 : ¬ (hi : Int) < (hi : Int) := by omega
      by_cases hn : hi < L.length
      · have hn2 : (hi : Int) < (L.length : Int) := by omega
        obtain ⟨g, off, hA, hgl, k0, k1⟩ := EdS.at2 (HS.out.below HB.out) hn
        subst hA
        have hro := HOK.out _ (List.getElem_mem hn)
        have hcc := fun (h9 : 0 ≤ L[hi].1 ∧ L[hi].1 ≤ 1114111) W => find1_c L[hi] r h9 hr W
        have hF : ∀ b, (b = true ↔ L[hi].1 = r) → Hid (FoundE L r hi b) := fun b hb => hid ⟨hin, H1.out, H2.out, hb.trans ⟨fun h => ⟨hn, h⟩, fun ⟨_, h⟩ => h⟩⟩
        obtain ⟨x, hx⟩ : ∃ x, L[hi] = x := ⟨_, rfl⟩
        rw [hx] at k0 k1 hro hcc hF
        obtain ⟨xr, xt⟩ := x
        dsimp only at k0 k1 hro hcc hF
        unfold okU at hro
        have hcc2 := hcc (by omega)
        have HC := hid hcc2
        clear hcc hcc2 hx
        by_cases hz0 : xr = r
        · have HF := hF true (by simp [hz0])
          have hz1 : xr - r = 0 := by omega
          clear hF
          subst hz0
          go_wp2_with (go_at_call 201; refine (HC.out _).mono ?_; rintro e w1 ⟨rfl, hb1⟩; have HB1 := hid (bthen HB.out hb1); clear hb1)
          all_goals
            go_ret2
            exact ⟨HB1.out, hi, true, HF.out, by simp⟩
        · have HF := hF false (by simp [hz0])
          have hz1 : ¬ xr - r = 0 := by omega
          have hz2 : (xr - r == 0) = false := by rw [beq_eq_false_iff_ne]; exact hz1
          clear hF
          go_wp2_with (go_at_call 201; refine (HC.out _).mono ?_; rintro e w1 ⟨rfl, hb1⟩; have HB1 := hid (bthen HB.out hb1); clear hb1)
          all_goals
            go_ret2
            exact ⟨HB1.out, hi, false, HF.out, by simp [hz2, hz1]⟩
      · have hn2 : ¬ (hi : Int) < (L.length : Int) := by omega
        have HF : Hid (FoundE L r hi false) := hid ⟨hin, H1.out, H2.out, by simp [hn]⟩
        go_wp2
        all_goals
          go_ret2
          first
            | exact ⟨HB.out, hi, false, HF.out, by simp⟩
            | exact ⟨HB.out, hi, .inl ⟨HF.out, rfl⟩⟩
theorem found_edge {L : List Ed} (hs : risE L) {r : Int} {t k : Nat} {b : Bool} (h : FoundE L r k b) (he : edgeTo r L = some t) : b = true ∧ ∃ hk : k < L.length, L[k] = (r, t) := by
  obtain ⟨i, hi, e⟩ := List.mem_iff_getElem.1 (edgeTo_mem he)
  obtain ⟨h1, h2, h3, h4⟩ := h
  have hik : k ≤ i := by
    rcases Nat.lt_or_ge i k with h5 | h5
    · have := h2 i hi h5; rw [e] at this; dsimp only at this; omega
    · exact h5
  have h5 := h3 k (by omega) (Nat.le_refl _)
  have e2 : k = i := by
    rcases Nat.lt_or_ge k i with h6 | h6
    · have := ris_at hs h6 hi
      rw [e] at this; dsimp only at this; omega
    · omega
  subst e2
  exact ⟨h4.2 ⟨hi, by rw [e]⟩, hi, e⟩
set_option maxRecDepth 100000 in
set_option maxHeartbeats 2000000 in
theorem find_e {w : World} {g off : Nat} {v : Value} {L : List Ed} (hc : w.cell? ⟨g, off, none⟩ = some v) (h : EdS w v L) (hs : risE L) (hok : okE L) (hl : L.length ≤ 4500000) {r : Int} {t : Nat} (hr : 0 ≤ r ∧ r ≤ 1114111) (he : edgeTo r L = some t) :
    Calls Tryz.prog 168 #[.pointer (some ⟨g, off, none⟩), .int .i32 r] w fun e w' => Below w.heap.size w w' ∧ ∃ (k : Nat) (hk : k < L.length), L[k] = (r, t) ∧ e = .returned (.tuple #[.int .i64 (k : Int), .bool true]) := by
  have hb := bsE_c h hs hok hl r hr
  have hb2 : Calls Tryz.prog 200 #[v, .int .i32 r, .func (.func 201) #[] #[]] w fun e w' => Below w.heap.size w w' ∧ ∃ (k : Nat) (hk : k < L.length), Hid (L[k] = (r, t)) ∧ e = .returned (.tuple #[.int .i64 (k : Int), .bool true]) := hb.mono fun e w' ⟨h1, k, b, h2, h3⟩ => by
    obtain ⟨rfl, hk, h4⟩ := found_edge hs h2 he
    exact ⟨h1, k, hk, h4, h3⟩
  obtain ⟨A, c, rfl, -⟩ := SL.form h
  have HB := hid hb2
  clear hb hb2 h hs hok he
  go_enter Tryz.func168, Tryz.ntmps168
  go_wp2_with (go_at_call 200; refine HB.out.mono ?_; rintro e w1 ⟨hb1, k, hk, HK, rfl⟩; have HB1 := hid hb1; clear hb1)
  go_ret2
  exact ⟨HB1.out, k, hk, HK.out, rfl⟩
/- dawg: Place, of a word that is there. -/
/-- a state in memory -/
structure Rec where
  sl : Value
  out : List Ed
  ends : Bool
  n : Int
def rec0 : Rec := ⟨.slice none 0 0, [], false, 0⟩
instance : Inhabited Rec := ⟨rec0⟩
def recC (r : Rec) : List Value := [r.sl, .bool r.ends, .int .i64 r.n]
theorem recC_len (r : Rec) : (recC r).length = 3 := rfl
def dstR (r : Rec) : Dst := (r.out, r.ends)
/-- v is a slice of states: these -/
structure StsAt (w : World) (v : Value) (R : List Rec) : Prop where
  base : SL w 160 3 v R.length (R.flatMap recC)
  outs : ∀ i (h : i < R.length), EdS w R[i].sl R[i].out
theorem StsAt.below {w W : World} {v : Value} {R : List Rec} (h : StsAt w v R) (hb : Below w.heap.size w W) : StsAt W v R :=
  ⟨SL.keep h.base fun k hk => hb.block k (SL.lt h.base k hk), fun i hi => (h.outs i hi).below hb⟩
theorem StsAt.at3 {w : World} {g off c : Nat} {R : List Rec} (h : StsAt w (.slice (some ⟨g, off, none⟩) R.length c) R) {k : Nat} (hk : k < R.length) :
    g < w.heap.size ∧ w.cell? ⟨g, off + k * 3, none⟩ = some R[k].sl ∧ w.cell? ⟨g, off + k * 3 + 1, none⟩ = some (.bool R[k].ends) ∧ w.cell? ⟨g, off + k * 3 + 2, none⟩ = some (.int .i64 R[k].n) := by
  have hc := SL.cellsK (enc := recC) recC_len h.base k hk
  rw [getElem!_pos R k hk] at hc
  exact ⟨SL.lt h.base g rfl, hc 0 _ rfl, hc 1 _ rfl, hc 2 _ rfl⟩
theorem StsAt.form {w : World} {v : Value} {R : List Rec} (h : StsAt w v R) (h0 : 0 < R.length) : ∃ g off c, v = .slice (some ⟨g, off, none⟩) R.length c := by
  obtain ⟨g, off, cap, hv, _, _, _, _⟩ := SL.open_ h.base h0
  exact ⟨g, off, cap, hv⟩
/-- the automaton at block p -/
structure DawgAt (w : World) (p : Nat) (R : List Rec) : Prop where
  at_ : ∃ v e f, w.heap[p]? = some (.cells #[v, .int .i64 e, f] 167 (0, 0)) ∧ StsAt w v R
  ne : 0 < R.length
  inr : inR (R.map dstR)
  ris : ∀ i (h : i < R.length), risE R[i].out
  ok : ∀ i (h : i < R.length), okE R[i].out
  few : ∀ i (h : i < R.length), R[i].out.length ≤ 4500000
  len : R.length ≤ 4500000
theorem DawgAt.below {w W : World} {p : Nat} {R : List Rec} (h : DawgAt w p R) (hb : Below w.heap.size w W) : DawgAt W p R := by
  obtain ⟨⟨v, e, f, h1, h2⟩, h3, h4, h5, h6, h7, h8⟩ := h
  exact ⟨⟨v, e, f, (hb.block p (blk_lt h1)).trans h1, h2.below hb⟩, h3, h4, h5, h6, h7, h8⟩
theorem dst_at {R : List Rec} {k : Nat} (h : k < R.length) : (R.map dstR).getD k dst0 = dstR R[k] := by
  rw [List.getD_eq_getElem?_getD, List.getElem?_map, List.getElem?_eq_getElem h]; rfl
theorem acc_go {R : List Rec} {q : Nat} (hq : q < R.length) {r : Int} {w : List Int} (h : acc (R.map dstR) q (r :: w) = true) : ∃ t, edgeTo r R[q].out = some t ∧ acc (R.map dstR) t w = true := by
  rw [acc, dst_at hq] at h
  cases hx : edgeTo r R[q].out with
  | none => rw [show (dstR R[q]).1 = R[q].out from rfl, hx] at h; cases h
  | some t => rw [show (dstR R[q]).1 = R[q].out from rfl, hx] at h; exact ⟨t, rfl, h⟩
set_option maxRecDepth 100000 in
set_option maxHeartbeats 16000000 in
theorem place_c {w : World} {p : Nat} {R : List Rec} (h : DawgAt w p R) {t : ByteArray} (ht : TokL t) (ha : acc (R.map dstR) 0 (runesOf (bys t)) = true) (hT : Tab w) :
    Calls Tryz.prog 119 #[.pointer (some ⟨p, 0, none⟩), .string t] w fun e w' => Below w.heap.size w w' ∧ ∃ n, e = .returned (.tuple #[.int .i64 n, .int .i64 0]) := by
  have hdc : Calls Tryz.prog 112 #[.string t] w fun e w' => Below w.heap.size w w' ∧ ∃ A c, e = .returned (.tuple #[.slice A (runesOf (bys t)).length c, .int .i64 0]) ∧ RS w' (.slice A (runesOf (bys t)).length c) (runesOf (bys t)) := (decode_c t ht.small w hT).mono fun e w' ⟨h1, h2⟩ => by
    rcases h2 with ⟨h2, _⟩ | ⟨_, A, c, h3, h4, _⟩
    · exact absurd (okText_of _ _ (Nat.le_refl _) ht.valid) h2
    · have hl : (runesOf (bys t)).length = cntR (bys t) := runesTo_length _ _
      rw [hl]
      exact ⟨h1, A, c, h3, h4⟩
  have hru := (text_runes _ (bys t) (Nat.le_refl _) ht.valid).2
  have hrl : (runesOf (bys t)).length ≤ 64 := by
    have hl : (runesOf (bys t)).length = cntR (bys t) := runesTo_length _ _
    rw [hl, ← runeCount_cnt]; exact ht.few
  obtain ⟨rs, hrs⟩ : ∃ rs, runesOf (bys t) = rs := ⟨_, rfl⟩
  rw [hrs] at hdc hru ha hrl
  have HDC := hid hdc
  have HRU := hid hru
  have HA := hid ha
  have HD := hid h
  obtain ⟨⟨v, e0, f0, hp, hst⟩, hne, hinr, hris, hok, hfew, hlen⟩ := h
  obtain ⟨g, off, c, rfl⟩ := hst.form hne
  have hpl := blk_lt hp
  have HP := hid hp
  have HST := hid hst
  have HIN := hid hinr
  have HRI := hid hris
  have HOK := hid hok
  have HFW := hid hfew
  have hnI : (0 : Int) < (R.length : Int) := by omega
  clear hdc hru ha hst hinr hris hok hfew hT hrs ht hp
  have hcell : ∀ W, Below w.heap.size w W → W.cell? ⟨p, 0, none⟩ = some (.slice (some ⟨g, off, none⟩) R.length c) := fun W hb => by
    have h1 := (hb.block p hpl).trans HP.out
    rw [cell_of_row W _ 0 _ _ _ h1]; rfl
  have HCELL := hid hcell
  clear hcell
  go_enter Tryz.func119, Tryz.ntmps119
  go_wp2_with (go_at_call 112; refine HDC.out.mono ?_; rintro e w1 ⟨hb1, A1, c1, rfl, h1⟩; have HB1 := hid hb1; have H1 := hid h1; have p0 := HCELL.out w1 hb1; clear hb1 h1)
  go_quiet (fail)
  go_wp2
  clear p0
  go_loopw [8, 9, 32] (fun nv pv iv wr => ∃ (i q : Nat) (m : Int), i ≤ rs.length ∧ q < R.length ∧ iv = .int .i64 (i : Int) ∧ nv = .int .i64 m ∧ pv = .pointer (some ⟨g, off + q * 3, none⟩) ∧ Hid (acc (R.map dstR) q (rs.drop i) = true) ∧ Hid (Below w1.heap.size w1 wr)) (fun _ _ iv _ => rs.length - (intOf iv).toNat)
  case atStart => exact ⟨0, 0, 0, Nat.zero_le _, hne, rfl, rfl, by simp, HA, hid (bdrew (Below.refl _ w1) nq)⟩
  case round =>
    obtain ⟨i, q, m, hi, hq, rfl, rfl, rfl, HAC, HB⟩ := hrel
    have HBw := hid (bthen HB1.out HB.out)
    obtain ⟨-, s0, s1, s2⟩ := StsAt.at3 (HST.out.below HBw.out) hq
    by_cases hil : i < rs.length
    · have hil2 : (i : Int) < (rs.length : Int) := by omega
      obtain ⟨g1, o1, e1, l1, p1⟩ := RS.at1 (RS.below H1.out HB.out) hil
      subst e1
      have hac := HAC.out
      rw [List.drop_eq_getElem_cons hil] at hac
      obtain ⟨tt, hed, hac2⟩ := acc_go hq hac
      have HAC2 := hid hac2
      have hru := HRU.out _ (List.getElem_mem hil)
      have htl : tt < R.length := by
        have h1 := HIN.out q
        rw [dst_at hq] at h1
        have h2 := h1 _ (edgeTo_mem hed)
        rw [List.length_map] at h2
        exact h2
      obtain ⟨r, hr⟩ : ∃ r, rs[i] = r := ⟨_, rfl⟩
      rw [hr] at p1 hru hed
      unfold okU at hru
      have hfe := find_e s0 ((HST.out.below HBw.out).outs q hq) (HRI.out q hq) (HOK.out q hq) (HFW.out q hq) (r := r) (by omega) hed
      clear hac hac2 hr hed
      have houts := (HST.out.outs q hq)
      have hinq := HIN.out q
      rw [dst_at hq] at hinq
      have hinq : ∀ e ∈ R[q].out, e.2 < (R.map dstR).length := hinq
      rw [List.length_map] at hinq
      have hfew := HFW.out q hq
      obtain ⟨rq, hrq⟩ : ∃ rq, R[q] = rq := ⟨_, rfl⟩
      have hq4 : ∀ W, Below w.heap.size w W → W.cell? ⟨g, off + q * 3, none⟩ = some rq.sl ∧ W.cell? ⟨g, off + q * 3 + 1, none⟩ = some (.bool rq.ends) := fun W hW => by
        obtain ⟨-, z0, z1, -⟩ := StsAt.at3 (HST.out.below hW) hq
        rw [hrq] at z0 z1
        exact ⟨z0, z1⟩
      rw [hrq] at hfe houts hinq hfew s0 s1
      clear hrq
      obtain ⟨sl, L, en, nn⟩ := rq
      dsimp only at hfe houts hinq hfew s0 s1 hq4
      obtain ⟨A2, c2, hv2, -⟩ := SL.form houts
      subst hv2
      have HOU := hid houts
      have HIQ := hid hinq
      have HQ3 := hid hq4
      have HFE := hid hfe
      clear hfe hq4 houts hinq
      cases en
      all_goals
        go_wp2_with (go_at_call 168; refine HFE.out.mono ?_; rintro e w2 ⟨hb2, k, hk, hke, rfl⟩; have HB2 := hid (bthen HB.out hb2); have HBw2 := hid (bthen HBw.out hb2); obtain ⟨t0, t1⟩ := HQ3.out w2 HBw2.out; have HKE := hid hke; have hkI : (k : Int) < (L.length : Int) := (by omega); have hk0 : (0 : Int) ≤ (k : Int) := (by omega); have hkl : k ≤ c2 := (by have := SL.form HOU.out; obtain ⟨_, _, h1, h2⟩ := this; cases h1; omega); obtain ⟨g2, o2, hA2, -, -, -⟩ := EdS.at2 HOU.out hk; subst hA2; clear hb2 hke)
        go_loopw [8, 57] (fun nv jv wr => ∃ (j : Nat) (m3 : Int), j ≤ k ∧ jv = .int .i64 (j : Int) ∧ nv = .int .i64 m3 ∧ Hid (Below w1.heap.size w1 wr)) (fun _ jv _ => k - (intOf jv).toNat)
        case atStart => exact ⟨0, _, Nat.zero_le _, rfl, rfl, HB2⟩
        case round =>
          obtain ⟨j, m3, hj, rfl, rfl, HBi⟩ := hrel
          have HBwi := hid (bthen HB1.out HBi.out)
          by_cases hjk : j < k
          · have hjk2 : (j : Int) < (k : Int) := by omega
            have hjl : j < L.length := by omega
            obtain ⟨g3, o3, hA, hgl, k0, k1⟩ := EdS.at2 (HOU.out.below HBwi.out) hjl
            cases hA
            have hto : L[j].2 < R.length := HIQ.out _ (List.getElem_mem hjl)
            obtain ⟨x, hx⟩ : ∃ x, L[j] = x := ⟨_, rfl⟩
            rw [hx] at k0 k1 hto
            clear hx
            obtain ⟨xr, xt⟩ := x
            dsimp only at k0 k1 hto
            have htoI : (xt : Int) < (R.length : Int) := by omega
            obtain ⟨-, -, -, y2⟩ := StsAt.at3 (HST.out.below HBwi.out) hto
            have y0 := HCELL.out _ HBwi.out
            have HBa := hid (balloc HBi.out (.cells #[.int .i32 xr, .int .i64 (xt : Int)] 220))
            have hgw : g < wr.heap.size := (StsAt.at3 (HST.out.below HBwi.out) hto).1
            have hpw : p < wr.heap.size := Nat.lt_of_lt_of_le hpl HBwi.out.size
            go_wp2
            go_quiet (fail)
            go_wp2
            exact ⟨⟨j + 1, _, by omega, by simp, rfl, hid (bdrew HBa.out nq)⟩, by simp [intOf]; omega⟩
          · obtain rfl : j = k := by omega
            have hjk2 : ¬ (j : Int) < (j : Int) := by omega
            have hto : L[j].2 < R.length := HIQ.out _ (List.getElem_mem hk)
            obtain ⟨g3, o3, hA, hgl, k0, k1⟩ := EdS.at2 (HOU.out.below HBwi.out) hk
            cases hA
            have hke := HKE.out
            rw [hke] at k0 k1
            clear hke
            dsimp only at k0 k1
            have htoI : (tt : Int) < (R.length : Int) := by omega
            obtain ⟨y0, -⟩ := HQ3.out _ HBwi.out
            have y1 := HCELL.out _ HBwi.out
            go_wp2
            go_quiet (fail)
            go_wp2
            exact ⟨⟨i + 1, tt, m3, by omega, htl, by simp, rfl, by simp, HAC2, hid (bdrew HBi.out nq)⟩, by simp [intOf]; omega⟩
    · obtain rfl : i = rs.length := by omega
      have hil2 : ¬ (rs.length : Int) < (rs.length : Int) := by omega
      have hac := HAC.out
      rw [List.drop_length, acc, dst_at hq] at hac
      have hac : R[q].ends = true := hac
      rw [hac] at s1
      clear hac
      go_wp2
      go_ret2
      exact ⟨HBw.out, m, rfl⟩
end Go.Proofs.YteigplfldhdakaaGreatDoor
/- dawg: the draft in memory. -/
namespace Go.Proofs.YteigplfldhdakaaGreatDoor
open Go.RowKit Go.Shelf Dw MapKept
/-- what a draft may turn: blocks behind the fence that are not rows of another type -/
def drF (B : Nat) (w : World) (k : Nat) : Prop := B ≤ k ∧ ¬ ∃ cur e, w.heap[k]? = some (.cells cur e (0, 0)) ∧ e ≠ 160 ∧ e ≠ 163 ∧ e ≠ 220
def DT (B : Nat) (w W : World) : Prop := Touch (drF B w) w W
theorem DT.refl (B : Nat) (w : World) : DT B w w := Touch.refl _ _
theorem DT.of_below {B : Nat} {w W : World} (h : Below w.heap.size w W) : DT B w W := ⟨h.os, h.tape, h.output, h.size, fun k hk _ => h.block k hk⟩
theorem DT.trans {B : Nat} {a b c : World} (h : DT B a b) (k : DT B b c) : DT B a c :=
  Touch.trans h k fun i hi => by
    by_cases hs : a.heap.size ≤ i
    · exact .inr hs
    · refine .inl (Classical.byContradiction fun hn => ?_)
      have h1 := h.block i (by omega) hn
      obtain ⟨hB, h2⟩ := hi
      unfold drF at hn
      refine hn ⟨hB, fun ⟨cur, e, h3, h4⟩ => h2 ⟨cur, e, h1.trans h3, h4⟩⟩
theorem DT.own {B : Nat} {w W : World} (h : DT B w W) {k : Nat} (hB : B ≤ k) (ho : ¬ ∃ cur e, W.heap[k]? = some (.cells cur e (0, 0)) ∧ e ≠ 160 ∧ e ≠ 163 ∧ e ≠ 220) : drF B w k ∨ w.heap.size ≤ k := by
  by_cases hs : w.heap.size ≤ k
  · exact .inr hs
  · refine .inl (Classical.byContradiction fun hn => ?_)
    have h1 := h.block k (by omega) hn
    unfold drF at hn
    exact hn ⟨hB, fun ⟨cur, e, h3, h4⟩ => ho ⟨cur, e, h1.trans h3, h4⟩⟩
theorem own_of {W : World} {k e : Nat} {cur : Array Value} (h : W.heap[k]? = some (.cells cur e (0, 0))) (he : e = 160 ∨ e = 163 ∨ e = 220) : ¬ ∃ cur e, W.heap[k]? = some (.cells cur e (0, 0)) ∧ e ≠ 160 ∧ e ≠ 163 ∧ e ≠ 220 := by
  rintro ⟨cur', e', h1, h2⟩
  rw [h] at h1
  cases h1
  rcases he with h | h | h
  · exact h2.1 h
  · exact h2.2.1 h
  · exact h2.2.2 h
theorem own_map {W : World} {k n : Nat} {es : Array MapEntry} (h : W.heap[k]? = some (.map es n)) : ¬ ∃ cur e, W.heap[k]? = some (.cells cur e (0, 0)) ∧ e ≠ 160 ∧ e ≠ 163 ∧ e ≠ 220 := by
  rintro ⟨cur', e', h1, h2⟩
  rw [h] at h1
  cases h1
theorem DT.below {B : Nat} {w0 w W : World} (h : DT B w W) (hb : Below w0.heap.size w0 w) (hB : w0.heap.size ≤ B) : Below w0.heap.size w0 W := Touch.below h hb fun k hk => Nat.le_trans hB hk.1
theorem SL.dt {B : Nat} {w W : World} {e : TypeId} {sz n : Nat} {v : Value} {xs : List Value} (h : SL w e sz v n xs) (hd : DT B w W) (he : e ≠ 160 ∧ e ≠ 163 ∧ e ≠ 220) : SL W e sz v n xs :=
  SL.touch h hd fun k hk ⟨_, h2⟩ => by
    obtain ⟨cur, hc⟩ := SL.typed h k hk
    exact h2 ⟨cur, e, hc, he⟩
theorem flat_set {α : Type} {enc : α → List Value} {n : Nat} (hn : ∀ x, (enc x).length = n) : ∀ (L : List α) (i j : Nat) (u : Value) (y : α) (hi : i < L.length), j < n → (enc L[i]).set j u = enc y → (L.flatMap enc).set (i * n + j) u = (L.set i y).flatMap enc
  | a :: L, 0, j, u, y, _, hj, he => by
    have he : (enc a).set j u = enc y := he
    rw [List.flatMap_cons, List.set_cons_zero, List.flatMap_cons, ← he, Nat.zero_mul, Nat.zero_add, List.set_append_left _ _ (by rw [hn]; exact hj)]
  | a :: L, i + 1, j, u, y, hi, hj, he => by
    have he : (enc (L[i]'(by simpa using hi))).set j u = enc y := he
    rw [List.flatMap_cons, List.set_cons_succ, List.flatMap_cons, ← flat_set hn L i j u y (by simpa using hi) hj he, List.set_append_right _ _ (by rw [hn, Nat.add_mul]; omega), hn]
    congr 2
    rw [Nat.add_mul]; omega
/-- the draft at block dp: its states, what is frozen -/
structure DrAt (w : World) (B dp : Nat) (v : Value) (mb : Nat) (R : List Rec) (M : List Ke) : Prop where
  blk : w.heap[dp]? = some (.cells #[v, .map (some mb)] 163 (0, 0))
  sts : SL w 160 3 v R.length (R.flatMap recC)
  outs : ∀ i (h : i < R.length), EdS w R[i].sl R[i].out
  apart : ∀ i j (hi : i < R.length) (hj : j < R.length), i ≠ j → ∀ k, R[i].sl.ownBlock = some k → R[j].sl.ownBlock ≠ some k
  map : MapV .string w mb M
  new : B ≤ dp ∧ B ≤ mb ∧ (∀ k, v.ownBlock = some k → B ≤ k) ∧ ∀ i (h : i < R.length), ∀ k, R[i].sl.ownBlock = some k → B ≤ k
theorem ne_type {W : World} {a b e f : Nat} {x y : Array Value} (h : W.heap[a]? = some (.cells x e (0, 0))) (k : W.heap[b]? = some (.cells y f (0, 0))) (hne : e ≠ f) : a ≠ b := by
  rintro rfl
  rw [h] at k
  cases k
  exact hne rfl
theorem ne_map {W : World} {a b e n : Nat} {x : Array Value} {es : Array MapEntry} (h : W.heap[a]? = some (.cells x e (0, 0))) (k : W.heap[b]? = some (.map es n)) : a ≠ b := by
  rintro rfl
  rw [h] at k
  cases k
theorem DrAt.below {w W : World} {B dp mb : Nat} {v : Value} {R : List Rec} {M : List Ke} (h : DrAt w B dp v mb R M) (hb : Below w.heap.size w W) : DrAt W B dp v mb R M :=
  ⟨(hb.block _ (blk_lt h.blk)).trans h.blk, SL.keep h.sts fun k hk => hb.block k (SL.lt h.sts k hk), fun i hi => (h.outs i hi).below hb, h.apart, h.map.keep (hb.block _ (blk_lt h.map.1)), h.new⟩
theorem DrAt.at3 {w : World} {B dp mb g off c : Nat} {R : List Rec} {M : List Ke} (h : DrAt w B dp (.slice (some ⟨g, off, none⟩) R.length c) mb R M) {k : Nat} (hk : k < R.length) :
    g < w.heap.size ∧ w.cell? ⟨g, off + k * 3, none⟩ = some R[k].sl ∧ w.cell? ⟨g, off + k * 3 + 1, none⟩ = some (.bool R[k].ends) ∧ w.cell? ⟨g, off + k * 3 + 2, none⟩ = some (.int .i64 R[k].n) :=
  StsAt.at3 ⟨h.sts, h.outs⟩ hk
theorem DrAt.box {w : World} {B dp mb : Nat} {v : Value} {R : List Rec} {M : List Ke} (h : DrAt w B dp v mb R M) : w.cell? ⟨dp, 0, none⟩ = some v ∧ w.cell? ⟨dp, 1, none⟩ = some (.map (some mb)) := by
  constructor
  · rw [cell_of_row w _ 0 _ _ _ h.blk]; rfl
  · rw [cell_of_row w _ 1 _ _ _ h.blk]; rfl
/-- a frozen state is found in place of the last -/
theorem DrAt.put {w : World} {B dp mb : Nat} {v : Value} {R : List Rec} {M : List Ke} (h : DrAt w B dp v mb R M) (t : ByteArray) (q : Int) :
    DrAt (mapPutV w mb (putV (.string t) q M)) B dp v mb R (putV (.string t) q M) ∧ DT B w (mapPutV w mb (putV (.string t) q M)) := by
  have hk : ∀ (k : Nat) (cur : Array Value) (e : TypeId), w.heap[k]? = some (.cells cur e (0, 0)) → (mapPutV w mb (putV (.string t) q M)).heap[k]? = w.heap[k]? := fun k cur e hc => mapPutV_other _ (ne_map hc h.map.1)
  have hs : ∀ {e sz n v xs}, SL w e sz v n xs → SL (mapPutV w mb (putV (.string t) q M)) e sz v n xs := fun h => SL.keep h fun k hb => by
    obtain ⟨cur, hc⟩ := SL.typed h k hb
    exact hk k cur _ hc
  refine ⟨⟨(hk _ _ _ h.blk).trans h.blk, hs h.sts, fun i hi => hs (h.outs i hi), h.apart, mapPutV_at h.map (putV_keys h.map.2 trivial), h.new⟩, ?_⟩
  exact touch_putV (Touch.refl _ _) ((DT.refl B w).own h.new.2.1 (own_map h.map.1)) _
theorem set_len {R : List Rec} {i : Nat} {x : Rec} : (R.set i x).length = R.length := List.length_set
/-- a store into a slice of edges -/
theorem DrAt.edge {w : World} {B dp mb : Nat} {v : Value} {R : List Rec} {M : List Ke} (h : DrAt w B dp v mb R M) {p : Nat} (hp : p < R.length) {g off c : Nat} {l : List Ed} {r : Int} {last old : Nat}
    (hs : R[p].sl = .slice (some ⟨g, off, none⟩) (l.length + 1) c) (ho : R[p].out = l ++ [(r, last)]) :
    DrAt (w.setCell ⟨g, off + (l.length * 2 + 1), none⟩ (.int .i64 (old : Int))) B dp v mb (R.set p { R[p] with out := l ++ [(r, old)] }) M ∧ DT B w (w.setCell ⟨g, off + (l.length * 2 + 1), none⟩ (.int .i64 (old : Int))) := by
  have hE := h.outs p hp
  rw [hs, ho] at hE
  have hE : SL w 220 2 (.slice (some ⟨g, off, none⟩) (l.length + 1) c) (l.length + 1) ((l ++ [(r, last)]).flatMap edC) := by
    unfold EdS at hE
    rw [List.length_append, List.length_singleton] at hE
    exact hE
  obtain ⟨cur, hg⟩ := SL.typed hE g rfl
  have hB : B ≤ g := h.new.2.2.2 p hp g (by rw [hs]; rfl)
  have hset := SL.set_ hE (j := l.length * 2 + 1) (by omega) (.int .i64 (old : Int))
  have hf : ((l ++ [(r, last)]).flatMap edC).set (l.length * 2 + 1) (.int .i64 (old : Int)) = (l ++ [(r, old)]).flatMap edC := by
    have := flat_set edC_len (l ++ [(r, last)]) l.length 1 (.int .i64 (old : Int)) (r, old) (by simp) (by decide) (by simp [edC])
    rw [this]; simp
  rw [hf] at hset
  have hk : ∀ (k : Nat) (cur : Array Value) (e : TypeId), w.heap[k]? = some (.cells cur e (0, 0)) → e ≠ 220 → (w.setCell ⟨g, off + (l.length * 2 + 1), none⟩ (.int .i64 (old : Int))).heap[k]? = w.heap[k]? := fun k cur e hc he => Below.heap_setCell _ _ _ _ (ne_type hc hg he)
  have hl := set_len (R := R) (i := p) (x := { R[p] with out := l ++ [(r, old)] })
  refine ⟨⟨(hk _ _ _ h.blk (by decide)).trans h.blk, ?_, ?_, ?_, h.map.keep (Below.heap_setCell _ _ _ _ (fun e => ne_map hg h.map.1 e.symm)), h.new.1, h.new.2.1, h.new.2.2.1, ?_⟩, ?_⟩
  · rw [hl]
    have h1 : (R.set p { R[p] with out := l ++ [(r, old)] }).flatMap recC = R.flatMap recC := by
      rw [← flat_set recC_len R p 0 R[p].sl { R[p] with out := l ++ [(r, old)] } hp (by decide) (by simp [recC])]
      have h2 := flat_set recC_len R p 0 R[p].sl R[p] hp (by decide) (by simp [recC])
      rw [h2, List.set_getElem_self]
    rw [h1]
    exact SL.keep h.sts fun k hb => by
      obtain ⟨cur, hc⟩ := SL.typed h.sts k hb
      exact hk k cur _ hc (by decide)
  · intro i hi
    rw [hl] at hi
    rw [List.getElem_set]
    split
    · next e =>
      dsimp only
      rw [hs]
      unfold EdS
      rw [List.length_append, List.length_singleton]
      exact hset
    · next e =>
      exact SL.keep (h.outs i hi) fun k hb => Below.heap_setCell _ _ _ _ (fun e2 => h.apart i p hi hp (fun e3 => e e3.symm) k hb (by rw [hs, e2]; rfl))
  · intro i j hi hj hne k
    rw [hl] at hi hj
    have hsl : ∀ i (hi : i < R.length), ((R.set p { R[p] with out := l ++ [(r, old)] })[i]'(by rw [hl]; exact hi)).sl = R[i].sl := fun i hi => by
      rw [List.getElem_set]
      split
      · next e => subst e; rfl
      · rfl
    rw [hsl i hi, hsl j hj]
    exact h.apart i j hi hj hne k
  · intro i hi k
    rw [hl] at hi
    rw [List.getElem_set]
    split
    · exact h.new.2.2.2 p hp k
    · exact h.new.2.2.2 i hi k
  · exact Touch.setCell (Touch.refl _ _) ((DT.refl B w).own hB (own_of hg (.inr (.inr rfl)))) _
/- dawg: what freezing keeps (plain). -/
theorem key_byte (s : Dst) : ∀ x ∈ keyZ s, 0 ≤ x ∧ x < 256 := by
  have hd : ∀ k n, n ≤ k → ∀ x ∈ digs n, 0 ≤ x ∧ x < 256 := fun k => by
    induction k with
    | zero => intro n hn x hx; rw [digs_lt (by omega)] at hx; rw [List.mem_singleton] at hx; omega
    | succ k ih =>
      intro n hn x hx
      by_cases h : n < 128
      · rw [digs_lt h, List.mem_singleton] at hx; omega
      · rw [digs_ge h] at hx
        rcases List.mem_cons.1 hx with rfl | hx
        · omega
        · exact ih _ (by omega) x hx
  intro x hx
  unfold keyZ at hx
  rcases List.mem_cons.1 hx with rfl | hx
  · split <;> omega
  · obtain ⟨e, _, hx⟩ := List.mem_flatMap.1 hx
    unfold edgeK at hx
    rcases List.mem_append.1 hx with hx | hx
    · exact Lib.encodeRuneZ_byte _ x hx
    · rcases List.mem_append.1 hx with hx | hx
      · exact hd _ _ (Nat.le_refl _) x hx
      · rw [List.mem_singleton] at hx; omega
theorem strN_inj {xs ys : List Int} (hx : ∀ x ∈ xs, 0 ≤ x ∧ x < 256) (hy : ∀ x ∈ ys, 0 ≤ x ∧ x < 256) (h : strOfNums xs = strOfNums ys) : xs = ys := by
  have h1 : (xs.map fun n => UInt8.ofNat n.toNat) = ys.map fun n => UInt8.ofNat n.toNat := by
    have := congrArg (fun t => t.data.toList) h
    simpa [strOfNums] using this
  have back : ∀ zs : List Int, (∀ x ∈ zs, 0 ≤ x ∧ x < 256) → (zs.map fun n => UInt8.ofNat n.toNat).map (fun b => (b.toNat : Int)) = zs := fun zs hz => by
    rw [List.map_map, List.map_congr_left (g := id)]
    · simp
    · intro x hx
      have := hz x hx
      simp [Nat.mod_eq_of_lt (show x.toNat < 256 by omega)]
      omega
  rw [← back xs hx, h1, back ys hy]
def keyS (s : Dst) : ByteArray := strOfNums (keyZ s)
theorem keyS_inj {s t : Dst} (hs : okE s.1) (ht : okE t.1) (h : keyS s = keyS t) : s = t := key_inj hs ht (strN_inj (key_byte s) (key_byte t) h)
theorem map_set {R : List Rec} {p : Nat} (x : Rec) : (R.set p x).map dstR = (R.map dstR).set p (dstR x) := by rw [List.map_set]
/-- a draft's law -/
structure FI (R : List Rec) (M : List Ke) (P : List Nat) (pw0 : List Int) (done : List (List Int)) : Prop where
  pos : 0 < P.length
  le : P.length ≤ pw0.length + 1
  di : DI (R.map dstR) P (pw0.take (P.length - 1)) done
  ok : ∀ i (h : i < R.length), okE R[i].out
  few : ∀ i (h : i < R.length), R[i].out.length ≤ R.length
  fz : ∀ x ∈ M, ∃ q, ∃ h : q < R.length, q ∉ P ∧ x = (.string (keyS (dstR R[q])), (q : Int))
  top : ∀ h : P.getD (P.length - 1) 0 < R.length, ∀ e ∈ R[P.getD (P.length - 1) 0].out, P.length - 1 < pw0.length ∧ e.1 ≤ pw0.getD (P.length - 1) 0
  top0 : P.length = pw0.length + 1 → ∀ h : P.getD (P.length - 1) 0 < R.length, R[P.getD (P.length - 1) 0].out = []
theorem FI.lt {R : List Rec} {M : List Ke} {P : List Nat} {pw0 : List Int} {done : List (List Int)} (h : FI R M P pw0 done) : ∀ q ∈ P, q < R.length := fun q hq => by
  have := h.di.lt q hq
  rwa [List.length_map] at this
/-- the path's end, and what leads to it -/
theorem FI.split {R : List Rec} {M : List Ke} {P : List Nat} {pw0 : List Int} {done : List (List Int)} (h : FI R M P pw0 done) (hp : 1 < P.length) :
    ∃ (P' : List Nat) (last : Nat) (l : List Ed) (r : Int), P = P' ++ [last] ∧ 0 < P'.length ∧ r = pw0.getD (P'.length - 1) 0 ∧ pw0.take (P.length - 1) = pw0.take (P'.length - 1) ++ [r] ∧ last < R.length ∧
      ∃ hq : P'.getD (P'.length - 1) 0 < R.length, R[P'.getD (P'.length - 1) 0].out = l ++ [(r, last)] ∧ last ∉ P' ∧ P'.getD (P'.length - 1) 0 ∈ P' := by
  have hne : P ≠ [] := by intro e; rw [e] at hp; simp at hp
  obtain ⟨P', last, hP⟩ : ∃ P' last, P = P' ++ [last] := ⟨P.dropLast, P.getLast hne, (List.dropLast_concat_getLast hne).symm⟩
  subst hP
  have hl : (P' ++ [last]).length = P'.length + 1 := by simp
  have hle := h.le
  rw [hl] at hp hle
  have ht : pw0.take ((P' ++ [last]).length - 1) = pw0.take (P'.length - 1) ++ [pw0.getD (P'.length - 1) 0] := by
    rw [hl, show P'.length + 1 - 1 = (P'.length - 1) + 1 by omega, List.take_add_one, List.getD_eq_getElem?_getD, List.getElem?_eq_getElem (show P'.length - 1 < pw0.length by omega)]
    rfl
  have hd := h.di
  rw [ht] at hd
  obtain ⟨l, b, h1, h2, h3⟩ := hd.parent
  rw [List.length_map] at h2
  have h4 := hd.lt last (by simp)
  rw [List.length_map] at h4
  rw [dst_at h2] at h1
  refine ⟨P', last, l, _, rfl, by omega, rfl, ht, h4, h2, ?_, ?_, h3⟩
  · exact congrArg (·.1) h1
  · intro hm
    have := (List.pairwise_append.1 hd.up).2.2 last hm last (by simp)
    omega
theorem top_of {R : List Rec} {l : List Ed} {r : Int} {t : Nat} (h : risE (l ++ [(r, t)])) : ∀ e ∈ l ++ [(r, t)], e.1 ≤ r := fun e he => by
  rcases List.mem_append.1 he with he | he
  · have := (List.pairwise_append.1 h).2.2 e he (r, t) (by simp)
    dsimp only at this; omega
  · rw [List.mem_singleton] at he; subst he; exact Int.le_refl _
/-- the last state is new: it is frozen -/
theorem FI.put {R : List Rec} {M : List Ke} {P : List Nat} {pw0 : List Int} {done : List (List Int)} {last : Nat} {l : List Ed} {r : Int} (h : FI R M (P ++ [last]) pw0 done) (hp : 0 < P.length) (hr : r = pw0.getD (P.length - 1) 0)
    (ht : pw0.take ((P ++ [last]).length - 1) = pw0.take (P.length - 1) ++ [r]) (hl : last < R.length) (hq : P.getD (P.length - 1) 0 < R.length) (ho : R[P.getD (P.length - 1) 0].out = l ++ [(r, last)]) (hn : last ∉ P)
    (hnone : posV (.string (keyS (dstR R[last]))) M = none) : FI R (putV (.string (keyS (dstR R[last]))) (last : Int) M) P pw0 done := by
  have hd := h.di
  rw [ht] at hd
  have hle := h.le
  rw [List.length_append, List.length_singleton] at hle
  have hris := hd.ris (P.getD (P.length - 1) 0)
  rw [dst_at hq] at hris
  have hris : risE R[P.getD (P.length - 1) 0].out := hris
  rw [ho] at hris
  refine ⟨hp, by omega, hd.pop, h.ok, h.few, fun x hx => ?_, fun _ e he => ?_, fun e => by omega⟩
  · unfold putV at hx
    rw [hnone] at hx
    rcases List.mem_append.1 hx with hx | hx
    · obtain ⟨q, h1, h2, h3⟩ := h.fz x hx
      exact ⟨q, h1, fun hm => h2 (List.mem_append_left _ hm), h3⟩
    · rw [List.mem_singleton] at hx
      exact ⟨last, hl, hn, hx⟩
  · rw [ho] at he
    refine ⟨by omega, ?_⟩
    rw [← hr]
    exact top_of (R := R) hris e he
/-- the last state is there already: it is merged -/
theorem FI.merge {R : List Rec} {M : List Ke} {P : List Nat} {pw0 : List Int} {done : List (List Int)} {last i : Nat} {l : List Ed} {r : Int} (h : FI R M (P ++ [last]) pw0 done) (hp : 0 < P.length) (hr : r = pw0.getD (P.length - 1) 0)
    (ht : pw0.take ((P ++ [last]).length - 1) = pw0.take (P.length - 1) ++ [r]) (hl : last < R.length) (hq : P.getD (P.length - 1) 0 < R.length) (ho : R[P.getD (P.length - 1) 0].out = l ++ [(r, last)]) (hn : last ∉ P) (hm : P.getD (P.length - 1) 0 ∈ P)
    (hsome : posV (.string (keyS (dstR R[last]))) M = some i) : ∃ old : Nat, (M.getD i ke0).2 = (old : Int) ∧ FI (R.set (P.getD (P.length - 1) 0) { R[P.getD (P.length - 1) 0] with out := l ++ [(r, old)] }) M P pw0 done := by
  have hd := h.di
  rw [ht] at hd
  have hle := h.le
  rw [List.length_append, List.length_singleton] at hle
  obtain ⟨pi, hpi⟩ : ∃ p, P.getD (P.length - 1) 0 = p := ⟨_, rfl⟩
  have hris := hd.ris (P.getD (P.length - 1) 0)
  rw [dst_at hq] at hris
  have hris : risE R[P.getD (P.length - 1) 0].out := hris
  rw [ho] at hris
  have hok := h.ok _ hq
  have hfew := h.few _ hq
  rw [ho] at hok hfew
  obtain ⟨h1, h2⟩ := posV_some hsome
  rw [List.getD_eq_getElem?_getD, List.getElem?_eq_getElem h1] at h2
  have h2 : M[i].1 = _ := h2
  obtain ⟨old, ho1, ho2, ho3⟩ := h.fz M[i] (List.getElem_mem h1)
  have hkey : keyS (dstR R[old]) = keyS (dstR R[last]) := by
    rw [ho3] at h2
    exact Value.string.inj h2
  have hsame := keyS_inj (h.ok old ho1) (h.ok last hl) hkey
  have hgl : (R.map dstR).getD (P.getD (P.length - 1) 0) dst0 = (l ++ [(r, last)], R[P.getD (P.length - 1) 0].ends) := by
    rw [dst_at hq, dstR, ho]
  have hmg := hd.merge hgl (old := old) (by rw [List.length_map]; exact ho1) (by rw [dst_at ho1, dst_at hl, hsame])
  refine ⟨old, ?_, hp, by omega, ?_, ?_, ?_, ?_, ?_, fun e => by omega⟩
  · rw [List.getD_eq_getElem?_getD, List.getElem?_eq_getElem h1]
    show M[i].2 = _
    rw [ho3]
  · rw [map_set]; exact hmg
  · intro j hj
    rw [List.getElem_set]
    split
    · intro e he
      rcases List.mem_append.1 he with h5 | h5
      · exact hok e (List.mem_append_left _ h5)
      · rw [List.mem_singleton] at h5; subst h5; exact hok (r, last) (by simp)
    · exact h.ok j (by rw [List.length_set] at hj; exact hj)
  · intro j hj
    have hj2 := hj
    rw [List.length_set] at hj2
    refine Nat.le_trans ?_ (Nat.le_of_eq (Eq.symm List.length_set))
    rw [List.getElem_set]
    split
    · simp at hfew ⊢; exact hfew
    · exact h.few j (by rw [List.length_set] at hj; exact hj)
  · intro x hx
    obtain ⟨q, h5, h6, h7⟩ := h.fz x hx
    refine ⟨q, by rw [List.length_set]; exact h5, fun hq2 => h6 (List.mem_append_left _ hq2), ?_⟩
    rw [List.getElem_set, if_neg (fun e => h6 (List.mem_append_left _ (by rw [← e]; exact hm)))]
    exact h7
  · intro _ e he
    rw [List.getElem_set, if_pos rfl] at he
    refine ⟨by omega, ?_⟩
    rw [← hr]
    exact top_of (R := R) (ris_end hris) e he
theorem FI.split2 {R : List Rec} {M : List Ke} {P : List Nat} {pw0 : List Int} {done : List (List Int)} (h : FI R M P pw0 done) (hp : 1 < P.length) :
    ∃ (P' : List Nat) (last : Nat) (l : List Ed) (r : Int) (pi : Nat), P = P' ++ [last] ∧ 0 < P'.length ∧ r = pw0.getD (P'.length - 1) 0 ∧ pw0.take (P.length - 1) = pw0.take (P'.length - 1) ++ [r] ∧ last < R.length ∧
      P'.getD (P'.length - 1) 0 = pi ∧ ∃ hq : pi < R.length, R[pi].out = l ++ [(r, last)] ∧ last ∉ P' ∧ pi ∈ P' := by
  obtain ⟨P', last, l, r, h1, h2, h3, h4, h5, h6, h7⟩ := h.split hp
  exact ⟨P', last, l, r, _, h1, h2, h3, h4, h5, rfl, h6, h7⟩
theorem FI.put2 {R : List Rec} {M : List Ke} {P P0 : List Nat} {pw0 : List Int} {done : List (List Int)} {last pi : Nat} {l : List Ed} {r : Int} {t : ByteArray} (h : FI R M P0 pw0 done) (hP : P0 = P ++ [last]) (hp : 0 < P.length) (hr : r = pw0.getD (P.length - 1) 0)
    (ht : pw0.take (P0.length - 1) = pw0.take (P.length - 1) ++ [r]) (hl : last < R.length) (hpi : P.getD (P.length - 1) 0 = pi) (hq : pi < R.length) (ho : R[pi].out = l ++ [(r, last)]) (hn : last ∉ P) (hk : keyS (dstR R[last]) = t)
    (hnone : posV (.string t) M = none) : FI R (putV (.string t) (last : Int) M) P pw0 done := by
  subst hP hpi hk
  exact FI.put h hp hr ht hl hq ho hn hnone
theorem FI.merge2 {R : List Rec} {M : List Ke} {P P0 : List Nat} {pw0 : List Int} {done : List (List Int)} {last i pi : Nat} {l : List Ed} {r : Int} {t : ByteArray} (h : FI R M P0 pw0 done) (hP : P0 = P ++ [last]) (hp : 0 < P.length) (hr : r = pw0.getD (P.length - 1) 0)
    (ht : pw0.take (P0.length - 1) = pw0.take (P.length - 1) ++ [r]) (hl : last < R.length) (hpi : P.getD (P.length - 1) 0 = pi) (hq : pi < R.length) (ho : R[pi].out = l ++ [(r, last)]) (hn : last ∉ P) (hm : pi ∈ P) (hk : keyS (dstR R[last]) = t)
    (hsome : posV (.string t) M = some i) : ∃ old : Nat, (M.getD i ke0).2 = (old : Int) ∧ FI (R.set pi { R[pi] with out := l ++ [(r, old)] }) M P pw0 done := by
  subst hP hpi hk
  exact FI.merge h hp hr ht hl hq ho hn hm hsome
end Go.Proofs.YteigplfldhdakaaGreatDoor
