/- rule: the search in sorted rules; Find. -/
import Derived.Test.YteigplfldhdakaaGreatDoorE13
import Derived.Test.YteigplfldhdakaaGreatDoorE01
set_option linter.unusedVariables false
set_option linter.unusedSimpArgs false
namespace Go.Proofs.YteigplfldhdakaaGreatDoor
open Go.RowKit Go.Shelf
attribute [local go_sem ↓] Go.wp_at_zero Go.wp_at_succ
theorem getD_at {R : List Blk} {k : Nat} (h : k < R.length) : R.getD k blk0 = R[k] := by
  rw [List.getD_eq_getElem?_getD, List.getElem?_eq_getElem h]
  rfl
/-- place k parts the rules: those before x lie before it -/
def cutAt (R : List Blk) (x : Blk) (lo hi : Nat) : Prop := (∀ i, i < lo → ltP (R.getD i blk0) x) ∧ ∀ i, hi ≤ i → i < R.length → ¬ ltP (R.getD i blk0) x
def foundAt (R : List Blk) (x : Blk) (k : Nat) : Bool := decide (k < R.length) && decide (cmpB (R.getD k blk0) x = 0)
theorem cut_up {R : List Blk} {x : Blk} {lo hi m : Nat} (hs : srtR R) (h : cutAt R x lo hi) (hm : m < R.length) (hx : ltP (R.getD m blk0) x) : cutAt R x (m + 1) hi :=
  ⟨fun i hi' => by
    rcases Nat.lt_or_ge i m with h1 | h1
    · exact ltP_trans ((cmpB_neg _ _).1 (hs i m h1 hm)) hx
    · obtain rfl : i = m := by omega
      exact hx, h.2⟩
theorem cut_down {R : List Blk} {x : Blk} {lo hi m : Nat} (hs : srtR R) (h : cutAt R x lo hi) (hm : m < R.length) (hx : ¬ ltP (R.getD m blk0) x) : cutAt R x lo m :=
  ⟨h.1, fun i hi' hil => by
    rcases Nat.lt_or_ge m i with h1 | h1
    · exact fun h2 => hx (ltP_trans ((cmpB_neg _ _).1 (hs m i h1 hil)) h2)
    · obtain rfl : i = m := by omega
      exact hx⟩
set_option maxRecDepth 100000 in
set_option maxHeartbeats 4000000 in
theorem bsf_c {w : World} {A : Option Addr} {c : Nat} {R : List Blk} (h : RuS w (.slice A R.length c) R) (hs : srtR R) (hl : R.length ≤ 4096) (x : Blk) :
    Calls Tryz.prog 53 #[.slice A R.length c, blkV x, .func (.func 54) #[] #[]] w fun e w' => Below w.heap.size w w' ∧ ∃ k, k ≤ R.length ∧ cutAt R x k k ∧ e = .returned (.tuple #[.int .i64 (k : Int), .bool (foundAt R x k)]) := by
  obtain ⟨xf, xt, xn⟩ := x
  have HS := hid h
  have HSR := hid hs
  have hcc := fun b W => cmpR_c b (xf, xt, xn) W
  unfold blkV at hcc ⊢
  dsimp only at hcc ⊢
  have HC := hid hcc
  have HG := hid (heap_alloc_new w (.cells #[.string xf, .string xt, .int .i64 xn] 35))
  have HB0 := hid (balloc (Below.refl _ w) (.cells #[.string xf, .string xt, .int .i64 xn] 35))
  clear hcc h hs
  go_enter Tryz.func53, Tryz.ntmps53
  go_wp2
  go_loopw [9, 10] (fun lv hv wr => ∃ lo hi : Nat, lv = .int .i64 (lo : Int) ∧ hv = .int .i64 (hi : Int) ∧ lo ≤ hi ∧ hi ≤ R.length ∧ Hid (cutAt R (xf, xt, xn) lo hi) ∧ Hid (Below w.heap.size w wr) ∧ Hid (wr.heap[w.heap.size]? = some (.cells #[.string xf, .string xt, .int .i64 xn] 35 (0, 0)))) (fun lv hv _ => (intOf hv).toNat - (intOf lv).toNat)
  case atStart => exact ⟨0, R.length, rfl, rfl, Nat.zero_le _, Nat.le_refl _, hid ⟨fun i h => absurd h (Nat.not_lt_zero _), fun i h1 h2 => by omega⟩, HB0, HG⟩
  case round =>
    obtain ⟨lo, hi, rfl, rfl, hlh, hin, HCU, HB, HX⟩ := hrel
    obtain ⟨x0, x1, x2, -, -, -⟩ := row3 HX.out
    by_cases hlt : lo < hi
    · have hlt2 : (lo : Int) < (hi : Int) := by omega
      obtain ⟨m, hm⟩ : ∃ m, (lo + hi) / 2 = m := ⟨_, rfl⟩
      have hml : m < R.length := by omega
      have hmI : ((lo : Int) + (hi : Int)) / 2 = (m : Int) := by omega
      obtain ⟨g, off, rfl, hgl, k0, k1, k2⟩ := RuS.at3 (HS.out.below HB.out) hml
      have hc1 := HC.out R[m]
      have hup : cmpB R[m] (xf, xt, xn) < 0 → Hid (cutAt R (xf, xt, xn) (m + 1) hi) := fun h => hid (cut_up HSR.out HCU.out hml (by rw [getD_at hml]; exact (cmpB_neg _ _).1 h))
      have hdn : ¬ cmpB R[m] (xf, xt, xn) < 0 → Hid (cutAt R (xf, xt, xn) lo m) := fun h => hid (cut_down HSR.out HCU.out hml (by rw [getD_at hml]; exact fun h2 => h ((cmpB_neg _ _).2 h2)))
      obtain ⟨b, hb⟩ : ∃ b, R[m] = b := ⟨_, rfl⟩
      rw [hb] at k0 k1 k2 hc1 hup hdn
      obtain ⟨bf, bt, bn⟩ := b
      obtain ⟨z, hz⟩ : ∃ z, cmpB (bf, bt, bn) (xf, xt, xn) = z := ⟨_, rfl⟩
      rw [hz] at hc1 hup hdn
      dsimp only at k0 k1 k2 hc1
      have HC1 := hid hc1
      have hm1 : lo ≤ m := by omega
      have hm2 : m < hi := by omega
      clear hc1 hb hz hm
      have hw1 : IntKind.i64.wrap ((lo : Int) + hi) = (lo : Int) + hi := by rw [IntKind.wrap_i64]; omega
      by_cases hz0 : z < 0
      · have HU := hup hz0
        clear hup hdn
        go_wp2
        refine wp_region_still_tail 6 (by kernel_rfl) (by kernel_rfl) ?_
        simp only [List.take_succ_cons, List.take_zero, List.drop_succ_cons, List.drop_zero]
        repeat still_step
        refine wpStill_nil ?_
        change wpList _ _ _ _ _ wr.drew
        go_wp2_with (go_at_call 54; refine (HC1.out _).mono ?_; rintro e w1 ⟨rfl, hb1⟩; have HB1 := hid (bthen HB.out.drew hb1); have HX1 := hid ((hb1.block w.heap.size (blk_lt HX.out)).trans HX.out); clear hb1)
        exact ⟨⟨m + 1, hi, by simp [hmI], by simp, by omega, hin, HU, HB1, HX1⟩, by simp [intOf, hmI]; omega⟩
      · have HU := hdn hz0
        clear hup hdn
        go_wp2
        refine wp_region_still_tail 6 (by kernel_rfl) (by kernel_rfl) ?_
        simp only [List.take_succ_cons, List.take_zero, List.drop_succ_cons, List.drop_zero]
        repeat still_step
        refine wpStill_nil ?_
        change wpList _ _ _ _ _ wr.drew
        go_wp2_with (go_at_call 54; refine (HC1.out _).mono ?_; rintro e w1 ⟨rfl, hb1⟩; have HB1 := hid (bthen HB.out.drew hb1); have HX1 := hid ((hb1.block w.heap.size (blk_lt HX.out)).trans HX.out); clear hb1)
        exact ⟨⟨lo, m, by simp, by simp [hmI], by omega, by omega, HU, HB1, HX1⟩, by simp [intOf, hmI]; omega⟩
    · obtain rfl : hi = lo := by omega
      have hlt2 : ¬ (hi : Int) < (hi : Int) := by omega
      by_cases hn : hi < R.length
      · have hn2 : (hi : Int) < (R.length : Int) := by omega
        obtain ⟨g, off, rfl, hgl, k0, k1, k2⟩ := RuS.at3 (HS.out.below HB.out) hn
        have hc1 := HC.out R[hi]
        have hF : foundAt R (xf, xt, xn) hi = decide (cmpB R[hi] (xf, xt, xn) = 0) := by rw [foundAt, getD_at hn, decide_eq_true hn, Bool.true_and]
        obtain ⟨b, hb⟩ : ∃ b, R[hi] = b := ⟨_, rfl⟩
        rw [hb] at k0 k1 k2 hc1 hF
        obtain ⟨bf, bt, bn⟩ := b
        obtain ⟨z, hz⟩ : ∃ z, cmpB (bf, bt, bn) (xf, xt, xn) = z := ⟨_, rfl⟩
        rw [hz] at hc1 hF
        dsimp only at k0 k1 k2 hc1
        have HC1 := hid hc1
        have HF := hid hF
        clear hc1 hb hz hF
        go_wp2
        go_region_held3 (fun w' => w'.cell? ⟨g, off + hi * 3, none⟩ = some (.string bf) ∧ w'.cell? ⟨g, off + hi * 3 + 1, none⟩ = some (.string bt) ∧ w'.cell? ⟨g, off + hi * 3 + 2, none⟩ = some (.int .i64 bn) ∧ w'.cell? ⟨w.heap.size, 0, none⟩ = some (.string xf) ∧ w'.cell? ⟨w.heap.size, 1, none⟩ = some (.string xt) ∧ w'.cell? ⟨w.heap.size, 2, none⟩ = some (.int .i64 xn))
          (first | exact ⟨k0, k1, k2, x0, x1, x2⟩ | exact ⟨p0, p1, p2, p3, p4, p5⟩ | go_keep)
          ((go_at_call 54; refine (HC1.out _).mono ?_; rintro e w1 ⟨rfl, hb1⟩; have HB1 := hid (bthen HB.out.drew hb1); have hgx := blk_lt HX.out; have p0 := (World.cell?_of_block (hb1.block g hgl)).trans k0; have p1 := (World.cell?_of_block (hb1.block g hgl)).trans k1; have p2 := (World.cell?_of_block (hb1.block g hgl)).trans k2; have p3 := (World.cell?_of_block (hb1.block w.heap.size hgx)).trans x0; have p4 := (World.cell?_of_block (hb1.block w.heap.size hgx)).trans x1; have p5 := (World.cell?_of_block (hb1.block w.heap.size hgx)).trans x2; clear hb1))
        all_goals
          clear k0 k1 k2 p0 p1 p2 p3 p4 p5
          go_wp2
          go_ret2
          exact ⟨HB1.out, hi, hin, HCU.out, by rw [HF.out]; rfl⟩
      · have hn2 : ¬ (hi : Int) < (R.length : Int) := by omega
        have HF : Hid (foundAt R (xf, xt, xn) hi = false) := hid (by rw [foundAt, decide_eq_false hn, Bool.false_and])
        go_wp2
        go_quiet (fail)
        go_wp2
        all_goals
          go_ret2
          exact ⟨Below.drewN' HB.out _, hi, hin, HCU.out, by rw [HF.out]; rfl⟩
/-- **the cost of a rule, if it is there** -/
def findR (R : List Blk) (f t : ByteArray) : Option Int := (R.find? fun b => decide (b.1 = f ∧ b.2.1 = t)).map (·.2.2)
theorem cmpS_zero {a b : ByteArray} (h : cmpS a b = 0) : a = b := by
  unfold cmpS at h
  by_cases h1 : ltS a b = true
  · rw [if_pos h1] at h; cases h
  · rw [if_neg h1] at h
    by_cases h2 : ltS b a = true
    · rw [if_pos h2] at h; cases h
    · exact (ltP_total (a := (a, a, 0)) (b := (b, b, 0)) (by unfold ltP; rintro (h | ⟨_, h⟩) <;> exact h1 h) (by unfold ltP; rintro (h | ⟨_, h⟩) <;> exact h2 h)).1
theorem cmpS_self (a : ByteArray) : cmpS a a = 0 := by
  unfold cmpS
  rw [ltS_irrefl]
  rfl
theorem cmpB_zero (a b : Blk) : cmpB a b = 0 ↔ a.1 = b.1 ∧ a.2.1 = b.2.1 := by
  unfold cmpB
  constructor
  · intro h
    unfold orF at h
    split at h
    · rename_i h1
      unfold orF at h
      split at h
      · rename_i h2
        exact ⟨cmpS_zero h1, cmpS_zero h2⟩
      · rename_i h2; exact absurd h h2
    · rename_i h1; exact absurd h h1
  · rintro ⟨h1, h2⟩
    rw [h1, h2, cmpS_self, cmpS_self]
    rfl
theorem found_iff {R : List Blk} {f t : ByteArray} {n : Int} {k : Nat} (hs : srtR R) (hk : cutAt R (f, t, n) k k) (hkl : k ≤ R.length) :
    (foundAt R (f, t, n) k = true ∧ ∃ h : k < R.length, R[k].1 = f ∧ R[k].2.1 = t) ∨ (foundAt R (f, t, n) k = false ∧ ∀ b ∈ R, ¬ (b.1 = f ∧ b.2.1 = t)) := by
  unfold foundAt
  by_cases h1 : k < R.length
  · rw [getD_at h1, decide_eq_true h1, Bool.true_and]
    by_cases h2 : cmpB R[k] (f, t, n) = 0
    · exact .inl ⟨decide_eq_true h2, h1, (cmpB_zero _ _).1 h2⟩
    · refine .inr ⟨decide_eq_false h2, fun b hb he => ?_⟩
      obtain ⟨i, hi, rfl⟩ := List.mem_iff_getElem.1 hb
      have hne : ¬ ltP R[i] (f, t, n) := by
        rintro (h | ⟨_, h⟩)
        · have : ltS R[i].1 f = true := h
          rw [he.1, ltS_irrefl] at this; cases this
        · have : ltS R[i].2.1 t = true := h
          rw [he.2, ltS_irrefl] at this; cases this
      rcases Nat.lt_trichotomy i k with h3 | h3 | h3
      · have := hk.1 i h3
        rw [getD_at hi] at this
        exact hne this
      · subst h3
        exact h2 ((cmpB_zero _ _).2 he)
      · have h4 := hs k i h3 hi
        rw [getD_at h1, getD_at hi] at h4
        have h5 := (cmpB_neg _ _).1 h4
        have h6 := hk.2 k (Nat.le_refl _) h1
        rw [getD_at h1] at h6
        refine h6 ?_
        unfold ltP at h5 ⊢
        rw [he.1, he.2] at h5
        exact h5
  · refine .inr ⟨by rw [decide_eq_false h1, Bool.false_and], fun b hb he => ?_⟩
    obtain ⟨i, hi, rfl⟩ := List.mem_iff_getElem.1 hb
    have := hk.1 i (by omega)
    rw [getD_at hi] at this
    rcases this with h | ⟨_, h⟩
    · have : ltS R[i].1 f = true := h
      rw [he.1, ltS_irrefl] at this; cases this
    · have : ltS R[i].2.1 t = true := h
      rw [he.2, ltS_irrefl] at this; cases this
/-- is there such a rule? -/
def hasR (R : List Blk) (f t : ByteArray) : Prop := ∃ b ∈ R, b.1 = f ∧ b.2.1 = t
set_option maxRecDepth 100000 in
set_option maxHeartbeats 4000000 in
theorem find_c {w : World} {v : Value} {R : List Blk} (h : RuS w v R) (hR : ∀ b ∈ R, rokB b) (hs : srtR R) (hl : R.length ≤ 4096) (f t : ByteArray) (hT : Tab w) : Calls Tryz.prog 21 #[v, .string f, .string t] w fun e w' =>
    Below w.heap.size w w' ∧ ((hasR R f t ∧ ∃ q, e = .returned (.tuple #[.int .i64 q, .int .i64 0])) ∨ (¬ hasR R f t ∧ e = .returned (.tuple #[.int .i64 0, .int .i64 10]))) := by
  have his := is_c h hR hs hl hT
  obtain ⟨A, c, rfl, hc⟩ := SL.form h
  have hbs := fun W (hb : Below w.heap.size w W) => (bsf_c (h.below hb) hs hl (f, t, 0)).mono (R' := fun e w' => Below W.heap.size W w' ∧ ∃ k, k ≤ R.length ∧ ((Hid (hasR R f t) ∧ k < R.length ∧ e = .returned (.tuple #[.int .i64 (k : Int), .bool true])) ∨ (Hid (¬ hasR R f t) ∧ e = .returned (.tuple #[.int .i64 (k : Int), .bool false])))) fun e w' ⟨h1, k, h2, h3, h4⟩ => by
    refine ⟨h1, k, h2, ?_⟩
    rcases found_iff hs h3 h2 with ⟨h5, h6, h7⟩ | ⟨h5, h6⟩
    · rw [h5] at h4
      exact .inl ⟨hid ⟨R[k], List.getElem_mem h6, h7⟩, h6, h4⟩
    · rw [h5] at h4
      exact .inr ⟨hid fun ⟨b, hb, hx⟩ => h6 b hb hx, h4⟩
  unfold blkV at hbs
  dsimp only at hbs
  have HIS := hid his
  have HBS := hid hbs
  have HS := hid h
  clear his hbs h hs hR
  go_enter Tryz.func21, Tryz.ntmps21
  go_wp2_with (first
    | (go_at_call 52; refine HIS.out.mono ?_; rintro e w1 ⟨rfl, hb1⟩; have HB1 := hid hb1; clear hb1)
    | (go_at_call 53; refine (HBS.out _ HB1.out).mono ?_; rintro e w2 ⟨hb2, k, hk, hq⟩; have HB2 := hid (bthen HB1.out hb2); clear hb2; rcases hq with ⟨HH, hkl, rfl⟩ | ⟨HH, rfl⟩; focus (have hkl2 : (k : Int) < (R.length : Int) := (by omega); obtain ⟨g, off, rfl, hgl, k0, k1, k2⟩ := RuS.at3 (HS.out.below HB2.out) hkl)))
  · go_ret2
    exact ⟨HB2.out, .inl ⟨HH.out, _, rfl⟩⟩
  · go_ret2
    exact ⟨HB2.out, .inr ⟨HH.out, rfl⟩⟩
/- rule: Learn. -/
theorem pw_lt {M : List Blk} (hs : srtd M) (ha : M.Pairwise apart) : M.Pairwise ltP := by
  rw [List.pairwise_iff_getElem] at ha ⊢
  intro i j hi hj hij
  have h1 := hs i j hij hj
  have h2 := ha i j hi hj hij
  rw [getD_at hi, getD_at hj] at h1
  by_cases h3 : ltP M[i] M[j]
  · exact h3
  · exact absurd (ltP_total h3 h1) h2
theorem costV_fit {t k n : Int} (h : ¬ Lc.NoCost t k n) : 1 ≤ Lc.costV t k n ∧ Lc.costV t k n ≤ 255 := by
  rw [Lc.costV_yes h]
  omega
/-- a lawful table -/
structure TabOk (M : List Blk) : Prop where
  sides : ∀ b ∈ M, sideOk b.1 b.2.1
  small : ∀ b ∈ M, smallB b
  pos : posC M
  tot : totB M ≤ 1073741824
  len : M.length ≤ 4096
  lt : M.Pairwise ltP
theorem makeR_mem {M : List Blk} {n : Int} {b : Blk} : b ∈ makeR M n ↔ ∃ x ∈ M, n ≤ x.2.2 ∧ b = (x.1, x.2.1, Lc.costV (totB M) M.length x.2.2) := by
  unfold makeR makeG ruleOf
  rw [List.mem_map]
  constructor
  · rintro ⟨x, hx, rfl⟩
    rw [List.mem_filter] at hx
    exact ⟨x, hx.1, of_decide_eq_true hx.2, rfl⟩
  · rintro ⟨x, hx, hn, rfl⟩
    exact ⟨x, List.mem_filter.2 ⟨hx, decide_eq_true hn⟩, rfl⟩
theorem TabOk.cost {M : List Blk} (h : TabOk M) {x : Blk} (hx : x ∈ M) : ¬ Lc.NoCost (totB M) M.length x.2.2 := by
  have h1 := le_totB h.pos x hx
  have h2 := h.pos x hx
  have h3 := h.tot
  have h4 := h.len
  have h5 := List.length_pos_of_mem hx
  unfold Lc.NoCost
  omega
theorem TabOk.rules {M : List Blk} (h : TabOk M) (n : Int) : (∀ b ∈ makeR M n, rokB b) ∧ srtR (makeR M n) ∧ (makeR M n).length ≤ 4096 := by
  refine ⟨fun b hb => ?_, fun i j hij hj => ?_, Nat.le_trans (makeG_len _ _ _ _) h.len⟩
  · obtain ⟨x, hx, _, rfl⟩ := makeR_mem.1 hb
    have hc := costV_fit (h.cost hx)
    refine ⟨(chkB_iff _).2 ⟨h.sides x hx, (by show (1 : Int) ≤ 1; decide), (by show (1 : Int) ≤ 1073741824; decide)⟩, hc.1, hc.2, ?_⟩
    have := h.small x hx
    exact this
  · have hp : (makeR M n).Pairwise ltP := by
      unfold makeR makeG
      rw [List.pairwise_map]
      exact (h.lt.filter _).imp fun {a b} h => h
    rw [List.pairwise_iff_getElem] at hp
    have := hp i j (by omega) hj hij
    rw [getD_at (by omega), getD_at hj]
    exact (cmpB_neg _ _).2 this
/-- what Learn hands back -/
def LearnP (L : List (ByteArray × ByteArray)) (n : Int) (w : World) (e : Ending) (w' : World) : Prop :=
  Below w.heap.size w w' ∧ ((∃ q, q ≠ 0 ∧ e = .returned (.tuple #[.slice none 0 0, .int .i64 q])) ∨
    (prE L = 0 ∧ ∃ M, TabOk M ∧ M.Perm (tabL (prM L)) ∧ ∃ A c, e = .returned (.tuple #[.slice A (makeR M n).length c, .int .i64 0]) ∧ RuS w' (.slice A (makeR M n).length c) (makeR M n)))
/-- what Pairs hands back, said of the table -/
theorem pairs_t {w : World} {v : Value} {L : List (ByteArray × ByteArray)} (h : PrS w v L) (hs : smallP L) (hT : Tab w) : Calls Tryz.prog 8 #[v] w fun e w' => Below w.heap.size w w' ∧ ((∃ q, q ≠ 0 ∧ e = .returned (.tuple #[.slice none 0 0, .int .i64 q])) ∨
    (prE L = 0 ∧ ∃ M, TabOk M ∧ chkC M = 0 ∧ M.Perm (tabL (prM L)) ∧ ∃ A c, e = .returned (.tuple #[.slice A M.length c, .int .i64 0]) ∧ BlS w' (.slice A M.length c) M)) :=
  (pairs_c h hs hT).mono fun e w' hq => by
    rcases hq with ⟨_, h1, h2⟩ | ⟨_, h0, h1, h2⟩ | ⟨_, h0, hsm, h1, h2⟩
    · exact ⟨h2, .inl ⟨6, by decide, h1⟩⟩
    · exact ⟨h2, .inl ⟨_, h0, h1⟩⟩
    · rcases h2 with ⟨h2, h3⟩ | ⟨_, _, h3⟩ | ⟨h2, h3, h4, A, c, M', h5, h6, h7, h8, _⟩
      · exact ⟨h1, .inl ⟨_, h2, h3⟩⟩
      · exact ⟨h1, .inl ⟨6, by decide, h3⟩⟩
      · obtain ⟨s, hs⟩ : ∃ s, sumG 0 (prM L) = some s := by
          cases hq : sumG 0 (prM L) with
          | none => exact absurd hq h3
          | some s => exact ⟨s, rfl⟩
        obtain ⟨k1, k2, k3, k4⟩ := table_ok h2 hs h4 h6 h7
        have hsum := sumG_some k2
        have hap : M'.Pairwise apart := (h6.pairwise_iff (fun h => apart_symm h)).2 (apart_fold _ _ List.Pairwise.nil)
        have hea := eachB_all (chkC_zero k1).1
        refine ⟨h1, .inr ⟨h0, M', ⟨fun b hb => ((chkB_iff b).1 (hea b hb)).1, table_small hsm h6, k3, ?_, k4, pw_lt h7 hap⟩, k1, h6, A, c, h5, h8⟩⟩
        have := hsum.2 (by omega)
        omega
set_option maxRecDepth 100000 in
set_option maxHeartbeats 4000000 in
theorem learn_c {w : World} {v : Value} {L : List (ByteArray × ByteArray)} (h : PrS w v L) (hs : smallP L) (hT : Tab w) (n : Int) (hn : 1 ≤ n ∧ n ≤ 1073741824) : Calls Tryz.prog 19 #[v, .int .i64 n] w (LearnP L n w) := by
  have hp := pairs_t h hs hT
  obtain ⟨a, c, rfl, -⟩ := h
  have HP := hid hp
  have HT := hid hT
  clear hp hT
  go_enter Tryz.func19, Tryz.ntmps19
  go_wp2_with (first
    | (go_at_call 8; refine HP.out.mono ?_; rintro e w1 ⟨hb1, ⟨q, hq, rfl⟩ | ⟨h0, M, hM, hc0, hp1, A, c1, rfl, hB⟩⟩)
    | (go_at_call 10; have HB1 := hid hb1; refine (make_c hB hM.small (HT.out.bel HB1.out) (by have := hM.len; omega) n (by omega)).mono ?_; rintro e w2 ⟨hb2, ⟨k1, _⟩ | ⟨_, k1, _⟩ | ⟨_, _, _, A2, c2, rfl, k2, _⟩⟩))
  · have hqb : (q != 0) = true := by rw [bne_iff_ne]; exact hq
    go_wp2
    go_ret2
    exact ⟨hb1, .inl ⟨q, hq, rfl⟩⟩
  · go_ret2
    exact ⟨bthen HB1.out hb2, .inr ⟨h0, M, hM, hp1, A2, c2, rfl, k2⟩⟩
end Go.Proofs.YteigplfldhdakaaGreatDoor
/- A map from [2]string to numbers: its laws, said of the entries themselves. -/
namespace Go.Proofs.YteigplfldhdakaaGreatDoor
open Go.RowKit Go.Shelf
theorem size9 (w : World) : (Go.sizeOf 9).run Tryz.prog w = .ok 1 w := Tryz.sizeOf9 w
theorem part9_0 (f t : ByteArray) (w : World) : (part 9 #[.string f, .string t] 0).run Tryz.prog w = .ok (.string f) w := by
  have h := Tryz.isAgg9 w
  simp [part, h]
theorem part9_1 (f t : ByteArray) (w : World) : (part 9 #[.string f, .string t] 1).run Tryz.prog w = .ok (.string t) w := by
  have h := Tryz.isAgg9 w
  simp [part, h]
theorem eq9 (n : Nat) (f t : ByteArray) (w : World) : (Op.equalIn (n + 1) 9 (.string f) (.string t)).run Tryz.prog w = .ok (decide (f = t)) w := by
  simp only [Op.equalIn, Sem.run_bind, run_underlying Tryz.underlying9, Result.andThen_ok, Sem.run_pure]
  congr 1
  rw [beq_toListBytes, Bool.eq_iff_iff, beq_iff_eq, decide_eq_true_iff]
  exact ⟨bytesEq, fun h => by rw [h]⟩
theorem eq71 (f t f' t' : ByteArray) (w : World) : (Op.equal 71 (twoS f t) (twoS f' t')).run Tryz.prog w = .ok (decide (f = f' ∧ t = t')) w := by
  show (Op.equalIn (9998 + 1 + 1) 71 (.agg #[.string f, .string t]) (.agg #[.string f', .string t'])).run Tryz.prog w = _
  rw [Op.equalIn]
  have h1 := part9_0 f t
  have h2 := part9_1 f t
  have h3 := part9_0 f' t'
  have h4 := part9_1 f' t'
  have h5 : ∀ w, (Op.equalIn 9999 9 (.string f) (.string f')).run Tryz.prog w = .ok (decide (f = f')) w := eq9 9998 f f'
  have h6 : ∀ w, (Op.equalIn 9999 9 (.string t) (.string t')).run Tryz.prog w = .ok (decide (t = t')) w := eq9 9998 t t'
  have hz := size9
  by_cases hf : f = f'
  · subst hf
    by_cases ht : t = t'
    · subst ht
      simp [run_underlying Tryz.underlying71, hz, Std.Legacy.Range.forIn_eq_forIn_range', List.range', h1, h2, h5, h6]
    · simp [run_underlying Tryz.underlying71, hz, Std.Legacy.Range.forIn_eq_forIn_range', List.range', h1, h2, h3, h4, h5, h6, ht]
  · simp [run_underlying Tryz.underlying71, hz, Std.Legacy.Range.forIn_eq_forIn_range', List.range', h1, h2, h3, h4, h5, h6, hf]
theorem check71 (em : Bool) (f t : ByteArray) (w : World) : (Instr.checkKey em 10000 71 (twoS f t)).run Tryz.prog w = .ok () w := by
  show (Instr.checkKey em (9998 + 1 + 1) 71 (.agg #[.string f, .string t])).run Tryz.prog w = _
  rw [Instr.checkKey]
  have h1 := part9_0 f t
  have h2 := part9_1 f t
  have h5 := check9 em 9998 f
  have h6 := check9 em 9998 t
  have hz := size9
  simp [run_underlying Tryz.underlying71, hz, Std.Legacy.Range.forIn_eq_forIn_range', List.range', h1, h2, h5, h6]
theorem asking71 (f t : ByteArray) (w : World) : ∀ (l : List Blk) (n i : Nat),
    (Instr.findAsking 71 (twoS f t) (entsF n l) i).run Tryz.prog w = .ok ((findT f t i l).map fun x => (x.1, Value.int .i64 x.2)) w
  | [], n, i => by simp [entsF, Instr.findAsking, findT]
  | x :: r, n, i => by
    have h := asking71 f t w r (n + 1) (i + 1)
    have he := eq71 f t x.1 x.2.1 w
    rw [entsF, Instr.findAsking, findT]
    by_cases hq : f = x.1 ∧ t = x.2.1
    · rw [if_pos hq]; rw [decide_eq_true hq] at he; simp [ent, he]
    · rw [if_neg hq]; rw [decide_eq_false hq] at he; simp [ent, he, h]
theorem find71 (f t : ByteArray) (w : World) (l : List Blk) (n : Nat) :
    (Instr.findKey 71 (twoS f t) (entsF n l)).run Tryz.prog w = .ok ((findT f t 0 l).map fun x => (x.1, Value.int .i64 x.2)) w := by
  have h := asking71 f t w l n 0
  cases l with
  | nil => simp [Instr.findKey, run_underlying Tryz.underlying71, entsF, Instr.findNow, findT]
  | cons x r =>
    rw [entsF] at h ⊢
    simp [Instr.findKey, run_underlying Tryz.underlying71, Instr.findNow, Instr.sameNow, h]
theorem findT_posB (f t : ByteArray) : ∀ (l : List Blk) (i : Nat), findT f t i l = (posB f t l).map fun k => (i + k, (l.getD k blk0).2.2)
  | [], i => by simp [findT, posB]
  | x :: r, i => by
    rw [findT, posB]
    by_cases h : f = x.1 ∧ t = x.2.1
    · rw [if_pos h, if_pos h]; simp
    · rw [if_neg h, if_neg h, findT_posB f t r]
      cases posB f t r with
      | none => rfl
      | some k => simp; omega
/-- how often (f, t) was seen -/
def cntT (f t : ByteArray) (l : List Blk) : Int := match posB f t l with | some k => (l.getD k blk0).2.2 | none => 0
theorem posB_new {f t : ByteArray} : ∀ {l : List Blk}, posB f t l = none → posB f t (l ++ [(f, t, 0)]) = some l.length
  | [], _ => by simp [posB]
  | b :: r, h => by
    unfold posB at h
    by_cases hb : f = b.1 ∧ t = b.2.1
    · rw [if_pos hb] at h; cases h
    · rw [if_neg hb] at h
      have hr : posB f t r = none := by
        cases hq : posB f t r with
        | none => rfl
        | some q => rw [hq] at h; cases h
      rw [List.cons_append, posB, if_neg hb, posB_new hr]
      rfl
theorem cntT_new {f t : ByteArray} {l : List Blk} (h : posB f t l = none) : cntT f t (l ++ [(f, t, 0)]) = cntT f t l := by
  unfold cntT
  rw [posB_new h, h]
  simp [List.getD_eq_getElem?_getD]
theorem look67 {w : World} {b : Nat} {l : List Blk} (h : MapAt w b l) (f t : ByteArray) :
    (Instr.lookup 67 (.map (some b)) (twoS f t) false).run Tryz.prog w = .ok (.int .i64 (cntT f t l)) w := by
  have hz : (zeroValue 3).run Tryz.prog w = .ok (.int .i64 0) w := by kernel_rfl
  have hf := find71 f t w l 0
  have hc := check71 (entsF 0 l).isEmpty f t w
  rw [findT_posB] at hf
  unfold cntT
  cases hq : posB f t l with
  | none => rw [hq] at hf; simp [Instr.lookup, run_underlying Tryz.underlying67, MapKept.run_getObj_map h, hc, hf, hz, Result.andThen]
  | some x => rw [hq] at hf; simp [Instr.lookup, run_underlying Tryz.underlying67, MapKept.run_getObj_map h, hc, hf, Result.andThen]
theorem entsF_len : ∀ (l : List Blk) (n : Nat), (entsF n l).length = l.length
  | [], _ => rfl
  | x :: r, n => by simp [entsF, entsF_len r]
theorem entsF_get : ∀ (l : List Blk) (n k : Nat) (hk : k < l.length), (entsF n l)[k]? = some (ent l[k] (n + k))
  | x :: r, n, 0, _ => by simp [entsF]
  | x :: r, n, k + 1, hk => by
    have := entsF_get r (n + 1) k (by simpa using hk)
    simp only [entsF, List.getElem?_cons_succ, List.getElem_cons_succ]
    rw [this]
    congr 2
    omega
theorem entsF_set : ∀ (l : List Blk) (n k : Nat) (x : Blk), (entsF n l).set k (ent x (n + k)) = entsF n (l.set k x)
  | [], n, k, x => by simp [entsF]
  | a :: r, n, 0, x => by simp [entsF]
  | a :: r, n, k + 1, x => by
    have := entsF_set r (n + 1) k x
    simp only [entsF, List.set_cons_succ]
    rw [← this, show n + (k + 1) = n + 1 + k by omega]
theorem entsF_modify (l : List Blk) (k : Nat) (hk : k < l.length) (g : MapEntry → MapEntry) (x : Blk) (hg : g (ent l[k] k) = ent x k) : (entsF 0 l).toArray.modify k g = (entsF 0 (l.set k x)).toArray := by
  have h1 := entsF_get l 0 k hk
  rw [Nat.zero_add] at h1
  have h2 := entsF_set l 0 k x
  rw [Nat.zero_add] at h2
  apply Array.ext'
  rw [Array.toList_modify, ← h2]
  apply List.ext_getElem?
  intro i
  rw [List.getElem?_modify, List.getElem?_set]
  by_cases hi : k = i
  · subst hi
    have hl : k < (entsF 0 l).length := by rw [entsF_len]; exact hk
    rw [if_pos rfl, if_pos hl]
    simp [h1, hg]
  · rw [if_neg hi]
    simp [hi]
theorem set_same (l : List Blk) (k : Nat) (hk : k < l.length) : l.set k l[k] = l := by simp
/-- seen[k]++, the second half: the entry is found or laid, and written -/
theorem entry67 {w : World} {b : Nat} {l : List Blk} (h : MapAt w b l) (f t : ByteArray) : ∃ (l1 : List Blk) (k : Nat) (v0 : Int), k < l1.length ∧
    (Instr.mapEntry 67 (.map (some b)) (twoS f t)).run Tryz.prog w = .ok (.tuple #[.int .i64 v0, .int .i64 (k : Int)]) (mapPut w b l1) ∧ (∀ c, l1.set k ((l1.getD k blk0).1, (l1.getD k blk0).2.1, cntT f t l + c) = addB l (f, t, c)) ∧ cntT f t l1 = cntT f t l := by
  have hz : ∀ W, (zeroValue 3).run Tryz.prog W = .ok (.int .i64 0) W := Tryz.zeroValue3
  have hf := find71 f t w l 0
  have hc := check71 false f t w
  rw [findT_posB] at hf
  cases hq : posB f t l with
  | none =>
    rw [hq] at hf
    refine ⟨l ++ [(f, t, 0)], l.length, 0, by simp, ?_, fun c => ?_, cntT_new hq⟩
    · have hs := entsF_snoc l 0 (f, t, 0)
      simp [Instr.mapEntry, run_underlying Tryz.underlying67, MapKept.run_getObj_map h, hc, hf, hz, MapKept.run_setObj_map _ h, Result.andThen, mapPut, World.putObj]
      rw [← hs]
      simp [ent, goInt]
    · unfold addB cntT
      dsimp only
      rw [hq]
      simp [List.getD_eq_getElem?_getD]
  | some k =>
    rw [hq] at hf
    obtain ⟨h1, h2, h3⟩ := posB_some hq
    have hg := entsF_get l 0 k h1
    rw [Nat.zero_add] at hg
    have hkk : (ent l[k] k).key = twoS f t := by
      rw [getD_at h1] at h2 h3
      show twoS l[k].1 l[k].2.1 = _
      rw [h2, h3]
    have hbits : Instr.sameBits 10000 (twoS f t) (twoS f t) = true := by simp [twoS, Instr.sameBits, beq_toListBytes]
    have hm := entsF_modify l k h1 (fun e => { e with key := twoS f t }) l[k] (by
      show ({ ent l[k] k with key := twoS f t } : MapEntry) = ent l[k] k
      rw [← hkk])
    rw [set_same l k h1] at hm
    refine ⟨l, k, (l.getD k blk0).2.2, h1, ?_, fun c => ?_, rfl⟩
    · have hkey : ((entsF 0 l).toArray[k]?.map (·.key)).getD (twoS f t) = twoS f t := by
        rw [List.getElem?_toArray, hg]
        exact hkk
      have hborn : ((entsF 0 l).toArray[k]?.map (·.born)).getD 0 = k := by
        rw [List.getElem?_toArray, hg]
        rfl
      simp only [Option.map_some, Nat.zero_add] at hf
      simp only [Instr.mapEntry, Sem.run_bind, run_underlying Tryz.underlying67, Result.andThen_ok, MapKept.run_getObj_map h, hc, hf, hkey, hborn]
      simp only [Instr.keyThatStays, hbits, if_true, Sem.run_pure, Result.andThen_ok, Sem.run_bind]
      rw [hm]
      simp [MapKept.run_setObj_map _ h, Result.andThen, mapPut, World.putObj, goInt]
      rw [hg]
      rfl
    · unfold addB cntT
      dsimp only
      rw [hq]
theorem store67 {w : World} {b : Nat} {l : List Blk} (h : MapAt w b l) {k : Nat} (hk : k < l.length) (v : Int) :
    (Instr.entryStore 67 (.map (some b)) (.int .i64 (k : Int)) (.int .i64 v)).run Tryz.prog w = .ok () (mapPut w b (l.set k ((l.getD k blk0).1, (l.getD k blk0).2.1, v))) := by
  have hfi : (entsF 0 l).toArray.findIdx? (fun e => (e.born : Int) == (k : Int)) = some k := by
    rw [List.findIdx?_toArray, List.findIdx?_eq_some_iff_getElem]
    have hl : k < (entsF 0 l).length := by rw [entsF_len]; exact hk
    have hget : ∀ j (hj : j < (entsF 0 l).length), ((entsF 0 l)[j]).born = j := fun j hj => by
      have h1 := entsF_get l 0 j (by rw [entsF_len] at hj; exact hj)
      rw [List.getElem?_eq_getElem hj] at h1
      rw [Option.some.inj h1]
      show 0 + j = j
      omega
    refine ⟨hl, by rw [hget k hl]; simp, fun j hj => ?_⟩
    rw [hget j (by omega)]
    simp
    omega
  have hm := entsF_modify l k hk (fun e => { e with val := .int .i64 v }) ((l.getD k blk0).1, (l.getD k blk0).2.1, v) (by rw [getD_at hk]; rfl)
  simp only [Instr.entryStore, Sem.run_bind, MapKept.run_getObj_map h, Result.andThen_ok, asInt, asIntOf, hfi]
  simp [hm, MapKept.run_setObj_map _ h, Result.andThen, mapPut, World.putObj, hfi]
end Go.Proofs.YteigplfldhdakaaGreatDoor
/- A run over memory whose places are not known: values and blocks as they are reckoned with, and what they stand for. -/
namespace Go.Proofs.YteigplfldhdakaaGreatDoor.Ev
open Go Go.RowKit
/-- a value without a place -/
inductive FV where
  | bool (b : Bool) | int (k : IntKind) (n : Int) | str (l : List UInt8) | nilp | nils | nilm | nilf | nili | fn (f : Nat)
  deriving DecidableEq
def FV.val : FV → Value
  | .bool b => .bool b
  | .int k n => .int k n
  | .str l => .string ⟨⟨l⟩⟩
  | .nilp => .pointer none
  | .nils => .slice none 0 0
  | .nilm => .map none
  | .nilf => .nilFunc
  | .nili => .nilIface
  | .fn f => .func (.func f) #[] #[]
/-- what lies in one cell -/
inductive SV where
  | f (x : FV)
  | pt (b o : Nat)
  | sl (b o n : Nat) (c : Option Nat) (z : Nat)
  | se (b z : Nat)
  | mp (b : Nat)
  | cl (f : Nat) (cs : List Nat)
  | yl (l : Nat)
  deriving DecidableEq
inductive AV where
  | sc (x : SV)
  | ag (xs : List SV)
  | tu (ys : List (Bool × List SV))
  | top
  deriving DecidableEq
/-- where a block lies: the memory's block, from which cell on, how many cells that has -/
abbrev Pl := Nat → Option (Nat × Nat × Nat)
def All2 {α β : Type} (R : α → β → Prop) : List α → List β → Prop
  | [], [] => True
  | x :: xs, y :: ys => R x y ∧ All2 R xs ys
  | _, _ => False
section
variable {α β : Type} {R R' : α → β → Prop}
theorem All2.len : ∀ {xs : List α} {ys : List β}, All2 R xs ys → xs.length = ys.length
  | [], [], _ => rfl
  | x :: xs, y :: ys, h => by simp [All2.len h.2]
  | [], _ :: _, h => h.elim
  | _ :: _, [], h => h.elim
theorem All2.mono (hm : ∀ x y, R x y → R' x y) : ∀ {xs : List α} {ys : List β}, All2 R xs ys → All2 R' xs ys
  | [], [], _ => trivial
  | x :: xs, y :: ys, h => ⟨hm _ _ h.1, All2.mono hm h.2⟩
  | [], _ :: _, h => h.elim
  | _ :: _, [], h => h.elim
theorem All2.get : ∀ {xs : List α} {ys : List β} (i : Nat) {x : α}, All2 R xs ys → xs[i]? = some x → ∃ y, ys[i]? = some y ∧ R x y
  | x :: xs, y :: ys, 0, _, h, e => ⟨y, rfl, by cases e; exact h.1⟩
  | x :: xs, y :: ys, i + 1, _, h, e => by
    obtain ⟨u, h1, h2⟩ := All2.get i h.2 (by simpa using e)
    exact ⟨u, by simpa using h1, h2⟩
  | [], _, _, _, _, e => by simp at e
  | _ :: _, [], _, _, h, _ => h.elim
theorem All2.get' : ∀ {xs : List α} {ys : List β} (i : Nat) {y : β}, All2 R xs ys → ys[i]? = some y → ∃ x, xs[i]? = some x ∧ R x y
  | x :: xs, y :: ys, 0, _, h, e => ⟨x, rfl, by cases e; exact h.1⟩
  | x :: xs, y :: ys, i + 1, _, h, e => by
    obtain ⟨u, h1, h2⟩ := All2.get' i h.2 (by simpa using e)
    exact ⟨u, by simpa using h1, h2⟩
  | _, [], _, _, _, e => by simp at e
  | [], _ :: _, _, _, h, _ => h.elim
theorem All2.set : ∀ {xs : List α} {ys : List β} (i : Nat) {x : α} {y : β}, All2 R xs ys → R x y → All2 R (xs.set i x) (ys.set i y)
  | [], [], _, _, _, _, _ => trivial
  | a :: xs, b :: ys, 0, x, y, h, e => ⟨e, h.2⟩
  | a :: xs, b :: ys, i + 1, x, y, h, e => ⟨h.1, All2.set i h.2 e⟩
  | [], _ :: _, _, _, _, h, _ => h.elim
  | _ :: _, [], _, _, _, h, _ => h.elim
theorem All2.app : ∀ {xs xs' : List α} {ys ys' : List β}, All2 R xs ys → All2 R xs' ys' → All2 R (xs ++ xs') (ys ++ ys')
  | [], _, [], _, _, h => h
  | x :: xs, _, y :: ys, _, h, h' => ⟨h.1, All2.app h.2 h'⟩
  | [], _, _ :: _, _, h, _ => h.elim
  | _ :: _, _, [], _, h, _ => h.elim
theorem All2.take : ∀ {xs : List α} {ys : List β} (n : Nat), All2 R xs ys → All2 R (xs.take n) (ys.take n)
  | _, _, 0, _ => by simp [All2]
  | [], [], n + 1, _ => by simp [All2]
  | x :: xs, y :: ys, n + 1, h => ⟨h.1, All2.take n h.2⟩
  | [], _ :: _, _ + 1, h => h.elim
  | _ :: _, [], _ + 1, h => h.elim
theorem All2.drop : ∀ {xs : List α} {ys : List β} (n : Nat), All2 R xs ys → All2 R (xs.drop n) (ys.drop n)
  | _, _, 0, h => by simpa using h
  | [], [], n + 1, _ => by simp [All2]
  | x :: xs, y :: ys, n + 1, h => All2.drop n h.2
  | [], _ :: _, _ + 1, h => h.elim
  | _ :: _, [], _ + 1, h => h.elim
theorem All2.rep {x : α} {y : β} (h : R x y) : ∀ n, All2 R (List.replicate n x) (List.replicate n y)
  | 0 => trivial
  | n + 1 => ⟨h, All2.rep h n⟩
theorem All2.of : ∀ {xs : List α} {ys : List β}, xs.length = ys.length → (∀ (i : Nat) (x : α) (y : β), xs[i]? = some x → ys[i]? = some y → R x y) → All2 R xs ys
  | [], [], _, _ => trivial
  | x :: xs, y :: ys, hl, h => ⟨h 0 x y rfl rfl, All2.of (by simpa using hl) fun i a b ha hb => h (i + 1) a b (by simpa using ha) (by simpa using hb)⟩
  | [], _ :: _, hl, _ => by simp at hl
  | _ :: _, [], hl, _ => by simp at hl
end
def RP (γ : Pl) (b : Nat) (u : Value) : Prop := ∃ B d S, γ b = some (B, d, S) ∧ u = .pointer (some ⟨B, d, none⟩)
def RS (γ : Pl) : SV → Value → Prop
  | .f x, u => u = x.val
  | .pt b o, u => ∃ B d S, γ b = some (B, d, S) ∧ u = .pointer (some ⟨B, d + o, none⟩)
  | .sl b o n c z, u => ∃ B d S c', γ b = some (B, d, S) ∧ u = .slice (some ⟨B, d + o, none⟩) n c' ∧ n ≤ c' ∧ (match c with | some c0 => c' = c0 ∧ d + o + c0 * z ≤ S | none => d + o + c' * z = S)
  | .se b z, u => ∃ B d S o' c', γ b = some (B, d, S) ∧ u = .slice (some ⟨B, o', none⟩) 0 c' ∧ (c' = 0 ∨ o' + c' * z = S)
  | .mp b, u => ∃ B d S, γ b = some (B, d, S) ∧ u = .map (some B)
  | .cl f cs, u => ∃ us : List Value, u = .func (.func f) #[] us.toArray ∧ All2 (RP γ) cs us
  | .yl l, u => ∃ B d S, γ l = some (B, d, S) ∧ u = .func (.yield B) #[] #[]
def RE (γ : Pl) : Bool × List SV → Value → Prop
  | (true, xs), u => ∃ us : List Value, u = .agg us.toArray ∧ All2 (RS γ) xs us
  | (false, xs), u => ∃ x, xs = [x] ∧ RS γ x u
def RA (γ : Pl) : AV → Value → Prop
  | .sc x, u => RS γ x u
  | .ag xs, u => ∃ us : List Value, u = .agg us.toArray ∧ All2 (RS γ) xs us
  | .tu ys, u => ∃ us : List Value, u = .tuple us.toArray ∧ All2 (RE γ) ys us
  | .top, _ => True
/-- more places are known -/
def Sub (γ γ' : Pl) : Prop := ∀ b x, γ b = some x → γ' b = some x
theorem Sub.refl (γ : Pl) : Sub γ γ := fun _ _ h => h
theorem Sub.trans {γ γ' γ'' : Pl} (h : Sub γ γ') (h' : Sub γ' γ'') : Sub γ γ'' := fun b x e => h' b x (h b x e)
theorem RP.mono {γ γ' : Pl} (h : Sub γ γ') {b : Nat} {u : Value} (hr : RP γ b u) : RP γ' b u := by
  obtain ⟨B, d, S, h1, h2⟩ := hr
  exact ⟨B, d, S, h _ _ h1, h2⟩
theorem RS.mono {γ γ' : Pl} (h : Sub γ γ') : ∀ {x : SV} {u : Value}, RS γ x u → RS γ' x u
  | .f _, _, hr => hr
  | .pt _ _, _, ⟨B, d, S, h1, h2⟩ => ⟨B, d, S, h _ _ h1, h2⟩
  | .sl _ _ _ _ _, _, ⟨B, d, S, c', h1, h2⟩ => ⟨B, d, S, c', h _ _ h1, h2⟩
  | .se _ _, _, ⟨B, d, S, o', c', h1, h2⟩ => ⟨B, d, S, o', c', h _ _ h1, h2⟩
  | .mp _, _, ⟨B, d, S, h1, h2⟩ => ⟨B, d, S, h _ _ h1, h2⟩
  | .cl _ _, _, ⟨us, h1, h2⟩ => ⟨us, h1, All2.mono (fun _ _ k => RP.mono h k) h2⟩
  | .yl _, _, ⟨B, d, S, h1, h2⟩ => ⟨B, d, S, h _ _ h1, h2⟩
theorem RE.mono {γ γ' : Pl} (h : Sub γ γ') : ∀ {x : Bool × List SV} {u : Value}, RE γ x u → RE γ' x u
  | (true, _), _, ⟨us, h1, h2⟩ => ⟨us, h1, All2.mono (fun _ _ k => RS.mono h k) h2⟩
  | (false, _), _, ⟨x, h1, h2⟩ => ⟨x, h1, RS.mono h h2⟩
theorem RA.mono {γ γ' : Pl} (h : Sub γ γ') : ∀ {x : AV} {u : Value}, RA γ x u → RA γ' x u
  | .sc _, _, hr => RS.mono h hr
  | .ag _, _, ⟨us, h1, h2⟩ => ⟨us, h1, All2.mono (fun _ _ k => RS.mono h k) h2⟩
  | .tu _, _, ⟨us, h1, h2⟩ => ⟨us, h1, All2.mono (fun _ _ k => RE.mono h k) h2⟩
  | .top, _, _ => trivial
theorem RS.one {γ : Pl} : ∀ {x : SV} {u : Value}, RS γ x u → u.oneCell' = true
  | .f x, _, rfl => by cases x <;> rfl
  | .pt _ _, _, ⟨_, _, _, _, h2⟩ => by rw [h2]; rfl
  | .sl _ _ _ _ _, _, ⟨_, _, _, _, _, h2, _⟩ => by rw [h2]; rfl
  | .se _ _, _, ⟨_, _, _, _, _, _, h2, _⟩ => by rw [h2]; rfl
  | .mp _, _, ⟨_, _, _, _, h2⟩ => by rw [h2]; rfl
  | .cl _ _, _, ⟨_, h2, _⟩ => by rw [h2]; rfl
  | .yl _, _, ⟨_, _, _, _, h2⟩ => by rw [h2]; rfl
theorem RS.cells {γ : Pl} {x : SV} {u : Value} (h : RS γ x u) : u.cells = #[u] := by
  have h1 := RS.one h
  cases u <;> first | rfl | (simp [Value.oneCell'] at h1)
/-- the cells that a value fills -/
def AV.cells : AV → Option (List SV)
  | .sc x => some [x]
  | .ag xs => some xs
  | .tu _ => none
  | .top => none
theorem RA.cells {γ : Pl} : ∀ {v : AV} {u : Value} {xs : List SV}, RA γ v u → v.cells = some xs → All2 (RS γ) xs u.cells.toList
  | .sc x, u, _, h, e => by
    cases e
    rw [RS.cells h]
    exact ⟨h, trivial⟩
  | .ag xs, u, _, ⟨us, h1, h2⟩, e => by
    cases e
    rw [h1]
    simpa [Value.cells] using h2
/-- what lies in a block -/
inductive AObj where
  | cells (ty : Nat) (L : List SV)
  | map (es : List ((Bool × List FV) × (Bool × List SV)))
  | loop (st : LoopState) (pend : Option Code) (fn : Nat) (tm : List AV) (params : Array Tmp) (assign body : Code) (df : Nat)
  | defs
  | mit (m : Nat) (since : Nat) (seen : List Nat) (stepped : Nat)
def keyVal : Bool × List FV → Value
  | (true, xs) => .agg (xs.map FV.val).toArray
  | (false, xs) => match xs with | [x] => x.val | _ => .tuple #[]
def entsR (γ : Pl) : Nat → List ((Bool × List FV) × (Bool × List SV)) → List MapEntry → Prop
  | _, [], [] => True
  | n, x :: xs, e :: es => (e.key = keyVal x.1 ∧ RE γ x.2 e.val ∧ e.born = n) ∧ entsR γ (n + 1) xs es
  | _, _, _ => False
def OR (γ : Pl) (w : World) (b : Nat) : AObj → Prop
  | .cells ty L => ∃ B d S C, γ b = some (B, d, S) ∧ w.heap[B]? = some (.cells C ty (0, 0)) ∧ C.size = S ∧ (d + L.length ≤ S ∧ (ty = 121 → d = 0 ∧ S = L.length)) ∧ ∀ i x, L[i]? = some x → ∃ u, C[d + i]? = some u ∧ RS γ x u
  | .map es => ∃ B d S es', γ b = some (B, d, S) ∧ w.heap[B]? = some (.map es' es.length) ∧ entsR γ 0 es es'.toList
  | .loop st pend fn tm params assign body df => ∃ B d S tmps D dd DS, γ b = some (B, d, S) ∧ γ df = some (D, dd, DS) ∧ w.heap[B]? = some (.loop { state := st, pending := pend, fn := fn, tmps := tmps, params := params, assign := assign, body := body, defers := D }) ∧ All2 (RA γ) tm tmps.toList
  | .defs => ∃ B d S, γ b = some (B, d, S) ∧ w.heap[B]? = some (.deferred (some []))
  | .mit m since seen stepped => ∃ B d S M d' S', γ b = some (B, d, S) ∧ γ m = some (M, d', S') ∧ d = 0 ∧ w.heap[B]? = some (.mapIter (some M) since seen.toArray stepped)
theorem entsR.mono {γ γ' : Pl} (h : Sub γ γ') : ∀ {n : Nat} {xs : List ((Bool × List FV) × (Bool × List SV))} {es : List MapEntry}, entsR γ n xs es → entsR γ' n xs es
  | _, [], [], _ => trivial
  | _, _ :: _, _ :: _, ⟨⟨h1, h2, h3⟩, h4⟩ => ⟨⟨h1, RE.mono h h2, h3⟩, entsR.mono h h4⟩
  | _, [], _ :: _, k => k.elim
  | _, _ :: _, [], k => k.elim
/-- the memory's block of a block -/
theorem OR.at_ {γ : Pl} {w : World} {b : Nat} : ∀ {o : AObj}, OR γ w b o → ∃ B d S, γ b = some (B, d, S) ∧ B < w.heap.size
  | .cells _ _, ⟨B, d, S, _, h1, h2, _⟩ => ⟨B, d, S, h1, (Array.getElem?_eq_some_iff.1 h2).1⟩
  | .map _, ⟨B, d, S, _, h1, h2, _⟩ => ⟨B, d, S, h1, (Array.getElem?_eq_some_iff.1 h2).1⟩
  | .loop _ _ _ _ _ _ _ _, ⟨B, d, S, _, _, _, _, h1, _, h2, _⟩ => ⟨B, d, S, h1, (Array.getElem?_eq_some_iff.1 h2).1⟩
  | .defs, ⟨B, d, S, h1, h2⟩ => ⟨B, d, S, h1, (Array.getElem?_eq_some_iff.1 h2).1⟩
  | .mit _ _ _ _, ⟨B, d, S, _, _, _, h1, _, _, h2⟩ => ⟨B, d, S, h1, (Array.getElem?_eq_some_iff.1 h2).1⟩
theorem OR.mono {γ γ' : Pl} {w w' : World} {b : Nat} (h : Sub γ γ') (hk : ∀ B d S, γ b = some (B, d, S) → w'.heap[B]? = w.heap[B]?) : ∀ {o : AObj}, OR γ w b o → OR γ' w' b o
  | .cells _ _, ⟨B, d, S, C, h1, h2, h3, h4, h5⟩ => ⟨B, d, S, C, h _ _ h1, (hk _ _ _ h1).trans h2, h3, h4, fun i x hx => let ⟨u, k1, k2⟩ := h5 i x hx; ⟨u, k1, RS.mono h k2⟩⟩
  | .map _, ⟨B, d, S, es', h1, h2, h3⟩ => ⟨B, d, S, es', h _ _ h1, (hk _ _ _ h1).trans h2, entsR.mono h h3⟩
  | .loop _ _ _ _ _ _ _ _, ⟨B, d, S, tmps, D, dd, DS, h1, h0, h2, h3⟩ => ⟨B, d, S, tmps, D, dd, DS, h _ _ h1, h _ _ h0, (hk _ _ _ h1).trans h2, All2.mono (fun _ _ k => RA.mono h k) h3⟩
  | .defs, ⟨B, d, S, h1, h2⟩ => ⟨B, d, S, h _ _ h1, (hk _ _ _ h1).trans h2⟩
  | .mit _ _ _ _, ⟨B, d, S, M, d', S', h1, h0, hd, h2⟩ => ⟨B, d, S, M, d', S', h _ _ h1, h _ _ h0, hd, (hk _ _ _ h1).trans h2⟩
/-- blocks that are lived in, and the next number -/
structure AS where
  H : List (Nat × AObj)
  nx : Nat
def fnd : List (Nat × AObj) → Nat → Option AObj
  | [], _ => none
  | (k, o) :: r, b => if k == b then some o else fnd r b
def ers : List (Nat × AObj) → Nat → List (Nat × AObj)
  | [], _ => []
  | (k, o) :: r, b => if k == b then r else (k, o) :: ers r b
def put : List (Nat × AObj) → Nat → AObj → List (Nat × AObj)
  | [], b, o' => [(b, o')]
  | (k, o) :: r, b, o' => if k == b then (k, o') :: r else (k, o) :: put r b o'
structure HR (γ : Pl) (s : AS) (w : World) : Prop where
  obj : ∀ b o, (b, o) ∈ s.H → OR γ w b o
  nod : (s.H.map (·.1)).Nodup
  inj : ∀ b b' x y, b ∈ s.H.map (·.1) → b' ∈ s.H.map (·.1) → b ≠ b' → γ b = some x → γ b' = some y → x.1 ≠ y.1
  nxt : ∀ k, s.nx ≤ k → γ k = none
def Im (γ : Pl) (s : AS) (k : Nat) : Prop := ∃ b d z, b ∈ s.H.map (·.1) ∧ γ b = some (k, d, z)
/-- what a piece of the run leaves alone -/
structure Fr (γ : Pl) (s : AS) (w : World) (γ' : Pl) (s' : AS) (w' : World) : Prop where
  sub : Sub γ γ'
  size : w.heap.size ≤ w'.heap.size
  keep : ∀ k, k < w.heap.size → ¬ Im γ s k → w'.heap[k]? = w.heap[k]?
  im : ∀ k, Im γ' s' k → Im γ s k ∨ w.heap.size ≤ k
  same : w'.os = w.os ∧ w'.tape = w.tape ∧ w'.output = w.output
  ids : ∀ k x, γ' k = some x → γ k = some x ∨ s.nx ≤ k
  nxle : s.nx ≤ s'.nx
theorem Fr.refl (γ : Pl) (s : AS) (w : World) : Fr γ s w γ s w := ⟨Sub.refl _, Nat.le_refl _, fun _ _ _ => rfl, fun _ h => .inl h, ⟨rfl, rfl, rfl⟩, fun _ _ h => .inl h, Nat.le_refl _⟩
theorem Fr.trans {γ γ1 γ2 : Pl} {s s1 s2 : AS} {w w1 w2 : World} (h : Fr γ s w γ1 s1 w1) (h' : Fr γ1 s1 w1 γ2 s2 w2) : Fr γ s w γ2 s2 w2 := by
  refine ⟨h.sub.trans h'.sub, Nat.le_trans h.size h'.size, fun k hk hn => ?_, fun k hk => ?_, ⟨h'.same.1.trans h.same.1, h'.same.2.1.trans h.same.2.1, h'.same.2.2.trans h.same.2.2⟩, fun k x hk => ?_, Nat.le_trans h.nxle h'.nxle⟩
  · have h1 : ¬ Im γ1 s1 k := fun hi => by
      rcases h.im k hi with h2 | h2
      · exact hn h2
      · omega
    exact (h'.keep k (Nat.lt_of_lt_of_le hk h.size) h1).trans (h.keep k hk hn)
  · rcases h'.im k hk with h1 | h1
    · exact h.im k h1
    · exact .inr (Nat.le_trans h.size h1)
  · rcases h'.ids k x hk with h1 | h1
    · exact h.ids k x h1
    · exact .inr (Nat.le_trans h.nxle h1)
theorem fnd_mem : ∀ {H : List (Nat × AObj)} {b : Nat} {o : AObj}, fnd H b = some o → (b, o) ∈ H
  | (k, o) :: r, b, o', h => by
    unfold fnd at h
    by_cases e : (k == b) = true
    · rw [if_pos e] at h
      cases h
      rw [eq_of_beq e]
      exact List.mem_cons_self ..
    · rw [if_neg e] at h
      exact List.mem_cons_of_mem _ (fnd_mem h)
theorem ers_mem : ∀ {H : List (Nat × AObj)} {b : Nat} {x : Nat × AObj}, x ∈ ers H b → x ∈ H
  | (k, o) :: r, b, x, h => by
    unfold ers at h
    by_cases e : (k == b) = true
    · rw [if_pos e] at h; exact List.mem_cons_of_mem _ h
    · rw [if_neg e] at h
      rcases List.mem_cons.1 h with h1 | h1
      · rw [h1]; exact List.mem_cons_self ..
      · exact List.mem_cons_of_mem _ (ers_mem h1)
theorem ers_sub (H : List (Nat × AObj)) (b : Nat) : (ers H b).Sublist H := by
  induction H with
  | nil => exact .slnil
  | cons x r ih =>
    obtain ⟨k, o⟩ := x
    unfold ers
    by_cases e : (k == b) = true
    · rw [if_pos e]; exact List.sublist_cons_self _ _
    · rw [if_neg e]; exact ih.cons_cons _
theorem ers_not : ∀ {H : List (Nat × AObj)} {b : Nat}, (H.map (·.1)).Nodup → b ∉ (ers H b).map (·.1)
  | [], b, _ => by simp [ers]
  | (k, o) :: r, b, h => by
    rw [List.map_cons, List.nodup_cons] at h
    unfold ers
    by_cases e : (k == b) = true
    · rw [if_pos e, ← eq_of_beq e]; exact h.1
    · rw [if_neg e, List.map_cons, List.mem_cons]
      rintro (h1 | h1)
      · exact e (by simp [h1])
      · exact ers_not h.2 h1
/-- one block is written anew, under its own number or a new one -/
theorem HR.upd {γ γ' : Pl} {s : AS} {w w' : World} {b b' nx' : Nat} {o o' : AObj} {B d S d' S' : Nat} (h : HR γ s w) (hm : (b, o) ∈ s.H) (hb : γ b = some (B, d, S)) (hs : Sub γ γ') (hb' : γ' b' = some (B, d', S'))
    (hne : b' = b ∨ b' ∉ s.H.map (·.1)) (hsz : w'.heap.size = w.heap.size) (hk : ∀ k, k ≠ B → w'.heap[k]? = w.heap[k]?) (ho : OR γ' w' b' o') (hn : ∀ k, nx' ≤ k → γ' k = none) (hsm : w'.os = w.os ∧ w'.tape = w.tape ∧ w'.output = w.output)
    (hids : ∀ k x, γ' k = some x → γ k = some x ∨ s.nx ≤ k) (hnx : s.nx ≤ nx') :
    HR γ' ⟨(b', o') :: ers s.H b, nx'⟩ w' ∧ Fr γ s w γ' ⟨(b', o') :: ers s.H b, nx'⟩ w' := by
  have hbm : b ∈ s.H.map (·.1) := List.mem_map.2 ⟨_, hm, rfl⟩
  have hnot := ers_not (b := b) h.nod
  have hsub : ∀ k, k ∈ (ers s.H b).map (·.1) → k ∈ s.H.map (·.1) := fun k hk => by
    obtain ⟨x, hx, rfl⟩ := List.mem_map.1 hk
    exact List.mem_map.2 ⟨x, ers_mem hx, rfl⟩
  have hb'n : b' ∉ (ers s.H b).map (·.1) := by
    rcases hne with rfl | h1
    · exact hnot
    · exact fun h2 => h1 (hsub _ h2)
  have hold : ∀ k, k ∈ s.H.map (·.1) → ∃ x, γ k = some x := fun k hk => by
    obtain ⟨y, hy, rfl⟩ := List.mem_map.1 hk
    obtain ⟨B1, d1, S1, h1, _⟩ := OR.at_ (h.obj y.1 y.2 hy)
    exact ⟨_, h1⟩
  have hdis : ∀ k x, k ∈ (ers s.H b).map (·.1) → γ k = some x → x.1 ≠ B := fun k x hk hx => by
    have hkb : k ≠ b := fun e => hnot (e ▸ hk)
    exact h.inj k b x _ (hsub k hk) hbm hkb hx hb
  refine ⟨⟨fun k q hq => ?_, ?_, ?_, hn⟩, hs, by omega, fun k hk1 hk2 => ?_, fun k hk1 => ?_, hsm, hids, hnx⟩
  · rcases List.mem_cons.1 hq with h1 | h1
    · cases h1; exact ho
    · refine OR.mono hs (fun B1 d1 S1 h2 => hk B1 ?_) (h.obj k q (ers_mem h1))
      exact hdis k _ (List.mem_map.2 ⟨_, h1, rfl⟩) h2
  · rw [List.map_cons, List.nodup_cons]
    exact ⟨hb'n, ((ers_sub s.H b).map _).nodup h.nod⟩
  · intro k k' x y h1 h2 h3 h4 h5
    rw [List.map_cons, List.mem_cons] at h1 h2
    rcases h1 with rfl | h1
    · rcases h2 with rfl | h2
      · exact absurd rfl h3
      · obtain ⟨z, hz⟩ := hold _ (hsub _ h2)
        have := hs _ _ hz
        rw [h5] at this
        cases this
        rw [hb'] at h4
        cases h4
        exact fun e => hdis _ _ h2 hz e.symm
    · rcases h2 with rfl | h2
      · obtain ⟨z, hz⟩ := hold _ (hsub _ h1)
        have := hs _ _ hz
        rw [h4] at this
        cases this
        rw [hb'] at h5
        cases h5
        exact hdis _ _ h1 hz
      · obtain ⟨z, hz⟩ := hold _ (hsub _ h1)
        obtain ⟨z', hz'⟩ := hold _ (hsub _ h2)
        have e1 := hs _ _ hz
        have e2 := hs _ _ hz'
        rw [h4] at e1
        rw [h5] at e2
        cases e1
        cases e2
        exact h.inj _ _ _ _ (hsub _ h1) (hsub _ h2) h3 hz hz'
  · exact hk k fun e => hk2 ⟨b, d, S, hbm, by rw [hb, e]⟩
  · obtain ⟨q, e1, e2, h1, h2⟩ := hk1
    rw [List.map_cons, List.mem_cons] at h1
    rcases h1 with rfl | h1
    · rw [hb'] at h2
      cases h2
      exact .inl ⟨b, d, S, hbm, hb⟩
    · obtain ⟨z, hz⟩ := hold _ (hsub _ h1)
      have := hs _ _ hz
      rw [h2] at this
      cases this
      exact .inl ⟨q, e1, e2, hsub _ h1, hz⟩
/-- places, one more -/
def ext (γ : Pl) (b : Nat) (x : Nat × Nat × Nat) : Pl := fun k => if k = b then some x else γ k
theorem ext_sub {γ : Pl} {b : Nat} {x : Nat × Nat × Nat} (h : γ b = none) : Sub γ (ext γ b x) := fun k y hy => by
  unfold ext
  by_cases e : k = b
  · rw [e, h] at hy; cases hy
  · rw [if_neg e]; exact hy
theorem ext_at (γ : Pl) (b : Nat) (x : Nat × Nat × Nat) : ext γ b x b = some x := by simp [ext]
theorem ext_nx {γ : Pl} {nx : Nat} {x : Nat × Nat × Nat} (h : ∀ k, nx ≤ k → γ k = none) : ∀ k, nx + 1 ≤ k → ext γ nx x k = none := fun k hk => by
  unfold ext
  rw [if_neg (by omega)]
  exact h k (by omega)
theorem ext_ids {γ : Pl} {nx : Nat} {x : Nat × Nat × Nat} : ∀ k y, ext γ nx x k = some y → γ k = some y ∨ nx ≤ k := fun k y h => by
  unfold ext at h
  by_cases e : k = nx
  · exact .inr (by omega)
  · rw [if_neg e] at h
    exact .inl h
theorem HR.fresh {γ : Pl} {s : AS} {w : World} (h : HR γ s w) : s.nx ∉ s.H.map (·.1) := fun hm => by
  obtain ⟨y, hy, e⟩ := List.mem_map.1 hm
  obtain ⟨B, d, S, h1, _⟩ := OR.at_ (h.obj y.1 y.2 hy)
  rw [e, h.nxt _ (Nat.le_refl _)] at h1
  cases h1
/-- a new block -/
theorem HR.new {γ : Pl} {s : AS} {w : World} {o : AObj} {p : Obj} {S : Nat} (h : HR γ s w) (ho : OR (ext γ s.nx (w.heap.size, 0, S)) (w.alloc p) s.nx o) :
    HR (ext γ s.nx (w.heap.size, 0, S)) ⟨(s.nx, o) :: s.H, s.nx + 1⟩ (w.alloc p) ∧ Fr γ s w (ext γ s.nx (w.heap.size, 0, S)) ⟨(s.nx, o) :: s.H, s.nx + 1⟩ (w.alloc p) := by
  have hsub := ext_sub (x := (w.heap.size, 0, S)) (h.nxt _ (Nat.le_refl _))
  have hold : ∀ k, k ∈ s.H.map (·.1) → ∃ x, γ k = some x ∧ x.1 < w.heap.size := fun k hk => by
    obtain ⟨y, hy, rfl⟩ := List.mem_map.1 hk
    obtain ⟨B1, d1, S1, h1, h2⟩ := OR.at_ (h.obj y.1 y.2 hy)
    exact ⟨_, h1, h2⟩
  have hkeep : ∀ k, k < w.heap.size → (w.alloc p).heap[k]? = w.heap[k]? := fun k hk => by
    show (w.heap.push p)[k]? = _
    rw [Array.getElem?_push, if_neg (by omega)]
  refine ⟨⟨fun k q hq => ?_, ?_, ?_, ext_nx h.nxt⟩, hsub, by simp, fun k hk _ => hkeep k hk, fun k hk => ?_, ⟨rfl, rfl, rfl⟩, ext_ids, Nat.le_succ _⟩
  · rcases List.mem_cons.1 hq with h1 | h1
    · cases h1; exact ho
    · refine OR.mono hsub (fun B1 d1 S1 h2 => hkeep B1 ?_) (h.obj k q h1)
      obtain ⟨x, h3, h4⟩ := hold k (List.mem_map.2 ⟨_, h1, rfl⟩)
      rw [h2] at h3
      cases h3
      exact h4
  · rw [List.map_cons, List.nodup_cons]
    exact ⟨h.fresh, h.nod⟩
  · intro k k' x y h1 h2 h3 h4 h5
    rw [List.map_cons, List.mem_cons] at h1 h2
    rcases h1 with rfl | h1
    · rcases h2 with rfl | h2
      · exact absurd rfl h3
      · obtain ⟨z, hz, hl⟩ := hold _ h2
        have := hsub _ _ hz
        rw [h5] at this
        cases this
        rw [ext_at] at h4
        cases h4
        exact fun e => by have : w.heap.size = y.1 := e; omega
    · rcases h2 with rfl | h2
      · obtain ⟨z, hz, hl⟩ := hold _ h1
        have := hsub _ _ hz
        rw [h4] at this
        cases this
        rw [ext_at] at h5
        cases h5
        exact fun e => by have : x.1 = w.heap.size := e; omega
      · obtain ⟨z, hz, _⟩ := hold _ h1
        obtain ⟨z', hz', _⟩ := hold _ h2
        have e1 := hsub _ _ hz
        have e2 := hsub _ _ hz'
        rw [h4] at e1
        rw [h5] at e2
        cases e1
        cases e2
        exact h.inj _ _ _ _ h1 h2 h3 hz hz'
  · obtain ⟨q, e1, e2, h1, h2⟩ := hk
    rw [List.map_cons, List.mem_cons] at h1
    rcases h1 with rfl | h1
    · rw [ext_at] at h2
      cases h2
      exact .inr (Nat.le_refl _)
    · obtain ⟨z, hz, _⟩ := hold _ h1
      have := hsub _ _ hz
      rw [h2] at this
      cases this
      exact .inl ⟨q, e1, e2, h1, hz⟩
end Go.Proofs.YteigplfldhdakaaGreatDoor.Ev
