/- The walk of the law BucketActs. -/
import Derived.Test.YtmbpdboengaclaaQx
import Derived.Deep.RegionHeld3
import Derived.Deep.DrawnRows
import Derived.Deep.Cut
import Derived.Deep.DeepCutAuto
namespace Go.Proofs.Ytmbpdboengaclaa
set_option linter.unusedVariables false
set_option linter.unusedSimpArgs false
open Go.RowKit
attribute [local go_sem ↓] Go.wp_at_zero Go.wp_at_succ
/-- the slice (a, len, cap) holds the acts -/
def IsActs (w : World) (a : Option Addr) (len cap : Nat) (acts : Nat → Bool × Int × Int) : Prop :=
  (a = none ∧ len = 0 ∧ cap = 0) ∨
  ∃ x, a = some x ∧ len ≤ cap ∧ cap ≤ maxLen ∧ ∀ i, i < len → w.cell? (x.add (i * 3)) = some (.bool (acts i).1) ∧ w.cell? ⟨(x.add (i * 3)).block, (x.add (i * 3)).off + 1, none⟩ = some (.int .i64 (acts i).2.1) ∧ w.cell? ⟨(x.add (i * 3)).block, (x.add (i * 3)).off + 2, none⟩ = some (.int .i64 (acts i).2.2)
theorem IsActs.get {w w' : World} {a : Option Addr} {len cap : Nat} {acts : Nat → Bool × Int × Int} (h : IsActs w a len cap acts) (hb : Below w.heap.size w w') {i : Nat} (hi : i < len) :
    ∃ x p c v, a = some x ∧ w'.cell? (x.add (i * 3)) = some (.bool p) ∧ w'.cell? ⟨(x.add (i * 3)).block, (x.add (i * 3)).off + 1, none⟩ = some (.int .i64 c) ∧ w'.cell? ⟨(x.add (i * 3)).block, (x.add (i * 3)).off + 2, none⟩ = some (.int .i64 v) := by
  rcases h with ⟨_, h0, _⟩ | ⟨x, rfl, h1, h2, h3⟩
  · omega
  · obtain ⟨a1, a2, a3⟩ := h3 i hi
    exact ⟨x, _, _, _, rfl, (hb.cell (World.block_lt_of_cell? w _ a1)).trans a1, (hb.cell (World.block_lt_of_cell? w _ a2)).trans a2, (hb.cell (World.block_lt_of_cell? w _ a3)).trans a3⟩
theorem IsActs.le {w : World} {a : Option Addr} {len cap : Nat} {acts : Nat → Bool × Int × Int} (h : IsActs w a len cap acts) : len ≤ 9223372036854775807 := by
  rcases h with ⟨_, rfl, _⟩ | ⟨x, _, h1, h2, _⟩
  · omega
  · simp only [maxLen] at h2; omega
set_option maxRecDepth 100000 in
set_option maxHeartbeats 4000000 in
theorem acts_law (top : Int) (a : Option Addr) (len cap : Nat) (acts : Nat → Bool × Int × Int) (w : World) (hz : IsActs w a len cap acts) :
    Calls Try.prog 6 #[.int .i64 top, .slice a len cap] w fun e w' => e = .returned (.bool true) ∧ Below w.heap.size w w' := by
  have HB := hid (Below.refl w.heap.size w)
  have HZ := hid hz
  have hl1 := hz.le
  clear hz
  by_cases ht : top < 0 ∨ 4351 < top
  · have HT := hid ht
    rcases ht with ht | ht
    all_goals
      go_enter Try.func6, Try.ntmps6
      go_wp2_with (first
        | (go_at_call 9; refine (alive_any _).mono ?_; rintro e w1 ⟨rfl, hb⟩; replace HB := hid hb; clear hb)
        | (go_at_call 10; refine (new_l _ _).mono ?_; rintro e w2 ⟨hp, -⟩; obtain ⟨rfl, rfl⟩ := hp HT.out; clear hp))
      all_goals
        go_ret
        exact ⟨rfl, HB.out⟩
  · have h0 : 0 ≤ top := by omega
    have h1 : top ≤ 4351 := by omega
    go_enter Try.func6, Try.ntmps6
    go_wp2_with (first
      | (go_at_call 9; refine (alive_any _).mono ?_; rintro e w1 ⟨rfl, hb⟩; replace HB := hid hb; clear hb)
      | (go_at_call 10; refine (new_l _ _).mono ?_; rintro e w2 ⟨-, hp⟩; obtain ⟨rfl, hq, hb⟩ := hp h0 h1; have HN := hid hb.size; have HQ := hid hq; have HW := hid HB.out.size; replace HB := hid (bthen HB.out hb); clear hp hq hb))
    · go_ret
      exact ⟨rfl, HB.out⟩
    have hl3 : len ≤ 300 := by omega
    have htwo : Two w1.heap.size (fun k => w1.heap.size ≤ k ∧ k < w2.heap.size) (fun k => k = w2.heap.size) (w2.alloc (.cells #[.int .i64 top, .int .i64 0, .slice none 0 0] 43)) w1.heap.size w2.heap.size [] 0 [] 0 top :=
      ⟨HQ.out.bound.below (balloc (Below.refl _ _) _), ⟨_, heap_alloc_new w2 _, SL.nil _ _ _, rfl, fun k hk => by simp [Value.ownBlock] at hk⟩, fun k hk e => by omega, fun k hk => ⟨hk.1, by rw [World.size_alloc]; omega⟩, fun k hk => ⟨by rw [hk]; exact HN.out, by rw [World.size_alloc, hk]; omega⟩⟩
    have HT0 := hid htwo
    have HB0 := hid (balloc HB.out (.cells #[.int .i64 top, .int .i64 0, .slice none 0 0] 43))
    have HN0 : Hid (w1.heap.size ≤ (w2.alloc (.cells #[.int .i64 top, .int .i64 0, .slice none 0 0] 43)).heap.size) := hid (by rw [World.size_alloc]; have := HN.out; omega)
    clear htwo HQ
    go_loopw [47] (fun iv wr => ∃ (j : Nat) (l : List (Int × Int)) (now : Int) (F G : Nat → Prop), j ≤ len ∧ iv = .int .i64 (j : Int) ∧ Hid (Two w1.heap.size F G wr w1.heap.size w2.heap.size l now l now top) ∧ l.length ≤ j ∧ Hid (l.Pairwise fun a b => a.1 ≤ b.1) ∧ Hid (Below w.heap.size w wr) ∧ Hid (w1.heap.size ≤ wr.heap.size)) (fun iv _ => len - (intOf iv).toNat)
    case atStart => exact ⟨0, [], 0, _, _, by omega, rfl, HT0, by simp, hid List.Pairwise.nil, HB0, HN0⟩
    case round =>
      obtain ⟨j, l, now, F, G, hj, rfl, HT, hl, HS, HB1, HN1⟩ := hrel
      clear HT0 HB0 HN0 HN
      by_cases hjl : j < len
      · have hj2 : (j : Int) < (len : Int) := by omega
        obtain ⟨x, p, c, v, rfl, a1, a2, a3⟩ := HZ.out.get HB1.out hjl
        have hsz := HB1.out.size
        have HBa := hid (balloc HB1.out (.cells #[.bool p, .int .i64 c, .int .i64 v] 45))
        have HTa := hid (HT.out.below (balloc (Below.refl _ wr) (.cells #[.bool p, .int .i64 c, .int .i64 v] 45)))
        have HNa : Hid (w1.heap.size ≤ (wr.alloc (.cells #[.bool p, .int .i64 c, .int .i64 v] 45)).heap.size) := hid (by rw [World.size_alloc]; have := HN1.out; omega)
        have hca := heap_alloc_new wr (.cells #[.bool p, .int .i64 c, .int .i64 v] 45)
        have hla : l.length ≤ 100000 := by omega
        have hF0 : ¬ F wr.heap.size := fun h => by have := (HT.out.fb _ h).2; omega
        have hG0 : ¬ G wr.heap.size := fun h => by have := (HT.out.gb _ h).2; omega
        have HFW : Hid (∀ k, w1.heap.size ≤ k → w.heap.size ≤ k) := hid fun k hk => Nat.le_trans HW.out hk
        have hsa : (wr.alloc (.cells #[.bool p, .int .i64 c, .int .i64 v] 45)).heap.size = wr.heap.size + 1 := World.size_alloc _ _
        have HSA := hid hsa
        have HCA := hid hca
        clear hsa hca
        cases p
        case' true =>
          have cA : (wr.alloc (.cells #[.bool true, .int .i64 c, .int .i64 v] 45)).cell? ⟨wr.heap.size, 1, none⟩ = some (.int .i64 c) := by rw [cell_of_row _ _ 1 _ _ _ HCA.out]; rfl
          have cB : (wr.alloc (.cells #[.bool true, .int .i64 c, .int .i64 v] 45)).cell? ⟨wr.heap.size, 2, none⟩ = some (.int .i64 v) := by rw [cell_of_row _ _ 2 _ _ _ HCA.out]; rfl
          have HTd : Hid (Two w1.heap.size F G (wr.alloc (.cells #[.bool true, .int .i64 c, .int .i64 v] 45)).drew w1.heap.size w2.heap.size l now l now top) := hid (HTa.out.drew 1)
          have HBd : Hid (Below w.heap.size w (wr.alloc (.cells #[.bool true, .int .i64 c, .int .i64 v] 45)).drew) := hid HBa.out.drew
          have HCd : Hid ((wr.alloc (.cells #[.bool true, .int .i64 c, .int .i64 v] 45)).drew.heap[wr.heap.size]? = some (.cells #[.bool true, .int .i64 c, .int .i64 v] 45 (0, 0))) := hid HCA.out
          go_wp2_with fail
          first
          | (go_region_held3 (fun w' => w'.cell? ⟨wr.heap.size, 1, none⟩ = some (.int .i64 c) ∧ w'.cell? ⟨wr.heap.size, 2, none⟩ = some (.int .i64 v))
              (first | exact ⟨cA, cB⟩ | exact ⟨cA6, cB6⟩ | exact ⟨cA5, cB5⟩ | go_keep)
              ((first
                | (go_at_call 11; refine (two_push HTd.out HNa.out hla c v).mono ?_; rintro e w5 ⟨rfl, ⟨F5, h5, hF5⟩, ht5⟩; have hc5 := (ht5.block wr.heap.size (by have := HSA.out; show wr.heap.size < (wr.alloc _).heap.size; omega) hF0).trans HCd.out; have cA5 : w5.cell? ⟨wr.heap.size, 1, none⟩ = some (.int .i64 c) := (by rw [cell_of_row _ _ 1 _ _ _ hc5]; rfl); have cB5 : w5.cell? ⟨wr.heap.size, 2, none⟩ = some (.int .i64 v) := (by rw [cell_of_row _ _ 2 _ _ _ hc5]; rfl); have HT5 := hid h5; have HB5 := hid (ht5.below HBd.out (fun k hk => HFW.out k (HTd.out.fb k hk).1)); have HC5 := hid hc5; have HZ5 := hid ht5.size; clear h5 hF5 ht5 hc5)
                | (go_at_call 15; refine (two_rpush HT5.out (Nat.le_trans HNa.out HZ5.out) hla HS.out c v).mono ?_; rintro e w6 ⟨rfl, ⟨G6, h6, hG6⟩, ht6⟩; have hc6 := (ht6.block wr.heap.size (by have := blk_lt HC5.out; exact this) hG0).trans HC5.out; have cA6 : w6.cell? ⟨wr.heap.size, 1, none⟩ = some (.int .i64 c) := (by rw [cell_of_row _ _ 1 _ _ _ hc6]; rfl); have cB6 : w6.cell? ⟨wr.heap.size, 2, none⟩ = some (.int .i64 v) := (by rw [cell_of_row _ _ 2 _ _ _ hc6]; rfl); have HT6 := hid h6; have HB6 := hid (ht6.below HB5.out (fun k hk => HFW.out k (HT5.out.gb k hk).1)); have HZ6 := hid ht6.size; clear h6 hG6 ht6 hc6))))
          | fail
          obtain ⟨Le, nowe, Fe, Ge, HTe, hle, HSe⟩ : ∃ (Le : List (Int × Int)) (nowe : Int) (Fe Ge : Nat → Prop), Hid (Two w1.heap.size Fe Ge w6 w1.heap.size w2.heap.size Le nowe Le nowe top) ∧ Le.length ≤ j + 1 ∧ Hid (Le.Pairwise fun a b => a.1 ≤ b.1) := ⟨pl now top c v l, now, F5, G6, HT6, Nat.le_trans (pl_le now top c v l) (by omega), hid (pl_sorted HS.out)⟩
          have HBe := HB6
          have HNe : Hid (w1.heap.size ≤ w6.heap.size) := hid (Nat.le_trans HNa.out (Nat.le_trans HZ5.out HZ6.out))
          clear cA cB cA5 cB5 cA6 cB6 HT5 HT6 HTa HTd HBa HBd HCd HB5 HB6 HZ5 HZ6 HC5 HNa HSA HCA hF0 hG0 a1 a2 a3
          generalize w6 = we at HTe HBe HNe ⊢
          go_wp2_with fail
        case' false =>
          go_wp2_with fail
          refine (two_pop HTa.out hla).mono ?_
          rintro e w5 ⟨rfl, h5, ht5⟩
          have HB5 := hid (balloc (ht5.below HBa.out (fun k hk => HFW.out k (HTa.out.fb k hk).1)) (.cells #[.int .i64 (hd l).1, .int .i64 (hd l).2] 31))
          have HT5 := hid (h5.below (balloc (Below.refl _ w5) (.cells #[.int .i64 (hd l).1, .int .i64 (hd l).2] 31)))
          have hG5 : ¬ G w5.heap.size := fun h => by have := (h5.gb _ h).2; omega
          have hc5 := heap_alloc_new w5 (.cells #[.int .i64 (hd l).1, .int .i64 (hd l).2] 31)
          have hz5 : w1.heap.size ≤ w5.heap.size := Nat.le_trans HNa.out ht5.size
          have HC5 := hid hc5
          clear hc5 h5 ht5 HTa HBa
          go_wp2_with fail
          refine (two_rpop HT5.out hla).mono ?_
          rintro e w6 ⟨rfl, h6, ht6⟩
          have hc6 : w6.heap[w5.heap.size]? = some (.cells #[.int .i64 (hd l).1, .int .i64 (hd l).2] 31 (0, 0)) := (ht6.block w5.heap.size (by rw [World.size_alloc]; omega) hG5).trans HC5.out
          have hz6 : w1.heap.size ≤ w6.heap.size := by have := ht6.size; rw [World.size_alloc] at this; omega
          have hc7 := (Below.heap_alloc w6 (.cells #[.int .i64 (hd l).1, .int .i64 (hd l).2] 46) w5.heap.size (blk_lt hc6)).trans hc6
          have hd7 := heap_alloc_new w6 (.cells #[.int .i64 (hd l).1, .int .i64 (hd l).2] 46)
          have c1 : (w6.alloc (.cells #[.int .i64 (hd l).1, .int .i64 (hd l).2] 46)).cell? ⟨w5.heap.size, 0, none⟩ = some (.int .i64 (hd l).1) := by rw [cell_of_row _ _ 0 _ _ _ hc7]; rfl
          have c2 : (w6.alloc (.cells #[.int .i64 (hd l).1, .int .i64 (hd l).2] 46)).cell? ⟨w5.heap.size, 1, none⟩ = some (.int .i64 (hd l).2) := by rw [cell_of_row _ _ 1 _ _ _ hc7]; rfl
          have c3 : (w6.alloc (.cells #[.int .i64 (hd l).1, .int .i64 (hd l).2] 46)).cell? ⟨w6.heap.size, 0, none⟩ = some (.int .i64 (hd l).1) := by rw [cell_of_row _ _ 0 _ _ _ hd7]; rfl
          have c4 : (w6.alloc (.cells #[.int .i64 (hd l).1, .int .i64 (hd l).2] 46)).cell? ⟨w6.heap.size, 1, none⟩ = some (.int .i64 (hd l).2) := by rw [cell_of_row _ _ 1 _ _ _ hd7]; rfl
          have hlt : l.tail.length ≤ j + 1 := by rw [List.length_tail]; omega
          obtain ⟨Le, nowe, Fe, Ge, HTe, hle, HSe⟩ : ∃ (Le : List (Int × Int)) (nowe : Int) (Fe Ge : Nat → Prop), Hid (Two w1.heap.size Fe Ge (w6.alloc (.cells #[.int .i64 (hd l).1, .int .i64 (hd l).2] 46)) w1.heap.size w2.heap.size Le nowe Le nowe top) ∧ Le.length ≤ j + 1 ∧ Hid (Le.Pairwise fun a b => a.1 ≤ b.1) := ⟨l.tail, nw now l, F, G, hid (h6.below (balloc (Below.refl _ w6) _)), hlt, hid (List.Pairwise.tail HS.out)⟩
          have HBe := hid (balloc (ht6.below HB5.out (fun k hk => HFW.out k (HT5.out.gb k hk).1)) (.cells #[.int .i64 (hd l).1, .int .i64 (hd l).2] 46))
          have HNe : Hid (w1.heap.size ≤ (w6.alloc (.cells #[.int .i64 (hd l).1, .int .i64 (hd l).2] 46)).heap.size) := hid (by rw [World.size_alloc]; omega)
          clear hc6 hc7 hd7 h6 ht6 HC5 HT5 HB5 hG5 hz5 hz6 hlt HSA HCA hF0 hG0 a1 a2 a3
          go_wp2_with fail
          clear c1 c2 c3 c4
          generalize w6.alloc (.cells #[.int .i64 (hd l).1, .int .i64 (hd l).2] 46) = we at HTe HBe HNe ⊢
        all_goals
          obtain ⟨ve, hve⟩ := HTe.out.hm
          obtain ⟨A, ca, rfl, hca⟩ := hve.row.form
          have m1 := hve.cell1
          have m2 := hve.cell2
          have hlen : Le.length ≤ 100000 := by omega
          have HQd : Hid (QL Fe we.drew w1.heap.size Le top nowe) := hid (HTe.out.hq.below ⟨rfl, rfl, rfl, Nat.le_refl _, fun _ _ => rfl⟩)
          have HRd : Hid (SL we.drew 46 2 (.slice A Le.length ca) Le.length (cellsI Le)) := hid (hve.row.drewN 1)
          have HHd : Hid (we.drew.heap[w2.heap.size]? = some (.cells #[.int .i64 top, .int .i64 nowe, .slice A Le.length ca] 43 (0, 0))) := hid hve.head
          clear hve
          first
          | (go_region_held3 (fun w' => w'.cell? ⟨w2.heap.size, 1, none⟩ = some (.int .i64 nowe) ∧ w'.cell? ⟨w2.heap.size, 2, none⟩ = some (.slice A Le.length ca))
              (first | exact ⟨m1, m2⟩ | exact ⟨m18, m28⟩ | exact ⟨m17, m27⟩ | go_keep)
              ((first
                | (go_at_call 14; refine (len_l HQd.out).mono ?_; rintro e w2' ⟨rfl, rfl⟩)
                | (go_at_call 13; refine (now_l HQd.out).mono ?_; rintro e w2' ⟨rfl, rfl⟩)
                | (go_at_call 19; refine (all_p HQd.out hlen).mono ?_; rintro e w7 ⟨A7, c7, rfl, hs7, ho7, hb7⟩; have hh7 := (hb7.block _ (blk_lt HHd.out)).trans HHd.out; have m17 : w7.cell? ⟨w2.heap.size, 1, none⟩ = some (.int .i64 nowe) := (by rw [cell_of_row _ _ 1 _ _ _ hh7]; rfl); have m27 : w7.cell? ⟨w2.heap.size, 2, none⟩ = some (.slice A Le.length ca) := (by rw [cell_of_row _ _ 2 _ _ _ hh7]; rfl); have HS7 := hid hs7; have HB7 := hid hb7; have HH7 := hid hh7; clear hs7 ho7 hb7 hh7)
                | (go_at_call 18; refine (items_l HS7.out hlen).mono ?_; rintro e w8 ⟨A8, c8, rfl, hs8, ho8, hb8⟩; have hh8 := (hb8.block _ (blk_lt HH7.out)).trans HH7.out; have m18 : w8.cell? ⟨w2.heap.size, 1, none⟩ = some (.int .i64 nowe) := (by rw [cell_of_row _ _ 1 _ _ _ hh8]; rfl); have m28 : w8.cell? ⟨w2.heap.size, 2, none⟩ = some (.slice A Le.length ca) := (by rw [cell_of_row _ _ 2 _ _ _ hh8]; rfl); have HS8 := hid hs8; have HB8 := hid (bthen HB7.out hb8); have HR8 := hid (HRd.out.keep (fun k hk => HB8.out.block k (HRd.out.lt k hk))); clear hs8 ho8 hb8 hh8)
                | (go_at_call 17; refine (same_l HS8.out HR8.out hlen).mono ?_; rintro e w9 ⟨rfl, n9, rfl⟩))))
          | fail
          have hTf : Two w1.heap.size Fe Ge (w8.drewN n9) w1.heap.size w2.heap.size Le nowe Le nowe top := ((show Two w1.heap.size Fe Ge we.drew w1.heap.size w2.heap.size Le nowe Le nowe top from HTe.out.drew 1).below HB8.out).drew n9
          have hBf : Below w.heap.size w (w8.drewN n9) := bdrew (bthen (show Below w.heap.size w we.drew from HBe.out.drew) HB8.out) n9
          have hNf : w1.heap.size ≤ (w8.drewN n9).heap.size := Nat.le_trans HNe.out HB8.out.size
          go_wp2_with fail
          go_roundw
          case rel => exact ⟨j + 1, Le, nowe, Fe, Ge, by omega, by simp, hid hTf, hle, HSe, hid hBf, hid hNf⟩
          case measure => simp [intOf]; omega
      · obtain rfl : j = len := by omega
        go_wp2
        go_ret
        exact ⟨rfl, HB1.out⟩
theorem acts_row (top : Int) (a : Option Addr) (len cap : Nat) (acts : Nat → Bool × Int × Int) (w : World) (_ : (Lit.int .i64 top).wf = true) (hz : IsActs w a len cap acts) :
    Calls Try.prog 6 #[.int .i64 top, .slice a len cap] w fun e w' => e = .returned (.bool true) ∧ Below w.heap.size w w' := acts_law top a len cap acts w hz
end Go.Proofs.Ytmbpdboengaclaa
