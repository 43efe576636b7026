/- dawg: freeze. -/
import Derived.Test.YteigplfldhdakaaGreatDoorD23
import Derived.Test.YteigplfldhdakaaGreatDoorD20
set_option linter.unusedVariables false
set_option linter.unusedSimpArgs false
namespace Go.Proofs.YteigplfldhdakaaGreatDoor
open Go.RowKit Go.Shelf Dw MapKept
attribute [local go_sem ↓] Go.wp_at_zero Go.wp_at_succ
def natC (n : Nat) : List Value := [.int .i64 (n : Int)]
theorem natC_len (n : Nat) : (natC n).length = 1 := rfl
/-- v is a slice of numbers: these -/
def NaS (w : World) (v : Value) (L : List Nat) : Prop := SL w 3 1 v L.length (L.flatMap natC)
theorem NaS.below {w W : World} {v : Value} {L : List Nat} (h : NaS w v L) (hb : Below w.heap.size w W) : NaS W v L := SL.keep h fun k hk => hb.block k (SL.lt h k hk)
theorem NaS.dt {B : Nat} {w W : World} {v : Value} {L : List Nat} (h : NaS w v L) (hd : DT B w W) : NaS W v L := SL.dt h hd ⟨by decide, by decide, by decide⟩
theorem NaS.at1 {w : World} {A : Option Addr} {n c : Nat} {L : List Nat} (h : NaS w (.slice A n c) L) {k : Nat} (hk : k < L.length) :
    ∃ g off, A = some ⟨g, off, none⟩ ∧ g < w.heap.size ∧ w.cell? ⟨g, off + k, none⟩ = some (.int .i64 (L.getD k 0 : Nat)) := by
  obtain ⟨g, off, cap, hv, _, _, _, _⟩ := SL.open_ h (by omega)
  obtain ⟨rfl, rfl, rfl⟩ := Value.slice.inj hv
  have hc := SL.cellsK (enc := natC) natC_len h k hk
  rw [getElem!_pos L k hk] at hc
  have := hc 0 _ rfl
  rw [Nat.mul_one, Nat.add_zero] at this
  rw [getD_lt hk]
  exact ⟨g, off, rfl, SL.lt h g rfl, this⟩
def lenOf : Value → Nat | .slice _ n _ => n | _ => 0
theorem DrAt.form {w : World} {B dp mb : Nat} {v : Value} {R : List Rec} {M : List Ke} (h : DrAt w B dp v mb R M) (h0 : 0 < R.length) : ∃ g off c, v = .slice (some ⟨g, off, none⟩) R.length c := by
  obtain ⟨g, off, cap, hv, _, _, _, _⟩ := SL.open_ h.sts h0
  exact ⟨g, off, cap, hv⟩
theorem DrAt.at3' {w : World} {B dp mb g off n c : Nat} {R : List Rec} {M : List Ke} (h : DrAt w B dp (.slice (some ⟨g, off, none⟩) n c) mb R M) {k : Nat} (hk : k < R.length) :
    g < w.heap.size ∧ w.cell? ⟨g, off + k * 3, none⟩ = some R[k].sl ∧ w.cell? ⟨g, off + k * 3 + 1, none⟩ = some (.bool R[k].ends) ∧ w.cell? ⟨g, off + k * 3 + 2, none⟩ = some (.int .i64 R[k].n) := by
  obtain ⟨_, _, _, e⟩ := h.form (by omega)
  obtain ⟨-, rfl, -⟩ := Value.slice.inj e
  exact h.at3 hk
def FrzP (B dp mb : Nat) (v : Value) (n : Nat) (A : Option Addr) (c keep : Nat) (P : List Nat) (pw0 : List Int) (done : List (List Int)) (w : World) (e : Ending) (w' : World) : Prop :=
  e = .returned (.slice A (keep + 1) c) ∧ DT B w w' ∧ ∃ R M, R.length = n ∧ DrAt w' B dp v mb R M ∧ FI R M (P.take (keep + 1)) pw0 done
set_option maxRecDepth 100000 in
set_option maxHeartbeats 16000000 in
theorem freeze_c {w : World} {B dp mb : Nat} {v : Value} {R : List Rec} {M : List Ke} {P : List Nat} {pw0 : List Int} {done : List (List Int)} {A : Option Addr} {c keep : Nat} (h : DrAt w B dp v mb R M) (hf : FI R M P pw0 done)
    (hp : NaS w (.slice A P.length c) P) (hk : keep < P.length) (hn : R.length ≤ 4500000) (hpw : pw0.length ≤ 64) :
    Calls Tryz.prog 113 #[.pointer (some ⟨dp, 0, none⟩), .slice A P.length c, .int .i64 (keep : Int)] w (FrzP B dp mb v R.length A c keep P pw0 done w) := by
  have h0 := hf.lt _ (getD_memN (P := P) (i := 0) (by omega))
  obtain ⟨g, off, cR, rfl⟩ := h.form (by omega)
  obtain ⟨nR, hnR⟩ : ∃ n, R.length = n := ⟨_, rfl⟩
  rw [hnR] at h h0 hn ⊢
  have hle := hf.le
  obtain ⟨mP, hmP⟩ : ∃ m, P.length = m := ⟨_, rfl⟩
  have HPn := hid hmP
  rw [hmP] at hp hk hle ⊢
  have HP := hid hp
  have HD0 := hid h
  have HF0 := hid hf
  have HnR := hid hnR
  have hcap : mP ≤ c := by obtain ⟨_, _, h1, h2⟩ := SL.form hp; obtain ⟨-, h3, h4⟩ := Value.slice.inj h1; omega
  have hwk : IntKind.i64.wrap ((keep : Int) + 1) = (keep : Int) + 1 := by rw [IntKind.wrap_i64]; omega
  clear h hf hp hnR hmP
  go_enter Tryz.func113, Tryz.ntmps113
  go_wp2
  go_step3
  go_wp2
  go_step3
  go_wp2
  go_loopw [1] (fun pv wr => ∃ (m : Nat) (R' : List Rec) (M' : List Ke), pv = .slice A m c ∧ keep < m ∧ m ≤ mP ∧ Hid (R'.length = nR) ∧ Hid (DrAt wr B dp (.slice (some ⟨g, off, none⟩) nR cR) mb R' M') ∧ Hid (FI R' M' (P.take m) pw0 done) ∧ Hid (DT B w wr)) (fun pv _ => lenOf pv)
  case atStart => exact ⟨mP, R, M, rfl, hk, Nat.le_refl _, HnR, HD0, hid (by rw [← HPn.out, List.take_length]; exact HF0.out), hid (DT.refl _ _)⟩
  case round =>
    obtain ⟨m, R', M', rfl, hkm, hmm, HR, HD, HF, HT⟩ := hrel
    clear HD0 HF0
    by_cases hc : keep + 1 < m
    · have hcI : (keep : Int) + 1 < (m : Int) := by omega
      obtain ⟨n1, hn1⟩ : ∃ x, m - 1 = x := ⟨_, rfl⟩
      obtain ⟨n2, hn2⟩ : ∃ x, m - 2 = x := ⟨_, rfl⟩
      have hw1 : IntKind.i64.wrap ((m : Int) - 1) = (n1 : Int) := by rw [IntKind.wrap_i64]; omega
      have hw2 : IntKind.i64.wrap ((n1 : Int) - 1) = (n2 : Int) := by rw [IntKind.wrap_i64]; omega
      have hml : (P.take m).length = m := by rw [List.length_take, HPn.out]; omega
      obtain ⟨P', last, l, r, pi, hP, hP0, hr, ht, hll, hpi, hq, ho, hnm, hmm2⟩ := HF.out.split2 (by omega)
      have hPl : P'.length = n1 := by
        have := congrArg List.length hP
        rw [hml] at this
        simp at this
        omega
      have hP'e : P' = P.take n1 := by
        have h2 := congrArg (List.take n1) hP
        rw [List.take_take, Nat.min_eq_left (by omega), ← hPl, List.take_left' rfl] at h2
        rw [← hPl]; exact h2.symm
      have hlast : P.getD n1 0 = last := by
        have h2 : (P.take m).getD n1 0 = (P' ++ [last]).getD n1 0 := by rw [hP]
        rw [← hPl, getD_end, hPl] at h2
        rw [← h2, getD_lt (by rw [HPn.out]; omega), getD_lt (by rw [hml]; omega), List.getElem_take]
      have hpar : P.getD n2 0 = pi := by
        rw [← hpi, hP'e, getD_lt (by rw [HPn.out]; omega), getD_lt (by rw [List.length_take, HPn.out]; omega), List.getElem_take]
        congr 1
        rw [List.length_take, HPn.out]; omega
      have HPAT := hid (HP.out.dt HT.out)
      obtain ⟨pg, po, hA, hpg, q1⟩ := NaS.at1 HPAT.out (k := n1) (by rw [HPn.out]; omega)
      obtain ⟨pg', po', hA', hpg', q2⟩ := NaS.at1 HPAT.out (k := n2) (by rw [HPn.out]; omega)
      subst hA
      obtain ⟨rfl, rfl⟩ : pg' = pg ∧ po' = po := by cases hA'; exact ⟨rfl, rfl⟩
      rw [hlast] at q1
      rw [hpar] at q2
      have HS := hid hP
      have HS0 := hid hP0
      have HSr := hid hr
      have HSt := hid ht
      have HSo := hid ho
      have HSn := hid hnm
      have HSm := hid hmm2
      have HSe := hid hP'e
      have HSl := hid hPl
      have HPI := hid hpi
      have HSt2 := hid ht
      have hpl := hq
      have HSq := hid hq
      have HSll := hid hll
      rw [HR.out] at hpl hll
      have hw3 : (n2 : Int) < (n1 : Int) := by omega
      have hw4 : (n1 : Int) < (m : Int) := by omega
      have hw5 : (pi : Int) < (nR : Int) := by omega
      have hw6 : (last : Int) < (nR : Int) := by omega
      obtain ⟨b0, b1⟩ := HD.out.box
      obtain ⟨hgw, l0, l1, l2⟩ := HD.out.at3' (k := last) (by rw [HR.out]; exact hll)
      have hEd := HD.out.outs last (by rw [HR.out]; exact hll)
      have hOk := HF.out.ok last (by rw [HR.out]; exact hll)
      have hFew := HF.out.few last (by rw [HR.out]; exact hll)
      have hIn : ∀ e ∈ (R'[last]'(by rw [HR.out]; exact hll)).out, e.2 < 1000000000 := fun e he => by
        have h1 := HF.out.di.inr last e (by rw [dst_at (by rw [HR.out]; exact hll)]; exact he)
        rw [List.length_map, HR.out] at h1
        omega
      have hFew : (R'[last]'(by rw [HR.out]; exact hll)).out.length ≤ nR := Nat.le_trans hFew (Nat.le_of_eq HR.out)
      obtain ⟨dl, hdl⟩ : ∃ x, R'[last]'(by rw [HR.out]; exact hll) = x := ⟨_, rfl⟩
      rw [hdl] at l0 l1 l2 hEd hOk hFew hIn
      have HKEY := hid (fun W (hW : Below wr.heap.size wr W) => key_c (b := dl.ends) (n := dl.n) (hEd.below hW) hOk hIn (by omega))
      have HDL := hid hdl
      obtain ⟨kt, hkt⟩ : ∃ x, keyS (dstR R'[last]) = x := ⟨_, rfl⟩
      have hkd : strOfNums (keyZ (dl.out, dl.ends)) = kt := by rw [← hkt]; exact congrArg (fun d : Rec => strOfNums (keyZ (d.out, d.ends))) hdl.symm
      have hlt1 : keep < n1 := by omega
      have hlt2 : n1 < m := by omega
      have hlt3 : n1 ≤ mP := by omega
      rw [hkd] at HKEY
      have HKT := hid hkt
      clear hEd hOk hFew hIn hdl hkt hkd ho hpi hA' hlast hpar hP'e hPl hP hml hn1 hn2 ht hr hmm2 hnm hP0
      obtain ⟨dsl, dout, dend, dn⟩ := dl
      dsimp only at l0 l1 l2 HKEY
      cases hps : posV (.string kt) M' with
      | none =>
        have HPS := hid hps
        have hFI := HF.out.put2 HS.out HS0.out HSr.out HSt.out HSll.out HPI.out HSq.out HSo.out HSn.out HKT.out hps
        have HFI := hid hFI
        have hlk : ∀ W, Below wr.heap.size wr W → (Instr.lookup 148 (.map (some mb)) (.string kt) true).run Tryz.prog W = .ok (.tuple #[.int .i64 0, .bool false]) W := fun W hW => by
          have := lookV_ok Tryz.underlying148 Tryz.underlying9 (HD.out.below hW).map (k := .string kt) trivial
          rw [HPS.out] at this
          exact this
        have hup : ∀ W, Below wr.heap.size wr W → (Instr.mapUpdate 148 (.map (some mb)) (.string kt) (.int .i64 (last : Int))).run Tryz.prog W = .ok () (mapPutV W mb (putV (.string kt) (last : Int) M')) := fun W hW => updV Tryz.underlying148 Tryz.underlying9 (HD.out.below hW).map (k := .string kt) trivial _
        have HLK := hid hlk
        have HUP := hid hup
        clear hps hFI hlk hup
        go_wp2
        go_quiet (fail)
        go_wp2_with (go_at_call 165; refine (HKEY.out _ (bdrew (Below.refl _ _) nq)).mono ?_; rintro e w2 ⟨rfl, hb2⟩; have HB2 : Hid (Below wr.heap.size wr w2) := hid (bthen (bdrew (Below.refl _ _) nq) hb2); obtain ⟨b0', b1'⟩ := (HD.out.below HB2.out).box; have hl2 := HLK.out w2 HB2.out; have hu2 := HUP.out w2 HB2.out; clear b0 b1 hb2)
        have hput := (HD.out.below HB2.out).put kt (last : Int)
        exact ⟨⟨n1, R', _, rfl, hlt1, hlt3, HR, hid hput.1, hid (by rw [← HSe.out]; exact HFI.out), hid (DT.trans (DT.trans HT.out (DT.of_below HB2.out)) hput.2)⟩, hlt2⟩
      | some i =>
        have HPS := hid hps
        obtain ⟨old, hold, hFI⟩ := HF.out.merge2 HS.out HS0.out HSr.out HSt.out HSll.out HPI.out HSq.out HSo.out HSn.out HSm.out HKT.out hps
        have HFI := hid hFI
        have hlk : ∀ W, Below wr.heap.size wr W → (Instr.lookup 148 (.map (some mb)) (.string kt) true).run Tryz.prog W = .ok (.tuple #[.int .i64 (old : Int), .bool true]) W := fun W hW => by
          have := lookV_ok Tryz.underlying148 Tryz.underlying9 (HD.out.below hW).map (k := .string kt) trivial
          rw [HPS.out] at this
          dsimp only at this
          rw [hold] at this
          exact this
        have HLK := hid hlk
        have hpo := HD.out.outs pi HSq.out
        have hq0 := (HD.out.at3' HSq.out).2.1
        obtain ⟨eg, eo, ec, hev, _, _, hec, hef⟩ := SL.open_ hpo (by rw [HSo.out]; simp)
        have hev : (R'[pi]'hq).sl = .slice (some ⟨eg, eo, none⟩) (l.length + 1) ec := by rw [hev, HSo.out]; simp
        obtain ⟨eL, heL⟩ : ∃ x, l.length + 1 = x := ⟨_, rfl⟩
        obtain ⟨e1, he1⟩ : ∃ x, l.length = x := ⟨_, rfl⟩
        have hpf := HF.out.few pi HSq.out
        have hpf : l.length + 1 ≤ nR := by
          have h1 := Nat.le_trans hpf (Nat.le_of_eq HR.out)
          rw [HSo.out] at h1
          simpa using h1
        have hwe : IntKind.i64.wrap ((eL : Int) - 1) = (e1 : Int) := by rw [IntKind.wrap_i64]; omega
        have hel : (e1 : Int) < (eL : Int) := by omega
        have hpc : ∀ W, Below wr.heap.size wr W → W.cell? ⟨eg, eo + e1 * 2 + 1, none⟩ = some (.int .i64 (last : Int)) ∧ W.frozen? ⟨eg, eo + e1 * 2 + 1, none⟩ = false ∧ W.cell? ⟨g, off + pi * 3, none⟩ = some (.slice (some ⟨eg, eo, none⟩) eL ec) := fun W hW => by
          have h9 := (hpo.below hW)
          rw [hev, HSo.out] at h9
          have hh := h9
          rw [show l.length + 1 = (l ++ [(r, last)]).length by simp] at h9
          obtain ⟨g', o', h1, h2, h3, h4⟩ := EdS.at2 h9 (k := l.length) (by simp)
          cases h1
          simp at h4
          obtain ⟨g', o', c', h5, _, _, _, h8⟩ := SL.open_ h9 (by simp)
          cases h5
          refine ⟨by rw [← he1]; exact h4, h8 _, ?_⟩
          have h10 := ((HD.out.below hW).at3' HSq.out).2.1
          rw [hev, heL] at h10
          exact h10
        have HPC := hid hpc
        have HEV := hid hev
        have HE1 := hid he1
        clear hps hFI hlk hold hpo hq0 hec hef hev hpf heL he1 hpc
        go_wp2
        go_quiet (fail)
        go_wp2_with (go_at_call 165; refine (HKEY.out _ (bdrew (Below.refl _ _) nq)).mono ?_; rintro e w2 ⟨rfl, hb2⟩; have HB2 : Hid (Below wr.heap.size wr w2) := hid (bthen (bdrew (Below.refl _ _) nq) hb2); obtain ⟨b0', b1'⟩ := (HD.out.below HB2.out).box; have hl2 := HLK.out w2 HB2.out; obtain ⟨z0, z1, z2⟩ := HPC.out w2 HB2.out; clear b0 b1 hb2)
        go_region
        go_wp2
        have hed := (HD.out.below HB2.out).edge HSq.out (old := old) HEV.out HSo.out
        rw [HE1.out, ← Nat.add_assoc] at hed
        exact ⟨⟨n1, _, M', rfl, hlt1, hlt3, hid (by rw [set_len]; exact HR.out), hid (hed.1.below (Below.drew (Below.refl _ _))), hid (by rw [← HSe.out]; exact HFI.out), hid (DT.trans (DT.trans HT.out (DT.of_below HB2.out)) (Touch.drew hed.2))⟩, hlt2⟩
    · obtain rfl : m = keep + 1 := by omega
      have hcI : ¬ (keep : Int) + 1 < ((keep + 1 : Nat) : Int) := by omega
      go_wp2
      go_ret
      exact ⟨by simp, HT.out, R', M', HR.out, HD.out, HF.out⟩
end Go.Proofs.YteigplfldhdakaaGreatDoor
/- dawg: the draft grows. -/
namespace Go.Proofs.YteigplfldhdakaaGreatDoor
open Go.RowKit Go.Shelf Dw MapKept
theorem DrAt.fence {w : World} {B dp mb : Nat} {v : Value} {R : List Rec} {M : List Ke} (h : DrAt w B dp v mb R M) : B ≤ w.heap.size := by
  have := blk_lt h.blk
  have := h.new.1
  omega
/-- one state more -/
theorem DrAt.grow {w w2 : World} {B dp mb : Nat} {v : Value} {R : List Rec} {M : List Ke} (h : DrAt w B dp v mb R M) {o : Obj} {A : Option Addr} {c : Nat} (hs : SL w2 160 3 (.slice A (R.length + 1) c) (R.length + 1) (R.flatMap recC ++ recC rec0))
    (hg : (w.alloc o).grownBy w2 v.ownBlock) (ho : ∀ k, (Value.slice A (R.length + 1) c).ownBlock = some k → v.ownBlock = some k ∨ (w.alloc o).heap.size ≤ k) :
    DrAt (w2.setCell ⟨dp, 0, none⟩ (.slice A (R.length + 1) c)) B dp (.slice A (R.length + 1) c) mb (R ++ [rec0]) M ∧ DT B w (w2.setCell ⟨dp, 0, none⟩ (.slice A (R.length + 1) c)) := by
  have hsz : (w.alloc o).heap.size = w.heap.size + 1 := World.size_alloc _ _
  have hB := h.fence
  have hk2 : ∀ k, k < w.heap.size → some k ≠ v.ownBlock → w2.heap[k]? = w.heap[k]? := fun k hk hne => (hg.block k (by omega) hne).trans (Below.heap_alloc w o k hk)
  have hty : ∀ (k : Nat) (cur : Array Value) (e : TypeId), w.heap[k]? = some (.cells cur e (0, 0)) → e ≠ 160 → w2.heap[k]? = w.heap[k]? := fun k cur e hc he => hk2 k (blk_lt hc) fun e2 => by
    obtain ⟨cur', hc'⟩ := SL.typed h.sts k e2.symm
    exact ne_type hc hc' he rfl
  have hd2 : w2.heap[dp]? = some (.cells #[v, .map (some mb)] 163 (0, 0)) := (hty _ _ _ h.blk (by decide)).trans h.blk
  have hset : ∀ (k : Nat) (cur : Array Value) (e : TypeId), w2.heap[k]? = some (.cells cur e (0, 0)) → e ≠ 163 → (w2.setCell ⟨dp, 0, none⟩ (.slice A (R.length + 1) c)).heap[k]? = w2.heap[k]? := fun k cur e hc he => Below.heap_setCell _ _ _ _ (ne_type hc hd2 he)
  have hm2 : w2.heap[mb]? = w.heap[mb]? := hk2 _ (blk_lt h.map.1) fun e2 => by
    obtain ⟨cur', hc'⟩ := SL.typed h.sts mb e2.symm
    exact ne_map hc' h.map.1 rfl
  refine ⟨⟨?_, ?_, ?_, ?_, h.map.keep ((Below.heap_setCell _ _ _ _ (fun e => ne_map h.blk h.map.1 e.symm)).trans hm2), h.new.1, h.new.2.1, ?_, ?_⟩, ?_⟩
  · have := heap_setCell_same w2 dp 0 _ 163 (.slice A (R.length + 1) c) hd2
    exact this
  · rw [List.length_append, List.length_singleton, List.flatMap_append, List.flatMap_singleton]
    exact SL.keep hs fun k hk => by
      obtain ⟨cur, hc⟩ := SL.typed hs k hk
      exact hset k cur _ hc (by decide)
  · intro i hi
    rw [List.length_append, List.length_singleton] at hi
    rcases Nat.lt_or_ge i R.length with hl | hl
    · rw [List.getElem_append_left hl]
      have h1 := h.outs i hl
      have h2 : EdS w2 R[i].sl R[i].out := SL.keep h1 fun k hk => by
        obtain ⟨cur, hc⟩ := SL.typed h1 k hk
        exact hty k cur _ hc (by decide)
      exact SL.keep h2 fun k hk => by
        obtain ⟨cur, hc⟩ := SL.typed h2 k hk
        exact hset k cur _ hc (by decide)
    · rw [List.getElem_append_right hl]
      obtain rfl : i = R.length := by omega
      simp only [Nat.sub_self, List.getElem_cons_zero]
      exact SL.nil _ _ _
  · intro i j hi hj hne k hk
    rw [List.length_append, List.length_singleton] at hi hj
    rcases Nat.lt_or_ge i R.length with hl | hl
    · rw [List.getElem_append_left hl] at hk
      rcases Nat.lt_or_ge j R.length with hl2 | hl2
      · rw [List.getElem_append_left hl2]
        exact h.apart i j hl hl2 hne k hk
      · rw [List.getElem_append_right hl2]
        obtain rfl : j = R.length := by omega
        simp [rec0, Value.ownBlock]
    · rw [List.getElem_append_right hl] at hk
      obtain rfl : i = R.length := by omega
      simp [rec0, Value.ownBlock] at hk
  · intro k hk
    rcases ho k hk with h1 | h1
    · exact h.new.2.2.1 k h1
    · omega
  · intro i hi k hk
    rw [List.length_append, List.length_singleton] at hi
    rcases Nat.lt_or_ge i R.length with hl | hl
    · rw [List.getElem_append_left hl] at hk
      exact h.new.2.2.2 i hl k hk
    · rw [List.getElem_append_right hl] at hk
      obtain rfl : i = R.length := by omega
      simp [rec0, Value.ownBlock] at hk
  · have h1 : DT B w w2 := Touch.grown (Touch.alloc (DT.refl B w) o) hg fun k hk => by
      obtain ⟨cur, hc⟩ := SL.typed h.sts k hk
      exact (DT.refl B w).own (h.new.2.2.1 k hk) (own_of hc (.inl rfl))
    exact Touch.setCell h1 (DT.own h1 h.new.1 (own_of hd2 (.inr (.inl rfl)))) _
/-- one edge more -/
theorem DrAt.link {w w2 : World} {B dp mb g off n c0 : Nat} {R : List Rec} {M : List Ke} (h : DrAt w B dp (.slice (some ⟨g, off, none⟩) n c0) mb R M) {o : Obj} {A : Option Addr} {c p : Nat} (hp : p < R.length) {e : Ed}
    (hs : SL w2 220 2 (.slice A (R[p].out.length + 1) c) (R[p].out.length + 1) (R[p].out.flatMap edC ++ edC e))
    (hg : (w.alloc o).grownBy w2 R[p].sl.ownBlock) (ho : ∀ k, (Value.slice A (R[p].out.length + 1) c).ownBlock = some k → R[p].sl.ownBlock = some k ∨ (w.alloc o).heap.size ≤ k) :
    DrAt (w2.setCell ⟨g, off + p * 3, none⟩ (.slice A (R[p].out.length + 1) c)) B dp (.slice (some ⟨g, off, none⟩) n c0) mb (R.set p { R[p] with sl := .slice A (R[p].out.length + 1) c, out := R[p].out ++ [e] }) M ∧ DT B w (w2.setCell ⟨g, off + p * 3, none⟩ (.slice A (R[p].out.length + 1) c)) := by
  obtain ⟨_, _, _, en⟩ := h.form (by omega)
  obtain ⟨-, hn, -⟩ := Value.slice.inj en
  subst hn
  have hsz : (w.alloc o).heap.size = w.heap.size + 1 := World.size_alloc _ _
  have hB := h.fence
  have hE := h.outs p hp
  have hk2 : ∀ k, k < w.heap.size → some k ≠ R[p].sl.ownBlock → w2.heap[k]? = w.heap[k]? := fun k hk hne => (hg.block k (by omega) hne).trans (Below.heap_alloc w o k hk)
  have hty : ∀ (k : Nat) (cur : Array Value) (e : TypeId), w.heap[k]? = some (.cells cur e (0, 0)) → e ≠ 220 → w2.heap[k]? = w.heap[k]? := fun k cur e hc he => hk2 k (blk_lt hc) fun e2 => by
    obtain ⟨cur', hc'⟩ := SL.typed hE k e2.symm
    exact ne_type hc hc' he rfl
  have hd2 : w2.heap[dp]? = some (.cells #[.slice (some ⟨g, off, none⟩) R.length c0, .map (some mb)] 163 (0, 0)) := (hty _ _ _ h.blk (by decide)).trans h.blk
  have hst2 : SL w2 160 3 (.slice (some ⟨g, off, none⟩) R.length c0) R.length (R.flatMap recC) := SL.keep h.sts fun k hk => by
    obtain ⟨cur, hc⟩ := SL.typed h.sts k hk
    exact hty k cur _ hc (by decide)
  obtain ⟨curg, hgb⟩ := SL.typed hst2 g rfl
  have hset : ∀ (k : Nat) (cur : Array Value) (e : TypeId), w2.heap[k]? = some (.cells cur e (0, 0)) → e ≠ 160 → (w2.setCell ⟨g, off + p * 3, none⟩ (.slice A (R[p].out.length + 1) c)).heap[k]? = w2.heap[k]? := fun k cur e hc he => Below.heap_setCell _ _ _ _ (ne_type hc hgb he)
  have hm2 : w2.heap[mb]? = w.heap[mb]? := hk2 _ (blk_lt h.map.1) fun e2 => by
    obtain ⟨cur', hc'⟩ := SL.typed hE mb e2.symm
    exact ne_map hc' h.map.1 rfl
  obtain ⟨x, hx⟩ : ∃ x : Rec, { R[p] with sl := .slice A (R[p].out.length + 1) c, out := R[p].out ++ [e] } = x := ⟨_, rfl⟩
  have hxs : x.sl = .slice A (R[p].out.length + 1) c := by rw [← hx]
  have hxo : x.out = R[p].out ++ [e] := by rw [← hx]
  rw [hx]
  have hl := set_len (R := R) (i := p) (x := x)
  refine ⟨⟨(hset _ _ _ hd2 (by decide)).trans hd2, ?_, ?_, ?_, h.map.keep ((Below.heap_setCell _ _ _ _ (fun e => ne_map hgb (by rw [hm2]; exact h.map.1) e.symm)).trans hm2), h.new.1, h.new.2.1, h.new.2.2.1, ?_⟩, ?_⟩
  · rw [hl]
    have h1 := SL.set_ hst2 (j := p * 3) (by omega) (.slice A (R[p].out.length + 1) c)
    have h2 := flat_set recC_len R p 0 (.slice A (R[p].out.length + 1) c) x hp (by decide) (by rw [← hx]; simp [recC])
    rw [Nat.add_zero] at h2
    rw [h2] at h1
    exact h1
  · intro i hi
    rw [hl] at hi
    rw [List.getElem_set]
    split
    · rw [hxs, hxo]
      unfold EdS
      rw [List.length_append, List.length_singleton, List.flatMap_append, List.flatMap_singleton]
      exact SL.keep hs fun k hk => by
        obtain ⟨cur, hc⟩ := SL.typed hs k hk
        exact hset k cur _ hc (by decide)
    · next hne =>
      have h1 := h.outs i hi
      have h2 : EdS w2 R[i].sl R[i].out := SL.keep h1 fun k hk => hk2 k (SL.lt h1 k hk) fun e2 => h.apart i p hi hp (fun e3 => hne e3.symm) k hk e2.symm
      exact SL.keep h2 fun k hk => by
        obtain ⟨cur, hc⟩ := SL.typed h2 k hk
        exact hset k cur _ hc (by decide)
  · intro i j hi hj hne k hk
    rw [hl] at hi hj
    rw [List.getElem_set] at hk ⊢
    split at hk
    · next e1 =>
      subst e1
      rw [if_neg hne]
      rw [hxs] at hk
      rcases ho k hk with h1 | h1
      · exact h.apart p j hp hj hne k h1
      · intro e2
        have := SL.lt (h.outs j hj) k e2
        omega
    · split
      · next e1 =>
        subst e1
        rw [hxs]
        intro e2
        rcases ho k e2 with h1 | h1
        · exact h.apart i p hi hp hne k hk h1
        · have := SL.lt (h.outs i hi) k hk
          omega
      · exact h.apart i j hi hj hne k hk
  · intro i hi k hk
    rw [hl] at hi
    rw [List.getElem_set] at hk
    split at hk
    · rw [hxs] at hk
      rcases ho k hk with h1 | h1
      · exact h.new.2.2.2 p hp k h1
      · omega
    · exact h.new.2.2.2 i hi k hk
  · have h1 : DT B w w2 := Touch.grown (Touch.alloc (DT.refl B w) o) hg fun k hk => by
      obtain ⟨cur, hc⟩ := SL.typed hE k hk
      exact (DT.refl B w).own (h.new.2.2.2 p hp k hk) (own_of hc (.inr (.inr rfl)))
    exact Touch.setCell h1 (DT.own h1 (h.new.2.2.1 g rfl) (own_of hgb (.inl rfl))) _
/-- a word ends -/
theorem DrAt.mark {w : World} {B dp mb g off n c0 : Nat} {R : List Rec} {M : List Ke} (h : DrAt w B dp (.slice (some ⟨g, off, none⟩) n c0) mb R M) {p : Nat} (hp : p < R.length) :
    DrAt (w.setCell ⟨g, off + p * 3 + 1, none⟩ (.bool true)) B dp (.slice (some ⟨g, off, none⟩) n c0) mb (R.set p { R[p] with ends := true }) M ∧ DT B w (w.setCell ⟨g, off + p * 3 + 1, none⟩ (.bool true)) := by
  obtain ⟨_, _, _, en⟩ := h.form (by omega)
  obtain ⟨-, hn, -⟩ := Value.slice.inj en
  subst hn
  obtain ⟨curg, hgb⟩ := SL.typed h.sts g rfl
  have hset : ∀ (k : Nat) (cur : Array Value) (e : TypeId), w.heap[k]? = some (.cells cur e (0, 0)) → e ≠ 160 → (w.setCell ⟨g, off + p * 3 + 1, none⟩ (.bool true)).heap[k]? = w.heap[k]? := fun k cur e hc he => Below.heap_setCell _ _ _ _ (ne_type hc hgb he)
  obtain ⟨x, hx⟩ : ∃ x : Rec, { R[p] with ends := true } = x := ⟨_, rfl⟩
  have hxs : x.sl = R[p].sl := by rw [← hx]
  have hxo : x.out = R[p].out := by rw [← hx]
  rw [hx]
  have hl := set_len (R := R) (i := p) (x := x)
  have hsl : ∀ i (hi : i < R.length), ((R.set p x)[i]'(by rw [hl]; exact hi)).sl = R[i].sl ∧ ((R.set p x)[i]'(by rw [hl]; exact hi)).out = R[i].out := fun i hi => by
    rw [List.getElem_set]
    split
    · next e => subst e; exact ⟨hxs, hxo⟩
    · exact ⟨rfl, rfl⟩
  refine ⟨⟨(hset _ _ _ h.blk (by decide)).trans h.blk, ?_, ?_, ?_, h.map.keep (Below.heap_setCell _ _ _ _ (fun e => ne_map hgb h.map.1 e.symm)), h.new.1, h.new.2.1, h.new.2.2.1, ?_⟩, ?_⟩
  · rw [hl]
    have h1 := SL.set_ h.sts (j := p * 3 + 1) (by omega) (.bool true)
    have h2 := flat_set recC_len R p 1 (.bool true) x hp (by decide) (by rw [← hx]; simp [recC])
    rw [h2, ← Nat.add_assoc] at h1
    exact h1
  · intro i hi
    rw [hl] at hi
    rw [(hsl i hi).1, (hsl i hi).2]
    have h1 := h.outs i hi
    exact SL.keep h1 fun k hk => by
      obtain ⟨cur, hc⟩ := SL.typed h1 k hk
      exact hset k cur _ hc (by decide)
  · intro i j hi hj hne k
    rw [hl] at hi hj
    rw [(hsl i hi).1, (hsl j hj).1]
    exact h.apart i j hi hj hne k
  · intro i hi k
    rw [hl] at hi
    rw [(hsl i hi).1]
    exact h.new.2.2.2 i hi k
  · exact Touch.setCell (DT.refl B w) ((DT.refl B w).own (h.new.2.2.1 g rfl) (own_of hgb (.inl rfl))) _
/- dawg: what the draft's growth keeps (plain). -/
/-- the next word: what is left of the path is its beginning too -/
theorem FI.next {R : List Rec} {M : List Ke} {P : List Nat} {pw rs : List Int} {done : List (List Int)} (h : FI R M P pw done) (hP : P.length = comm pw rs + 1) (hlt : comm pw rs < rs.length)
    (hr : comm pw rs = pw.length ∨ (comm pw rs < pw.length ∧ pw.getD (comm pw rs) 0 < rs.getD (comm pw rs) 0)) :
    FI R M P rs done ∧ ∀ h : P.getD (P.length - 1) 0 < R.length, ∀ e ∈ R[P.getD (P.length - 1) 0].out, e.1 < rs.getD (P.length - 1) 0 := by
  have hk : P.length - 1 = comm pw rs := by omega
  have hd := h.di
  rw [hk, comm_take, ← hk] at hd
  have key : ∀ h : P.getD (P.length - 1) 0 < R.length, ∀ e ∈ R[P.getD (P.length - 1) 0].out, e.1 < rs.getD (P.length - 1) 0 := fun hq e he => by
    have h1 := h.top hq e he
    rw [hk] at h1 ⊢
    rcases hr with h2 | ⟨h2, h3⟩
    · omega
    · omega
  exact ⟨⟨h.pos, by omega, hd, h.ok, h.few, h.fz, fun hq e he => ⟨by omega, Int.le_of_lt (key hq e he)⟩, fun e => by omega⟩, key⟩
/-- the path goes on: a new state -/
theorem FI.push {R : List Rec} {M : List Ke} {P : List Nat} {rs : List Int} {done : List (List Int)} {t : Nat} (h : FI R M P rs done) (hP : P.length ≤ rs.length) (ht : P.getD (P.length - 1) 0 = t) (hq : t < R.length) {r : Int} (hr : rs.getD (P.length - 1) 0 = r) (hok : okU r)
    (hlt : ∀ e ∈ R[t].out, e.1 < r) (sl : Value) {x : Rec} (hx : x = { R[t] with sl := sl, out := R[t].out ++ [(r, R.length)] }) :
    FI ((R ++ [rec0]).set t x) M (P ++ [R.length]) rs done := by
  subst ht
  have hp := h.pos
  have hd := h.di.add (r := r) (by rw [dst_at hq]; exact hlt)
  have htk : rs.take ((P ++ [R.length]).length - 1) = rs.take (P.length - 1) ++ [r] := by
    rw [List.length_append, List.length_singleton, show P.length + 1 - 1 = (P.length - 1) + 1 by omega, List.take_add_one, ← hr, List.getD_eq_getElem?_getD, List.getElem?_eq_getElem (show P.length - 1 < rs.length by omega)]
    rfl
  have hS : ((R ++ [rec0]).set (P.getD (P.length - 1) 0) x).map dstR = (R.map dstR ++ [dst0]).set (P.getD (P.length - 1) 0) (((R.map dstR).getD (P.getD (P.length - 1) 0) dst0).1 ++ [(r, (R.map dstR).length)], ((R.map dstR).getD (P.getD (P.length - 1) 0) dst0).2) := by
    rw [map_set, List.map_append, dst_at hq, List.length_map]
    congr 1
    rw [hx]; rfl
  have hl : ((R ++ [rec0]).set (P.getD (P.length - 1) 0) x).length = R.length + 1 := by rw [List.length_set]; simp
  have hne : P.getD (P.length - 1) 0 ≠ R.length := by omega
  have hmem : P.getD (P.length - 1) 0 ∈ P := getD_memN (by omega)
  have hget : ∀ i (hi : i < R.length + 1), ((R ++ [rec0]).set (P.getD (P.length - 1) 0) x)[i]'(by rw [hl]; exact hi) = if P.getD (P.length - 1) 0 = i then x else if h2 : i < R.length then R[i] else rec0 := fun i hi => by
    rw [List.getElem_set]
    split
    · rfl
    · split
      · next h2 => rw [List.getElem_append_left h2]
      · next h2 =>
        obtain rfl : i = R.length := by omega
        rw [List.getElem_append_right (Nat.le_refl _)]
        simp
  have hlast : (P ++ [R.length]).getD ((P ++ [R.length]).length - 1) 0 = R.length := by
    rw [List.length_append, List.length_singleton, show P.length + 1 - 1 = P.length by omega, getD_end]
  refine ⟨by simp, by simp; omega, ?_, ?_, ?_, ?_, ?_, ?_⟩
  · rw [hS, htk]
    rw [List.length_map] at hd ⊢
    exact hd
  · intro i hi
    have hi2 := hi
    rw [hl] at hi2
    rw [hget i hi2]
    split
    · rw [hx]
      intro e he
      rcases List.mem_append.1 he with h1 | h1
      · exact h.ok _ hq e h1
      · rw [List.mem_singleton] at h1; subst h1; exact hok
    · split
      · next h2 => exact h.ok i h2
      · exact fun e he => by simp [rec0] at he
  · intro i hi
    have hi2 := hi
    rw [hl] at hi2
    refine Nat.le_trans ?_ (Nat.le_of_eq hl.symm)
    rw [hget i hi2]
    split
    · rw [hx]
      have := h.few _ hq
      show (R[P.getD (P.length - 1) 0].out ++ [(r, R.length)]).length ≤ _
      rw [List.length_append, List.length_singleton]
      omega
    · split
      · next h2 => have := h.few i h2; omega
      · simp [rec0]
  · intro y hy
    obtain ⟨q, h1, h2, h3⟩ := h.fz y hy
    refine ⟨q, by rw [hl]; omega, ?_, ?_⟩
    · rw [List.mem_append, List.mem_singleton]
      rintro (h4 | h4)
      · exact h2 h4
      · omega
    · rw [hget q (by omega), if_neg (fun e => h2 (by rw [← e]; exact hmem)), dif_pos h1]
      exact h3
  · rw [hlast]
    intro hq2 e he
    rw [hget R.length (by omega), if_neg hne, dif_neg (by omega)] at he
    simp [rec0] at he
  · intro _
    rw [hlast]
    intro hq2
    rw [hget R.length (by omega), if_neg hne, dif_neg (by omega)]
    rfl
/-- behind a push the last state is empty -/
theorem push_last {R : List Rec} {P : List Nat} {t : Nat} {x : Rec} (ht : P.getD (P.length - 1) 0 = t) (hq : t < R.length) : ∀ h : (P ++ [R.length]).getD ((P ++ [R.length]).length - 1) 0 < ((R ++ [rec0]).set t x).length, (((R ++ [rec0]).set t x)[(P ++ [R.length]).getD ((P ++ [R.length]).length - 1) 0]).out = [] := by
  have hlast : (P ++ [R.length]).getD ((P ++ [R.length]).length - 1) 0 = R.length := by
    rw [List.length_append, List.length_singleton, show P.length + 1 - 1 = P.length by omega, getD_end]
  rw [hlast]
  intro h
  rw [List.getElem_set, if_neg (by omega), List.getElem_append_right (Nat.le_refl _)]
  simp [rec0]
/-- a word ends -/
theorem FI.ends {R : List Rec} {M : List Ke} {P : List Nat} {rs : List Int} {done : List (List Int)} {t : Nat} (h : FI R M P rs done) (hP : P.length = rs.length + 1) (ht : P.getD (P.length - 1) 0 = t) (hq : t < R.length) :
    FI (R.set t { R[t] with ends := true }) M P rs (done ++ [rs]) := by
  subst ht
  have hp := h.pos
  have hd := h.di.ends
  rw [dst_at hq, show rs.take (P.length - 1) = rs by rw [List.take_of_length_le]; omega] at hd
  have hmem : P.getD (P.length - 1) 0 ∈ P := getD_memN (by omega)
  obtain ⟨x, hx⟩ : ∃ x : Rec, { R[P.getD (P.length - 1) 0] with ends := true } = x := ⟨_, rfl⟩
  have hxo : x.out = R[P.getD (P.length - 1) 0].out := by rw [← hx]
  have hxd : dstR x = (R[P.getD (P.length - 1) 0].out, true) := by rw [← hx]; rfl
  rw [hx]
  have hl := set_len (R := R) (i := P.getD (P.length - 1) 0) (x := x)
  have hout : ∀ i (hi : i < R.length), ((R.set (P.getD (P.length - 1) 0) x)[i]'(by rw [hl]; exact hi)).out = R[i].out := fun i hi => by
    rw [List.getElem_set]
    split
    · next e => subst e; exact hxo
    · rfl
  refine ⟨hp, by omega, ?_, ?_, ?_, ?_, ?_, ?_⟩
  · rw [map_set, hxd, show rs.take (P.length - 1) = rs by rw [List.take_of_length_le]; omega]
    exact hd
  · intro i hi
    rw [hl] at hi
    rw [hout i hi]
    exact h.ok i hi
  · intro i hi
    have hi2 := hi
    rw [hl] at hi2
    refine Nat.le_trans ?_ (Nat.le_of_eq hl.symm)
    rw [hout i hi2]
    exact h.few i hi2
  · intro y hy
    obtain ⟨q, h1, h2, h3⟩ := h.fz y hy
    refine ⟨q, by rw [hl]; exact h1, h2, ?_⟩
    rw [List.getElem_set, if_neg (fun e => h2 (by rw [← e]; exact hmem))]
    exact h3
  · intro hq2 e he
    rw [hout _ hq] at he
    exact h.top hq e he
  · intro e hq2
    rw [hout _ hq]
    exact h.top0 e hq
/-- where it begins -/
theorem FI.start : FI [rec0] [] [0] [] [] := by
  refine ⟨by simp, by simp, ⟨rfl, rfl, by simp, by simp, by simp, ?_, ?_, by simp⟩, ?_, ?_, by simp, ?_, ?_⟩
  · intro q e he
    exfalso
    rcases q with _ | q <;> simp [dstR, rec0, dst0] at he
  · intro q
    rcases q with _ | q <;> simp [dstR, rec0, dst0, risE]
  · intro i hi e he
    obtain rfl : i = 0 := by simpa using hi
    simp [rec0] at he
  · intro i hi
    obtain rfl : i = 0 := by simpa using hi
    simp [rec0]
  · intro h e he
    simp [rec0] at he
  · intro _ h
    simp [rec0]
end Go.Proofs.YteigplfldhdakaaGreatDoor
/- dawg: make, its rounds. -/
namespace Go.Proofs.YteigplfldhdakaaGreatDoor
open Go.RowKit Go.Shelf Dw MapKept
attribute [local go_sem ↓] Go.wp_at_zero Go.wp_at_succ
theorem info160 : (Tryz.prog.info? 160).map (fun i => (i.zero, i.size, i.bytes)) = some (some (.agg #[.slice none 0 0, .bool false, .int .i64 0]), 3, 40) := by kernel_rfl
theorem info220 : (Tryz.prog.info? 220).map (fun i => (i.zero, i.size, i.bytes)) = some (some (.agg #[.int .i32 0, .int .i64 0]), 2, 16) := by kernel_rfl
theorem info3b : (Tryz.prog.info? 3).map (fun i => (i.zero, i.size, i.bytes)) = some (some (.int .i64 0), 1, 8) := by kernel_rfl
/-- the path grows: the draft stays -/
theorem DrAt.path {w w2 : World} {B dp mb : Nat} {v pv : Value} {R : List Rec} {M : List Ke} {P : List Nat} (h : DrAt w B dp v mb R M) (hp : NaS w pv P) {o : Obj} (hg : (w.alloc o).grownBy w2 pv.ownBlock) : DrAt w2 B dp v mb R M := by
  have hty : ∀ (k : Nat) (x : Obj), w.heap[k]? = some x → (∀ cur, x ≠ .cells cur 3 (0, 0)) → w2.heap[k]? = w.heap[k]? := fun k x hc he => by
    refine (hg.block k (by rw [World.size_alloc]; have := blk_lt hc; omega) fun e2 => ?_).trans (Below.heap_alloc w o k (blk_lt hc))
    obtain ⟨cur', hc'⟩ := SL.typed hp k e2.symm
    rw [hc] at hc'
    exact he cur' (Option.some.inj hc')
  have hs : ∀ {e sz n v xs}, SL w e sz v n xs → e ≠ 3 → SL w2 e sz v n xs := fun h he => SL.keep h fun k hb => by
    obtain ⟨cur, hc⟩ := SL.typed h k hb
    exact hty k _ hc fun cur' e => by cases e; exact he rfl
  exact ⟨(hty _ _ h.blk (fun _ e => by cases e)).trans h.blk, hs h.sts (by decide), fun i hi => hs (h.outs i hi) (by decide), h.apart, h.map.keep (hty _ _ h.map.1 (fun _ e => by cases e)), h.new⟩
theorem RS.path {w w2 : World} {pv v : Value} {P : List Nat} {L : List Int} (h : RS w v L) (hp : NaS w pv P) {o : Obj} (hg : (w.alloc o).grownBy w2 pv.ownBlock) : RS w2 v L :=
  SL.keep h fun k hb => by
    obtain ⟨cur, hc⟩ := SL.typed h k hb
    refine (hg.block k (by rw [World.size_alloc]; have := blk_lt hc; omega) fun e2 => ?_).trans (Below.heap_alloc w o k (blk_lt hc))
    obtain ⟨cur', hc'⟩ := SL.typed hp k e2.symm
    rw [hc] at hc'
    cases hc'
theorem RS.dt {B : Nat} {w W : World} {v : Value} {L : List Int} (h : RS w v L) (hd : DT B w W) : RS W v L := SL.dt h hd ⟨by decide, by decide, by decide⟩
theorem nat_take : ∀ (L : List Nat) (k : Nat), (L.flatMap natC).take (k * 1) = (L.take k).flatMap natC
  | [], k => by simp
  | a :: L, 0 => by simp
  | a :: L, k + 1 => by
    have := nat_take L k
    rw [Nat.mul_one] at this ⊢
    simp only [List.flatMap_cons, List.take_succ_cons, natC, List.cons_append, List.nil_append] at this ⊢
    rw [this]
theorem NaS.take {w : World} {A : Option Addr} {c k : Nat} {L : List Nat} (h : NaS w (.slice A L.length c) L) (hk : k ≤ L.length) : NaS w (.slice A k c) (L.take k) := by
  have h1 := SL.take_ h hk
  rw [nat_take] at h1
  unfold NaS
  rw [List.length_take, Nat.min_eq_left hk]
  exact h1
theorem DrAt.grow_box {w w2 : World} {B dp mb : Nat} {v : Value} {R : List Rec} {M : List Ke} (h : DrAt w B dp v mb R M) {o : Obj} (hg : (w.alloc o).grownBy w2 v.ownBlock) : w2.cell? ⟨dp, 0, none⟩ = some v ∧ w2.frozen? ⟨dp, 0, none⟩ = false := by
  have h1 : w2.heap[dp]? = some (.cells #[v, .map (some mb)] 163 (0, 0)) := by
    refine ((hg.block dp (by rw [World.size_alloc]; have := blk_lt h.blk; omega) fun e2 => ?_).trans (Below.heap_alloc w o dp (blk_lt h.blk))).trans h.blk
    obtain ⟨cur', hc'⟩ := SL.typed h.sts dp e2.symm
    exact ne_type h.blk hc' (by decide) rfl
  exact ⟨by rw [cell_of_row w2 _ 0 _ _ _ h1]; rfl, frozen_of_row w2 _ _ _ _ h1⟩
theorem DrAt.link_box {w w2 : World} {B dp mb g off n c0 : Nat} {R : List Rec} {M : List Ke} (h : DrAt w B dp (.slice (some ⟨g, off, none⟩) n c0) mb R M) {o : Obj} {p : Nat} (hp : p < R.length) (hg : (w.alloc o).grownBy w2 R[p].sl.ownBlock) :
    w2.cell? ⟨dp, 0, none⟩ = some (.slice (some ⟨g, off, none⟩) n c0) ∧ w2.cell? ⟨g, off + p * 3, none⟩ = some R[p].sl ∧ w2.frozen? ⟨g, off + p * 3, none⟩ = false := by
  have hty : ∀ (k : Nat) (cur : Array Value) (e : TypeId), w.heap[k]? = some (.cells cur e (0, 0)) → e ≠ 220 → w2.heap[k]? = w.heap[k]? := fun k cur e hc he => by
    refine (hg.block k (by rw [World.size_alloc]; have := blk_lt hc; omega) fun e2 => ?_).trans (Below.heap_alloc w o k (blk_lt hc))
    obtain ⟨cur', hc'⟩ := SL.typed (h.outs p hp) k e2.symm
    exact ne_type hc hc' he rfl
  have h1 := (hty _ _ _ h.blk (by decide)).trans h.blk
  have hs : SL w2 160 3 (.slice (some ⟨g, off, none⟩) n c0) R.length (R.flatMap recC) := SL.keep h.sts fun k hk => by
    obtain ⟨cur, hc⟩ := SL.typed h.sts k hk
    exact hty k cur _ hc (by decide)
  obtain ⟨g', off', c', hv, _, _, hc, hf⟩ := SL.open_ hs (by omega)
  obtain ⟨h2, rfl, -⟩ := Value.slice.inj hv
  cases h2
  have hcc := SL.cellsK (enc := recC) recC_len hs p hp
  rw [getElem!_pos R p hp] at hcc
  exact ⟨by rw [cell_of_row w2 _ 0 _ _ _ h1]; rfl, hcc 0 _ rfl, hf _⟩
/-- a word's runes in order -/
theorem wd_comm {L : List Wd} (hL : ∀ x ∈ L, lawW x) (hr : risW L) {i : Nat} (hi : i < L.length) {pw : List Int} (hpw : pw = if i = 0 then [] else runesOf (bys (L.getD (i - 1) wd0).1)) :
    comm pw (runesOf (bys L[i].1)) < (runesOf (bys L[i].1)).length ∧ (comm pw (runesOf (bys L[i].1)) = pw.length ∨ (comm pw (runesOf (bys L[i].1)) < pw.length ∧ pw.getD (comm pw (runesOf (bys L[i].1))) 0 < (runesOf (bys L[i].1)).getD (comm pw (runesOf (bys L[i].1))) 0)) := by
  have hv := (hL _ (List.getElem_mem hi)).1.valid
  by_cases h0 : i = 0
  · rw [if_pos h0] at hpw
    subst hpw
    have hp := (hL _ (List.getElem_mem hi)).1.pos
    obtain ⟨h1, h2⟩ := text_runes _ (bys L[i].1) (Nat.le_refl _) hv
    have hne : runesOf (bys L[i].1) ≠ [] := fun e => by
      rw [e] at h1
      have h3 := bys_size L[i].1
      rw [h1] at h3
      simp at h3
      omega
    have hpos := List.length_pos_iff.2 hne
    have hc : comm [] (runesOf (bys L[i].1)) = 0 := by cases runesOf (bys L[i].1) <;> rfl
    rw [hc]
    exact ⟨hpos, .inl rfl⟩
  · rw [if_neg h0] at hpw
    subst hpw
    have h1 := hr (i - 1) i (by omega) hi
    have h2 : L.getD i wd0 = L[i] := getD_lt hi
    have h3 : L.getD (i - 1) wd0 = L[i - 1] := getD_lt (by omega)
    rw [h2] at h1
    have hv2 := (hL (L.getD (i - 1) wd0) (by rw [h3]; exact List.getElem_mem _)).1.valid
    exact text_lt hv2 hv (by
      rw [ltS_eq] at h1
      exact of_decide_eq_true h1)
end Go.Proofs.YteigplfldhdakaaGreatDoor
