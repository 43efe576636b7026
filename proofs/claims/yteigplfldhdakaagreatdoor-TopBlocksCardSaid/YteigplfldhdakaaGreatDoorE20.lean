/- A region that draws its order runs as it was reckoned. -/
import Derived.Test.YteigplfldhdakaaGreatDoorE19
set_option linter.unusedVariables false
set_option linter.unusedSimpArgs false
namespace Go.Proofs.YteigplfldhdakaaGreatDoor.Ev
open Go Go.RowKit
theorem Inv.sub {w0 : World} {γ : Pl} {H1 H2 : List (Nat × AObj)} {n : Nat} {w : World} (h : Inv w0 γ ⟨H1, n⟩ w) (hm : ∀ x, x ∈ H2 → x ∈ H1) (hn : (H2.map (·.1)).Nodup) : Inv w0 γ ⟨H2, n⟩ w :=
  ⟨h.hr.perm hm hn, fun k ⟨q, d, z, h1, h2⟩ => h.im k (by
    obtain ⟨x, hx, rfl⟩ := List.mem_map.1 h1
    exact ⟨x.1, d, z, List.mem_map.2 ⟨x, hm x hx, rfl⟩, h2⟩), h.bel⟩
theorem Fr.permR {γ γ' : Pl} {s : AS} {w w' : World} {H1 H2 : List (Nat × AObj)} {n : Nat} (h : Fr γ s w γ' ⟨H1, n⟩ w') (hm : ∀ x, x ∈ H2 → x ∈ H1) : Fr γ s w γ' ⟨H2, n⟩ w' :=
  ⟨h.sub, h.size, h.keep, fun k ⟨q, d, z, h1, h2⟩ => h.im k (by
    obtain ⟨x, hx, rfl⟩ := List.mem_map.1 h1
    exact ⟨x.1, d, z, List.mem_map.2 ⟨x, hm x hx, rfl⟩, h2⟩), h.same, h.ids, h.nxle⟩
theorem Fr.permL {γ γ' : Pl} {s' : AS} {w w' : World} {H1 H2 : List (Nat × AObj)} {n : Nat} (h : Fr γ ⟨H1, n⟩ w γ' s' w') (hm : ∀ x, x ∈ H1 → x ∈ H2) : Fr γ ⟨H2, n⟩ w γ' s' w' := by
  have hi : ∀ k, Im γ ⟨H1, n⟩ k → Im γ ⟨H2, n⟩ k := fun k ⟨q, d, z, h1, h2⟩ => by
    obtain ⟨x, hx, rfl⟩ := List.mem_map.1 h1
    exact ⟨x.1, d, z, List.mem_map.2 ⟨x, hm x hx, rfl⟩, h2⟩
  exact ⟨h.sub, h.size, fun k hk hn => h.keep k hk fun hh => hn (hi k hh), fun k hk => (h.im k hk).imp_left (hi k), h.same, h.ids, h.nxle⟩
theorem blk_mem {fs : List FlR} {x : Nat × AObj} (h : x ∈ blk fs) : ∃ f ∈ fs, x = (f.b, .cells f.ty f.L) := by
  obtain ⟨f, hf, rfl⟩ := List.mem_map.1 h
  exact ⟨f, hf, rfl⟩
theorem blk_in {fs : List FlR} {f : FlR} (h : f ∈ fs) : (f.b, AObj.cells f.ty f.L) ∈ blk fs := List.mem_map.2 ⟨f, h, rfl⟩
section
variable {P : Program} {ks : Nat → Bool × List FV → Bool} {cf : CF} {ops : Array Oper} {M : List Nat} {dsts : List (Option Nat)} {tm0 : List AV} {base : Nat} {vals : List AV} {fls : List FlR} {chs : List ChR} {s0 : AS}
theorem link_at : ∀ {chs : List ChR} {s0 : AS} {k : Nat} {c : ChR}, Link P ks cf ops s0 chs → chs[k]? = some c → ∃ o, ops[c.i]? = some o ∧ wantA ops o c.env = some true ∧ evO P ks cf o c.env ⟨blk c.fl ++ (lvl s0 chs k).H, (lvl s0 chs k).nx⟩ = some [(c.v, c.after)]
  | c' :: r, s0, 0, c, h, hk => by
    have : c' = c := by simpa using hk
    subst this
    exact h.1
  | c' :: r, s0, k + 1, c, h, hk => by
    have hk' : r[k]? = some c := by simpa using hk
    have := link_at h.2 hk'
    have e : lvl s0 (c' :: r) (k + 1) = lvl c'.after r k := by
      cases k with
      | zero => rfl
      | succ j =>
        have hj : j < r.length := by have := (List.getElem?_eq_some_iff.1 hk').1; omega
        show (match (c' :: r)[j + 1]? with | some c => c.after | none => s0) = (match r[j]? with | some c => c.after | none => c'.after)
        rw [show (c' :: r)[j + 1]? = r[j]? by simp, List.getElem?_eq_getElem hj]
    rw [e]
    exact this
  | [], _, _, _, _, hk => by simp at hk
theorem lvl_succ {k : Nat} {c : ChR} (h : chs[k]? = some c) : lvl s0 chs (k + 1) = c.after := by
  show (match chs[k]? with | some c => c.after | none => s0) = _
  rw [h]
def FD (fls : List FlR) (chs : List ChR) (D : Nat → Bool) (j : Nat) : List FlR := fls.filter fun f => D f.op && !(abs' chs j).contains f.op
def FH (fls : List FlR) (chs : List ChR) (s0 : AS) (D : Nat → Bool) (j : Nat) : List (Nat × AObj) := blk (FD fls chs D j) ++ (lvl s0 chs j).H
structure PF (P : Program) (ks : Nat → Bool × List FV → Bool) (ops : Array Oper) (M : List Nat) (dsts : List (Option Nat)) (tm0 : List AV) (base : Nat) (vals : List AV) (fls : List FlR) (chs : List ChR) (s0 : AS) : Prop where
  he : earlier ops = true
  hm : ∀ (i : Nat) (o : Oper), ops[i]? = some o → M.getD i 0 = maskOf M o
  hv : vals.length = dsts.length
  hd : ∀ (i : Nat) (o : Oper), ops[i]? = some o → dsts[i]? = some o.dst
  hu : ∀ (t k k' : Nat), dsts[k]? = some (some t) → dsts[k']? = some (some t) → k = k'
  ho : ∀ i, i < ops.size → okOp P ks ops M dsts tm0 base vals fls chs s0 i = true
  hc : ∀ k c, chs[k]? = some c → okCh M dsts tm0 vals fls chs k c = true
  hf : (fls.map (·.op)).Nodup
  hb : ∀ f ∈ fls, f.b = base + f.op ∧ f.op < ops.size
theorem pf_of (h : okAll P ks ops M dsts tm0 base vals fls chs s0 = true) : PF P ks ops M dsts tm0 base vals fls chs s0 := by
  unfold okAll at h
  simp only [Bool.and_eq_true, decide_eq_true_eq] at h
  obtain ⟨⟨⟨⟨⟨⟨⟨⟨h1, h2⟩, h3⟩, h4⟩, h5⟩, h6⟩, h7⟩, h8⟩, h9⟩ := h
  have hlt : ∀ i o, ops[i]? = some o → i < ops.size := fun i o h => (Array.getElem?_eq_some_iff.1 h).1
  refine ⟨h1, fun i o ho => ?_, ?_, fun i o ho => ?_, uniq_of h4, fun i hi => List.all_eq_true.1 h6 i (by simpa using hi), fun k c hk => ?_, h8, fun f hf => ?_⟩
  · have := List.all_eq_true.1 h2 i (by simpa using hlt i o ho)
    rw [ho] at this
    exact of_decide_eq_true this
  · rw [h3, h5]; simp
  · rw [h5]
    simp [ho]
  · have := List.all_eq_true.1 h7 (c, k) (by
      rw [List.mem_iff_getElem?]
      exact ⟨k, by simp [List.getElem?_zipIdx, hk]⟩)
    exact this
  · have := List.all_eq_true.1 h9 f hf
    simpa using this
structure DInv (P : Program) (ops : Array Oper) (M : List Nat) (dsts : List (Option Nat)) (tm0 : List AV) (base : Nat) (vals : List AV) (fls : List FlR) (chs : List ChR) (s0 : AS) (γ0 : Pl) (s : AS) (w00 : World) (a0 : Act) (D : Nat → Bool) (γ : Pl) (a : Act) (w : World) : Prop where
  lv : ∃ j, j ≤ chs.length ∧ (∀ k c, chs[k]? = some c → D c.i = decide (k < j)) ∧ HR γ ⟨FH fls chs s0 D j, (lvl s0 chs j).nx⟩ w ∧ Fr γ0 s w00 γ ⟨FH fls chs s0 D j, (lvl s0 chs j).nx⟩ w ∧ base + ops.size ≤ (lvl s0 chs j).nx
  pc : ∀ i, D i = true → ∀ p, (M.getD i 0).testBit p = true → D p = true
  ht : TR γ (tmG D 0 dsts vals tm0) a
  hn : ∀ f ∈ fls, D f.op = false → γ f.b = none
  hd : a.defers = a0.defers
theorem nodup_sub {fs gs : List FlR} {K : List (Nat × AObj)} (h : ((blk fs ++ K).map (·.1)).Nodup) (hm : ∀ f ∈ gs, f ∈ fs) (hb : ∀ f ∈ fs, f.b = base + f.op) (hg : (gs.map (·.op)).Nodup) : ((blk gs ++ K).map (·.1)).Nodup := by
  rw [List.map_append, List.nodup_append] at h ⊢
  refine ⟨?_, h.2.1, fun x hx y hy => h.2.2 x ?_ y hy⟩
  · have e : (blk gs).map (·.1) = (gs.map (·.op)).map (base + ·) := by
      unfold blk
      rw [List.map_map, List.map_map]
      refine List.map_congr_left fun f hf => ?_
      exact hb f (hm f hf)
    rw [e]
    exact List.Pairwise.map _ (fun a b hab e => hab (by omega)) hg
  · obtain ⟨z, hz, rfl⟩ := List.mem_map.1 hx
    obtain ⟨f, hf, rfl⟩ := blk_mem hz
    exact List.mem_map.2 ⟨_, blk_in (hm f hf), rfl⟩
theorem evO_quiet {o : Oper} {tm : List AV} {s : AS} (h : quietOp o.op = true) : evO P ks cf o tm s = aop P ks o (aeval tm) s := by
  unfold evO
  split
  · rename_i ho
    rw [ho] at h
    cases h
  · rfl
/-- a part of what floats, and the rest -/
theorem split_done {D : Nat → Bool} {j : Nat} {fl : List FlR} {γ : Pl} {w : World} {n : Nat} (h : HR γ ⟨FH fls chs s0 D j, n⟩ w) (hfs : ∀ f ∈ fl, f ∈ FD fls chs D j) (hfn : (fl.map (·.op)).Nodup) (hf : (fls.map (·.op)).Nodup) (hb : ∀ f ∈ fls, f.b = base + f.op) :
    let R := blk ((FD fls chs D j).filter fun f => !(fl.map (·.op)).contains f.op)
    let A := blk fl ++ (lvl s0 chs j).H
    (∀ x, x ∈ A ++ R → x ∈ FH fls chs s0 D j) ∧ (∀ x, x ∈ FH fls chs s0 D j → x ∈ A ++ R) ∧ ((A ++ R).map (·.1)).Nodup ∧ (A.map (·.1)).Nodup := by
  intro R A
  have hsub : ∀ f ∈ (FD fls chs D j).filter fun f => !(fl.map (·.op)).contains f.op, f ∈ FD fls chs D j := fun f hf => (List.mem_filter.1 hf).1
  have hFDf : ∀ f ∈ FD fls chs D j, f ∈ fls := fun f hf => (List.mem_filter.1 hf).1
  have hnd : ((A ++ R).map (·.1)).Nodup := by
    have hp : (A ++ R).Perm (blk (fl ++ (FD fls chs D j).filter fun f => !(fl.map (·.op)).contains f.op) ++ (lvl s0 chs j).H) := by
      show (blk fl ++ (lvl s0 chs j).H ++ R).Perm _
      have e : blk (fl ++ (FD fls chs D j).filter fun f => !(fl.map (·.op)).contains f.op) = blk fl ++ R := by simp [blk, R]
      rw [e, List.append_assoc, List.append_assoc]
      exact List.Perm.append_left _ List.perm_append_comm
    refine (List.Perm.nodup_iff (hp.map _)).2 (nodup_sub (base := base) h.nod ?_ (fun f hf => hb f (hFDf f hf)) ?_)
    · intro f hf
      rcases List.mem_append.1 hf with h1 | h1
      · exact hfs f h1
      · exact hsub f h1
    · rw [List.map_append, List.nodup_append]
      refine ⟨hfn, ?_, fun x hx y hy e => ?_⟩
      · exact (((List.filter_sublist (l := FD fls chs D j)).trans List.filter_sublist).map _).nodup hf
      · subst e
        obtain ⟨f, hf2, rfl⟩ := List.mem_map.1 hy
        have := (List.mem_filter.1 hf2).2
        simp only [Bool.not_eq_true', List.contains_eq_mem, decide_eq_false_iff_not] at this
        exact this hx
  refine ⟨fun x hx => ?_, fun x hx => ?_, hnd, ?_⟩
  · rcases List.mem_append.1 hx with h1 | h1
    · rcases List.mem_append.1 h1 with h2 | h2
      · obtain ⟨f, hf2, rfl⟩ := blk_mem h2
        exact List.mem_append_left _ (blk_in (hfs f hf2))
      · exact List.mem_append_right _ h2
    · obtain ⟨f, hf2, rfl⟩ := blk_mem h1
      exact List.mem_append_left _ (blk_in (hsub f hf2))
  · rcases List.mem_append.1 hx with h1 | h1
    · obtain ⟨f, hf2, rfl⟩ := blk_mem h1
      by_cases hin : f.op ∈ fl.map (·.op)
      · obtain ⟨g, hg, hgo⟩ := List.mem_map.1 hin
        have hgf : g = f := by
          have h3 := hFDf f hf2
          have h4 := hFDf g (hfs g hg)
          obtain ⟨p, hp⟩ := List.getElem?_of_mem h3
          obtain ⟨q, hq⟩ := List.getElem?_of_mem h4
          have e1 : (fls.map (·.op))[p]? = some f.op := by simp [hp]
          have e2 : (fls.map (·.op))[q]? = some f.op := by simp [hq, hgo]
          have hpq : p = q := by
            have l1 := (List.getElem?_eq_some_iff.1 e1).1
            refine (List.getElem?_inj l1 hf).1 ?_
            rw [e1, e2]
          subst hpq
          rw [hp] at hq
          exact (Option.some.inj hq).symm
        subst hgf
        exact List.mem_append_left _ (List.mem_append_left _ (blk_in hg))
      · refine List.mem_append_right _ (blk_in (List.mem_filter.2 ⟨hf2, ?_⟩))
        simp only [Bool.not_eq_true', List.contains_eq_mem, decide_eq_false_iff_not]
        exact hin
    · exact List.mem_append_left _ (List.mem_append_right _ h1)
  · rw [List.map_append] at hnd
    exact (List.nodup_append.1 hnd).1
set_option maxHeartbeats 4000000 in
theorem drawn_step {w0 : World} (hK : KeyLaw P ks) (hC : SoundC P w0 cf) (pf : PF P ks ops M dsts tm0 base vals fls chs s0) (hL : Link P ks cf ops s0 chs) {b : Frame} {k : List Item} {cs : List Frame} {γ0 : Pl} {s : AS} {w00 : World} {a0 : Act} {D : Nat → Bool} {γ : Pl} {a : Act} {w : World} {i : Nat} {rest : List Nat} {o : Oper}
    (hi0 : Inv w0 γ0 s w00) (hbase : s.nx ≤ base) (h : DInv P ops M dsts tm0 base vals fls chs s0 γ0 s w00 a0 D γ a w) (ho : ops[i]? = some o) (hn : D i = false) (hdp : ∀ p ∈ depsOf o, D p = true) :
    ∃ γ' a' w', DInv P ops M dsts tm0 base vals fls chs s0 γ0 s w00 a0 (fun q => q == i || D q) γ' a' w' ∧ Steps P (lone (b.atR a (.inRegion ops (i :: rest) :: k)) cs w) (lone (b.atR a' (.inRegion ops rest :: k)) cs w') := by
  have hil : i < ops.size := (Array.getElem?_eq_some_iff.1 ho).1
  obtain ⟨⟨j, hj1, hj2, hhr, hfr, hnx⟩, hpc, htr, hfn, hdf⟩ := h
  have hmi := pf.hm i o ho
  -- all that i hangs on is done; what hangs on i is not
  have hpre : ∀ p, (M.getD i 0).testBit p = true → D p = true := fun p hp => by
    rw [hmi] at hp
    obtain ⟨q, hq, h1 | h1⟩ := mask_closed hp
    · rw [h1]; exact hdp q hq
    · exact hpc q (hdp q hq) p h1
  have hpost : ∀ q, D q = true → (M.getD q 0).testBit i = false ∧ q ≠ i := fun q hq => by
    refine ⟨?_, fun e => by rw [e, hn] at hq; cases hq⟩
    cases ht : (M.getD q 0).testBit i with
    | false => rfl
    | true => have := hpc q hq i ht; rw [hn] at this; cases this
  have henv : TR γ (tmG (M.getD i 0).testBit 0 dsts vals (topI M i 0 dsts tm0)) a := env_le pf.hv pf.hu hpre hpost htr
  have hpc' : ∀ q, (q == i || D q) = true → ∀ p, (M.getD q 0).testBit p = true → (p == i || D p) = true := fun q hq p hp => by
    rw [Bool.or_eq_true] at hq ⊢
    rcases hq with hq | hq
    · have : q = i := by simpa using hq
      subst this
      exact .inr (hpre p hp)
    · exact .inr (hpc q hq p hp)
  have hInv : Inv w0 γ ⟨FH fls chs s0 D j, (lvl s0 chs j).nx⟩ w := hi0.step hhr hfr
  have hdi := pf.hd i o ho
  have hok := pf.ho i hil
  unfold okOp at hok
  rw [ho] at hok
  simp only at hok
  by_cases hch : (chs.map (·.i)).contains i = true
  · -- one of the chain
    have hmem : i ∈ chs.map (·.i) := by simpa using hch
    obtain ⟨c, hc, hci⟩ := List.mem_map.1 hmem
    obtain ⟨q, hq⟩ := List.getElem?_of_mem hc
    have hcq := pf.hc q c hq
    unfold okCh at hcq
    simp only [Bool.and_eq_true, decide_eq_true_eq] at hcq
    obtain ⟨⟨⟨⟨⟨c1, c2⟩, c3⟩, c4⟩, c5⟩, c6⟩ := hcq
    obtain ⟨o', ho', hwn, hev⟩ := link_at hL hq
    rw [hci] at ho' c1 c2 c3 c4
    rw [ho] at ho'
    cases ho'
    -- its level is j
    have hjq : j = q := by
      have h1 := hj2 q c hq
      rw [hci, hn] at h1
      have h2 : ¬ q < j := of_decide_eq_false h1.symm
      rcases Nat.lt_or_ge j q with h3 | h3
      · exfalso
        obtain ⟨q', rfl⟩ : ∃ q', q = q' + 1 := ⟨q - 1, by omega⟩
        have hq'l : q' < chs.length := by have := (List.getElem?_eq_some_iff.1 hq).1; omega
        have hq' := List.getElem?_eq_getElem hq'l
        have hc' := pf.hc q' _ hq'
        unfold okCh at hc'
        simp only [Bool.and_eq_true] at hc'
        have h6 := hc'.2
        rw [hq] at h6
        simp only at h6
        rw [hci] at h6
        have h7 := hpre _ h6
        rw [hj2 q' _ hq'] at h7
        have := of_decide_eq_true h7
        omega
      · omega
    subst hjq
    have hq1 : j < chs.length := (List.getElem?_eq_some_iff.1 hq).1
    have hcf : ∀ f ∈ c.fl, f ∈ FD fls chs D j := fun f hf => by
      have := List.all_eq_true.1 c3 f hf
      simp only [Bool.and_eq_true, decide_eq_true_eq] at this
      exact List.mem_filter.2 ⟨this.1.1, by rw [hpre _ this.1.2]; simpa using this.2⟩
    obtain ⟨m1, m2, m3, m4⟩ := split_done (fl := c.fl) hhr hcf c5 pf.hf (fun f hf => (pf.hb f hf).1)
    have hA : Inv w0 γ ⟨blk c.fl ++ (lvl s0 chs j).H, (lvl s0 chs j).nx⟩ w := hInv.sub (fun x hx => m1 x (List.mem_append_left _ hx)) m4
    have htc : TR γ c.env a := by rw [c1]; exact henv
    obtain ⟨v, s', u, w', hvm, ⟨γ', k1, k2, k3⟩, hst⟩ := evO_ok hK hC (b := b) (k := k) (cs := cs) (rest := rest) hA htc ho (wantA_ok htc hwn) hev
    have hvs : v = c.v ∧ s' = c.after := by simpa using hvm
    obtain ⟨rfl, rfl⟩ := hvs
    obtain ⟨g1, g2⟩ := frame (hhr.perm m1 m3) k1 k2
    have hfi : ∀ f ∈ fls, (f.op == i) = false := fun f hf => by
      have := List.all_eq_true.1 c4 f hf
      simpa [bne] using this
    have eFD : FD fls chs (fun q => q == i || D q) (j + 1) = (FD fls chs D j).filter fun f => !(c.fl.map (·.op)).contains f.op := by
      unfold FD
      rw [List.filter_filter]
      refine List.filter_congr fun f hf => ?_
      have ea : abs' chs (j + 1) = abs' chs j ++ c.fl.map (·.op) := by
        unfold abs'
        rw [List.take_add_one, hq, List.flatMap_append, List.map_append]
        simp
      dsimp only
      rw [ea, hfi f hf, Bool.false_or]
      simp only [List.contains_eq_mem, List.mem_append]
      cases D f.op <;> by_cases p1 : f.op ∈ abs' chs j <;> by_cases p2 : f.op ∈ c.fl.map (·.op) <;> simp [p1, p2]
    have eH : FH fls chs s0 (fun q => q == i || D q) (j + 1) = blk ((FD fls chs D j).filter fun f => !(c.fl.map (·.op)).contains f.op) ++ c.after.H := by
      unfold FH
      rw [eFD, lvl_succ hq]
    have hmem' : ∀ x, x ∈ FH fls chs s0 (fun q => q == i || D q) (j + 1) → x ∈ c.after.H ++ blk ((FD fls chs D j).filter fun f => !(c.fl.map (·.op)).contains f.op) := fun x hx => by
      rw [eH] at hx
      rcases List.mem_append.1 hx with h1 | h1
      · exact List.mem_append_right _ h1
      · exact List.mem_append_left _ h1
    have hnd' : ((FH fls chs s0 (fun q => q == i || D q) (j + 1)).map (·.1)).Nodup := by
      rw [eH]
      exact (List.Perm.nodup_iff (List.perm_append_comm.map _)).1 g1.nod
    refine ⟨γ', a.put o.dst u, w', ⟨⟨j + 1, hq1, fun q c' hq' => ?_, ?_, ?_, ?_⟩, hpc', ?_, fun f hf hD => ?_, (put_defers _ _ _).trans hdf⟩, hst⟩
    · by_cases hqj : q = j
      · subst hqj
        rw [hq] at hq'
        cases hq'
        have : (c.i == i) = true := by simp [hci]
        rw [this]
        simp
      · have hci' : (c'.i == i) = false := by
          cases he : (c'.i == i) with
          | false => rfl
          | true =>
            exfalso
            have he' : c'.i = i := by simpa using he
            have h1 := hj2 q c' hq'
            rw [he', hn] at h1
            have h2 : ¬ q < j := of_decide_eq_false h1.symm
            obtain ⟨q', rfl⟩ : ∃ q', q = q' + 1 := ⟨q - 1, by omega⟩
            have hq'l : q' < chs.length := by have := (List.getElem?_eq_some_iff.1 hq').1; omega
            have hq2 := List.getElem?_eq_getElem hq'l
            have hc2 := pf.hc q' _ hq2
            unfold okCh at hc2
            simp only [Bool.and_eq_true] at hc2
            have h6 := hc2.2
            rw [hq'] at h6
            simp only at h6
            rw [he'] at h6
            have h7 := hpre _ h6
            rw [hj2 q' _ hq2] at h7
            have := of_decide_eq_true h7
            omega
        rw [hci', Bool.false_or, hj2 q c' hq']
        by_cases h1 : q < j
        · rw [decide_eq_true h1, decide_eq_true (by omega)]
        · rw [decide_eq_false h1, decide_eq_false (by omega)]
    · rw [lvl_succ hq]
      exact g1.perm hmem' hnd'
    · rw [lvl_succ hq]
      exact hfr.trans ((g2.permL m1).permR hmem')
    · rw [lvl_succ hq]
      exact Nat.le_trans hnx k2.nxle
    · exact tmG_more pf.hv pf.hu hdi c2 (All2.mono (fun _ _ x => RA.mono k2.sub x) htr) k3
    · rw [Bool.or_eq_false_iff] at hD
      have h1 := hfn f hf hD.2
      cases hg : γ' f.b with
      | none => rfl
      | some x =>
        rcases k2.ids _ _ hg with h2 | h2
        · rw [h1] at h2; cases h2
        · have h3 := (pf.hb f hf)
          have h4 : (lvl s0 chs j).nx ≤ f.b := h2
          omega
  · rw [if_neg hch] at hok
    rw [Bool.or_eq_true] at hok
    have hnch : ∀ (q : Nat) (c : ChR), chs[q]? = some c → c.i ≠ i := fun q c hq e => hch (by
      have : i ∈ chs.map (·.i) := List.mem_map.2 ⟨c, List.mem_of_getElem? hq, e⟩
      simpa using this)
    have hlv' : ∀ (q : Nat) (c : ChR), chs[q]? = some c → (c.i == i || D c.i) = decide (q < j) := fun q c hq => by
      have : (c.i == i) = false := by simpa using hnch q c hq
      rw [this, Bool.false_or]
      exact hj2 q c hq
    rcases hok with hok | hok
    · rw [Bool.and_eq_true] at hok
      obtain ⟨hnf, hok⟩ := hok
      have hfi : ∀ f ∈ fls, (f.op == i) = false := fun f hf => by
        have := List.all_eq_true.1 hnf f hf
        simpa [bne] using this
      have eFD : FD fls chs (fun q => q == i || D q) j = FD fls chs D j := by
        unfold FD
        refine List.filter_congr fun f hf => ?_
        dsimp only
        rw [hfi f hf, Bool.false_or]
      have eH : FH fls chs s0 (fun q => q == i || D q) j = FH fls chs s0 D j := by unfold FH; rw [eFD]
      split at hok
      · cases hok
      · -- its guard is off
        rename_i hw
        have hvi := of_decide_eq_true hok
        have hwc := wantA_ok henv hw
        have hs := stepR_op_skip (P := P) (b := b) (a := a) (k := k) (cs := cs) (w := w) (ops := ops) (i := i) (rest := rest) (by simp [ho, hwc])
        simp only [ho, Option.bind_some] at hs
        refine ⟨γ, a.put o.dst undef, w, ⟨⟨j, hj1, hlv', by rw [eH]; exact hhr, by rw [eH]; exact hfr, hnx⟩, hpc', tmG_more pf.hv pf.hu hdi hvi htr (und_rel γ), fun f hf hD => ?_, (put_defers _ _ _).trans hdf⟩, .one hs⟩
        rw [Bool.or_eq_false_iff] at hD
        exact hfn f hf hD.2
      · -- it leaves the blocks alone
        rename_i hw
        rw [Bool.and_eq_true] at hok
        obtain ⟨hq, hlev⟩ := hok
        have hal : allowedJ M (chs.map (·.i)) i j = true := by
          unfold allowedJ
          rw [List.all_eq_true]
          intro x hx
          obtain ⟨p, hp⟩ := List.getElem?_of_mem hx
          rw [List.getElem?_zipIdx, List.getElem?_map] at hp
          obtain ⟨c0, hc0, rfl⟩ := Option.map_eq_some_iff.1 hp
          obtain ⟨c, hc, rfl⟩ := Option.map_eq_some_iff.1 hc0
          simp only [Nat.zero_add]
          rw [Bool.and_eq_true]
          constructor
          · cases h1 : (M.getD i 0).testBit c.i with
            | false => rfl
            | true =>
              have h2 := hpre _ h1
              rw [hj2 p c hc] at h2
              rw [h2]
              rfl
          · cases h1 : (M.getD c.i 0).testBit i with
            | false => rfl
            | true =>
              have h3 : ¬ p < j := fun h => by
                have h2 := hj2 p c hc
                rw [decide_eq_true h] at h2
                have := (hpost _ h2).1
                rw [h1] at this
                cases this
              rw [decide_eq_true (show j ≤ p by omega)]
              rfl
        have h1 := List.all_eq_true.1 hlev j (by simp; omega)
        rw [hal] at h1
        simp only [Bool.not_true, Bool.false_or] at h1
        split at h1
        · rename_i v sx he
          have hvi := of_decide_eq_true h1
          have hcf : ∀ f ∈ avail fls (abs' chs j) (M.getD i 0), f ∈ FD fls chs D j := fun f hf => by
            obtain ⟨h2, h3⟩ := List.mem_filter.1 hf
            rw [Bool.and_eq_true] at h3
            exact List.mem_filter.2 ⟨h2, by rw [hpre _ h3.1]; exact h3.2⟩
          obtain ⟨m1, m2, m3, m4⟩ := split_done (fl := avail fls (abs' chs j) (M.getD i 0)) hhr hcf ((List.filter_sublist.map _).nodup pf.hf) pf.hf (fun f hf => (pf.hb f hf).1)
          have hA : Inv w0 γ ⟨blk (avail fls (abs' chs j) (M.getD i 0)) ++ (lvl s0 chs j).H, (lvl s0 chs j).nx⟩ w := hInv.sub (fun x hx => m1 x (List.mem_append_left _ hx)) m4
          obtain ⟨v', s', u, w', hvm, ⟨γ', k1, k2, k3⟩, hst⟩ := evO_ok hK hC (b := b) (k := k) (cs := cs) (rest := rest) hA henv ho (wantA_ok henv hw) (by rw [evO_quiet hq]; exact he)
          obtain ⟨v2, hv2⟩ := quiet_same hq he
          have hvs : v' = v ∧ s' = sx := by simpa using hvm
          obtain ⟨rfl, rfl⟩ := hvs
          have hsx : s' = ⟨blk (avail fls (abs' chs j) (M.getD i 0)) ++ (lvl s0 chs j).H, (lvl s0 chs j).nx⟩ := by
            have := List.cons.inj hv2
            exact (Prod.mk.inj this.1).2
          subst hsx
          obtain ⟨g1, g2⟩ := frame (hhr.perm m1 m3) k1 k2
          refine ⟨γ', a.put o.dst u, w', ⟨⟨j, hj1, hlv', by rw [eH]; exact g1.perm m2 hhr.nod, by rw [eH]; exact hfr.trans ((g2.permL m1).permR m2), hnx⟩, hpc', tmG_more pf.hv pf.hu hdi hvi (All2.mono (fun _ _ x => RA.mono k2.sub x) htr) k3, fun f hf hD => ?_, (put_defers _ _ _).trans hdf⟩, hst⟩
          rw [Bool.or_eq_false_iff] at hD
          have h2 := hfn f hf hD.2
          cases hg : γ' f.b with
          | none => rfl
          | some x =>
            rcases k2.ids _ _ hg with h3 | h3
            · rw [h2] at h3; cases h3
            · have h4 := (pf.hb f hf)
              have h5 : (lvl s0 chs j).nx ≤ f.b := h3
              omega
        · cases h1
    · -- a new block
      split at hok
      · rename_i ty L sh hw hfo
        rw [Bool.and_eq_true] at hok
        have hf0 := of_decide_eq_true hok.1
        have hvi := of_decide_eq_true hok.2
        obtain ⟨C, hrun, hrel, hfit, hnd⟩ := fop_ok (P := P) (w := w) (aeval_ok henv) hfo
        have hg0 : γ (base + i) = none := hfn _ hf0 hn
        obtain ⟨n1, n2, n3, n4⟩ := HR.newAt (ty := ty) hhr hg0 (by omega) hrel hfit
        have hsub := ext_sub (x := (w.heap.size, 0, C.size)) hg0
        have hstp := stepGR_op (P := P) (b := b) (k := k) (cs := cs) (w := w) (rest := rest) ho (wantA_ok henv hw)
        have hfin : ∀ v, (b.atR a (.inRegion ops (i :: rest) :: k)).finish v = b.atR (a.put o.dst v) (.inRegion ops rest :: k) := by
          intro v; rw [Frame.finish_atR, ho]; rfl
        have hnab : i ∉ abs' chs j := fun hin => by
          unfold abs' at hin
          obtain ⟨f, hf, hfi⟩ := List.mem_map.1 hin
          obtain ⟨c, hc, hfc⟩ := List.mem_flatMap.1 hf
          obtain ⟨p, hp⟩ := List.getElem?_of_mem hc
          rw [List.getElem?_take] at hp
          split at hp
          · rename_i hpj
            have h1 := hj2 p c hp
            rw [decide_eq_true hpj] at h1
            have hc2 := pf.hc p c hp
            unfold okCh at hc2
            simp only [Bool.and_eq_true] at hc2
            have h6 := List.all_eq_true.1 hc2.1.1.1.2 f hfc
            simp only [Bool.and_eq_true] at h6
            have h7 := hpc c.i h1 f.op h6.1.2
            rw [hfi, hn] at h7
            cases h7
          · cases hp
        have huniq : ∀ f ∈ fls, f.op = i → f = ⟨i, base + i, ty, L⟩ := fun f hf hfi => by
          obtain ⟨p, hp⟩ := List.getElem?_of_mem hf
          obtain ⟨q, hq⟩ := List.getElem?_of_mem hf0
          have e1 : (fls.map (·.op))[p]? = some i := by simp [hp, hfi]
          have e2 : (fls.map (·.op))[q]? = some i := by simp [hq]
          have hpq : p = q := by
            have l1 := (List.getElem?_eq_some_iff.1 e1).1
            refine (List.getElem?_inj l1 pf.hf).1 ?_
            rw [e1, e2]
          subst hpq
          rw [hp] at hq
          exact Option.some.inj hq
        have hFD' : ∀ f ∈ FD fls chs (fun q => q == i || D q) j, f ∈ (⟨i, base + i, ty, L⟩ : FlR) :: FD fls chs D j := fun f hf => by
          obtain ⟨h1, h2⟩ := List.mem_filter.1 hf
          dsimp only at h2
          rw [Bool.and_eq_true, Bool.or_eq_true] at h2
          rcases h2.1 with h3 | h3
          · rw [huniq f h1 (by simpa using h3)]
            exact List.mem_cons_self ..
          · exact List.mem_cons_of_mem _ (List.mem_filter.2 ⟨h1, by rw [h3]; exact h2.2⟩)
        have hmem' : ∀ x, x ∈ FH fls chs s0 (fun q => q == i || D q) j → x ∈ (base + i, AObj.cells ty L) :: FH fls chs s0 D j := fun x hx => by
          rcases List.mem_append.1 hx with h1 | h1
          · obtain ⟨f, hf, rfl⟩ := blk_mem h1
            rcases List.mem_cons.1 (hFD' f hf) with rfl | h2
            · exact List.mem_cons_self ..
            · exact List.mem_cons_of_mem _ (List.mem_append_left _ (blk_in h2))
          · exact List.mem_cons_of_mem _ (List.mem_append_right _ h1)
        have hnd' : ((FH fls chs s0 (fun q => q == i || D q) j).map (·.1)).Nodup := by
          refine nodup_sub (base := base) (fs := ⟨i, base + i, ty, L⟩ :: FD fls chs D j) n1.nod hFD' (fun f hf => ?_) ((List.filter_sublist.map _).nodup pf.hf)
          rcases List.mem_cons.1 hf with rfl | h2
          · rfl
          · exact (pf.hb f (List.mem_filter.1 h2).1).1
        refine ⟨ext γ (base + i) (w.heap.size, 0, C.size), a.put o.dst (sh.val w.heap.size), w.alloc (.cells C ty), ⟨⟨j, hj1, hlv', n1.perm hmem' hnd', ?_, hnx⟩, hpc', tmG_more pf.hv pf.hu hdi hvi (All2.mono (fun _ _ x => RA.mono hsub x) htr) n3, fun f hf hD => ?_, (put_defers _ _ _).trans hdf⟩, .one (step_lone_go ?_)⟩
        · refine ⟨hfr.sub.trans hsub, Nat.le_trans hfr.size (by simp), fun q hq hnq => ?_, fun q ⟨p, d, z, h1, h2⟩ => ?_, hfr.same, fun q x hq => ?_, hfr.nxle⟩
          · exact (n2 q (Nat.lt_of_lt_of_le hq hfr.size)).trans (hfr.keep q hq hnq)
          · obtain ⟨x, hx, rfl⟩ := List.mem_map.1 h1
            rcases n4 q ⟨x.1, d, z, List.mem_map.2 ⟨x, hmem' x hx, rfl⟩, h2⟩ with h3 | h3
            · exact hfr.im q h3
            · exact .inr (Nat.le_trans hfr.size h3)
          · unfold ext at hq
            by_cases hqb : q = base + i
            · exact .inr (by omega)
            · rw [if_neg hqb] at hq
              exact hfr.ids q x hq
        · rw [Bool.or_eq_false_iff] at hD
          have h1 : f.op ≠ i := by simpa using hD.1
          unfold ext
          rw [if_neg (by have := (pf.hb f hf).1; omega)]
          exact hfn f hf hD.2
        · rw [hstp, Oper.semAt_eq _ _ _ hnd, ← hfin]
          simp [stepG.apply, hrun]
      · cases hok
end
end Go.Proofs.YteigplfldhdakaaGreatDoor.Ev
/- Regions, drawn or not; a function's run in the machine, reckoned. -/
namespace Go.Proofs.YteigplfldhdakaaGreatDoor.Ev
open Go Go.RowKit
theorem tmG_congr {D D' : Nat → Bool} : ∀ {p : Nat} {ds : List (Option Nat)} {vs tm : List AV}, (∀ k, k < ds.length → D (p + k) = D' (p + k)) → tmG D p ds vs tm = tmG D' p ds vs tm
  | _, [], _, _, _ => rfl
  | _, _ :: _, [], _, _ => rfl
  | p, d :: ds, v :: vs, tm, h => by
    show tmG D (p + 1) ds vs (if D p then putA d v tm else tm) = tmG D' (p + 1) ds vs (if D' p then putA d v tm else tm)
    have h0 := h 0 (by simp)
    rw [Nat.add_zero] at h0
    rw [h0]
    exact tmG_congr fun k hk => by
      have := h (k + 1) (by simp; omega)
      rw [show p + 1 + k = p + (k + 1) by omega]
      exact this
theorem tmG_off {ds : List (Option Nat)} {vs tm : List AV} {p : Nat} : tmG (fun _ => false) p ds vs tm = tm := by
  apply List.ext_getElem?
  intro t
  exact tmG_none fun _ _ => rfl
section
variable {P : Program} {ks : Nat → Bool × List FV → Bool} {cf : CF} {ops : Array Oper} {M : List Nat} {dsts : List (Option Nat)} {tm0 : List AV} {base : Nat} {vals : List AV} {fls : List FlR} {chs : List ChR} {s0 : AS} {w0 : World}
theorem drawn_all (hK : KeyLaw P ks) (hC : SoundC P w0 cf) (pf : PF P ks ops M dsts tm0 base vals fls chs s0) (hL : Link P ks cf ops s0 chs) {b : Frame} {k : List Item} {cs : List Frame} {γ0 : Pl} {s : AS} {w00 : World} {a0 : Act} (hi0 : Inv w0 γ0 s w00) (hbase : s.nx ≤ base) :
    ∀ {l : List Nat} {D : Nat → Bool}, Sch ops D l → ∀ {γ : Pl} {a : Act} {w : World}, DInv P ops M dsts tm0 base vals fls chs s0 γ0 s w00 a0 D γ a w →
    ∃ D' γ' a' w', (∀ i, i < ops.size → D' i = true) ∧ DInv P ops M dsts tm0 base vals fls chs s0 γ0 s w00 a0 D' γ' a' w' ∧ Steps P (lone (b.atR a (.inRegion ops l :: k)) cs w) (lone (b.atR a' k) cs w') := by
  intro l D hs
  induction hs with
  | nil D h => exact fun {γ a w} hd => ⟨D, γ, a, w, h, hd, .one stepR_region_end⟩
  | cons D i o rest ho hn hdp _ ih =>
    intro γ a w hd
    obtain ⟨γ1, a1, w1, h1, h2⟩ := drawn_step hK hC pf hL (b := b) (k := k) (cs := cs) (rest := rest) hi0 hbase hd ho hn hdp
    obtain ⟨D', γ', a', w', k1, k2, k3⟩ := ih h1
    exact ⟨D', γ', a', w', k1, k2, h2.trans k3⟩
theorem evD_ok (hmix : P.follows .mixedOrders = true) (hK : KeyLaw P ks) (hC : SoundC P w0 cf) {b : Frame} {a : Act} {k : List Item} {cs : List Frame} {γ : Pl} {s : AS} {w : World} {tm : List AV} {outs : List (List AV × AS)} {id : Nat}
    (hi : Inv w0 γ s w) (ht : TR γ tm a) (he : evD P ks cf ops tm s = some outs) :
    ∃ tm' s' γ' w' a', (tm', s') ∈ outs ∧ HR γ' s' w' ∧ Fr γ s w γ' s' w' ∧ TR γ' tm' a' ∧ a'.defers = a.defers ∧ Steps P (lone (b.atR a (.code (.region id ops true) :: k)) cs w) (lone (b.atR a' k) cs w') := by
  unfold evD at he
  dsimp only at he
  split at he
  · rename_i vals fls chs hp
    split at he
    · rename_i hok
      cases he
      have hL := p1_link P ks cf ops (masks ops.toList []) (ops.toList.map (·.dst)) tm s.nx (List.range ops.size) hp
      have pf := pf_of hok
      have hstep : step P (lone (b.atR a (.code (.region id ops true) :: k)) cs w) = .next (lone (b.atR a (.inRegion ops (Region.linearise .any ops (w.tape w.drawn (.order b.fn id))) :: k)) cs w.drew) := by
        have := stepR_region_draw (P := P) (b := b) (a := a) (k := k) (cs := cs) (w := w) (ops := ops) (id := id)
        rw [hmix] at this
        have e : Region.schedule true ops (w.tape w.drawn (.order b.fn id)) = Region.linearise .any ops (w.tape w.drawn (.order b.fn id)) := by
          unfold Region.schedule
          simp
        rw [e] at this
        exact this
      have hFD0 : FD fls chs (fun _ => false) 0 = [] := by
        unfold FD
        simp
      have hFH0 : FH fls chs (⟨s.H, s.nx + ops.size⟩ : AS) (fun _ => false) 0 = s.H := by
        unfold FH
        rw [hFD0]
        rfl
      have hd0 : DInv P ops (masks ops.toList []) (ops.toList.map (·.dst)) tm s.nx vals fls chs ⟨s.H, s.nx + ops.size⟩ γ s w a (fun _ => false) γ a w.drew := by
        refine ⟨⟨0, Nat.zero_le _, fun _ _ _ => rfl, ?_, ?_, Nat.le_refl _⟩, fun i h => (by cases h), (by rw [tmG_off]; exact ht), fun f hf _ => ?_, rfl⟩
        · rw [hFH0]
          exact ⟨fun b o hb => OR.mono (Sub.refl _) (fun _ _ _ _ => rfl) (hi.hr.obj b o hb), hi.hr.nod, hi.hr.inj, fun q hq => hi.hr.nxt q (by have : s.nx + ops.size ≤ q := hq; omega)⟩
        · rw [hFH0]
          exact ⟨Sub.refl _, Nat.le_refl _, fun _ _ _ => rfl, fun q h => .inl h, ⟨rfl, rfl, rfl⟩, fun _ _ h => .inl h, Nat.le_add_right _ _⟩
        · have := (pf.hb f hf).1
          exact hi.hr.nxt _ (by omega)
      obtain ⟨D', γ', a', w', k1, k2, k3⟩ := drawn_all hK hC pf hL (b := b) (k := k) (cs := cs) hi (Nat.le_refl _) (sch_all pf.he (w.tape w.drawn (.order b.fn id))) hd0
      obtain ⟨⟨j, j1, j2, j3, j4, j5⟩, _, j6, _, j7⟩ := k2
      have hj : j = chs.length := by
        rcases Nat.lt_or_ge j chs.length with h | h
        · exfalso
          have hc := List.getElem?_eq_getElem h
          obtain ⟨o, ho, _⟩ := link_at hL hc
          have h1 := k1 _ (Array.getElem?_eq_some_iff.1 ho).1
          rw [j2 j _ hc] at h1
          have := of_decide_eq_true h1
          omega
        · omega
      subst hj
      have e1 : FD fls chs D' chs.length = fls.filter fun f => !(abs' chs chs.length).contains f.op := by
        unfold FD
        refine List.filter_congr fun f hf => ?_
        rw [k1 _ (pf.hb f hf).2, Bool.true_and]
      have e2 : tmG D' 0 (ops.toList.map (·.dst)) vals tm = tmG (fun _ => true) 0 (ops.toList.map (·.dst)) vals tm := tmG_congr fun q hq => by
        rw [Nat.zero_add]
        exact k1 q (by simpa using hq)
      unfold FH at j3 j4
      rw [e1] at j3 j4
      rw [e2] at j6
      exact ⟨_, _, γ', w', a', List.mem_cons_self .., j3, j4, j6, j7, .head hstep k3⟩
    · cases he
  · cases he
/-- regions, drawn or not -/
def erA (P : Program) (ks : Nat → Bool × List FV → Bool) (cf : CF) : ER := fun ops draw tm s => if draw then evD P ks cf ops tm s else evOps P ks cf ops (List.range ops.size) tm s
theorem erA_ok (hmix : P.follows .mixedOrders = true) (hK : KeyLaw P ks) (cf : CF) (hC : SoundC P w0 cf) : RegOk P w0 (erA P ks cf) := by
  intro b a k cs γ s w tm outs id ops draw hi ht he
  unfold erA at he
  cases draw with
  | true => exact evD_ok hmix hK hC hi ht he
  | false =>
    obtain ⟨tm', s', γ', w', a', h1, h2, h3, h4, h5, h6⟩ := evOps_ok hK hC (b := b) (k := k) (cs := cs) (List.range ops.size) hi ht he
    exact ⟨tm', s', γ', w', a', h1, h2, h3, h4, h5, .head stepR_region h6⟩
/-- the functions, and what is taken by contract -/
structure Orc (P : Program) (w0 : World) (orc : Nat → List AV → AS → Option (AV × AS)) : Prop where
  ok : ∀ f args s r γ w us, Inv w0 γ s w → All2 (RA γ) args us → orc f args s = some r → Calls P f us.toArray w fun e w' => ∃ u, e = .returned u ∧ Done γ s w r.1 r.2 u w'
def fnA (P : Program) (f : Nat) : Option Func := match P.funcs[f]? with | some fn => if fn.body.isSome then some fn else none | none => none
def run (P : Program) (ks : Nat → Bool × List FV → Bool) (orc : Nat → List AV → AS → Option (AV × AS)) (n f : Nat) (args : List AV) (s : AS) : Option (List (AV × AS)) := evF P (fnA P) orc (erA P ks) n (.fn f) args s
theorem run_ok (hmix : P.follows .mixedOrders = true) (hname : P.funcs.all (fun fn => fn.name != "runtime.NumGoroutine") = true) (hK : KeyLaw P ks) {orc : Nat → List AV → AS → Option (AV × AS)} (hO : Orc P w0 orc) {n f : Nat} {args : List AV} {s : AS} {outs : List (AV × AS)} {γ : Pl} {w : World} {us : List Value}
    (hi : Inv w0 γ s w) (hu : All2 (RA γ) args us) (h : run P ks orc n f args s = some outs) : Calls P f us.toArray w fun e w' => ∃ v s' u, (v, s') ∈ outs ∧ e = .returned u ∧ Done γ s w v s' u w' := by
  have hT : Tbl P w0 (fnA P) orc (erA P ks) := by
    refine ⟨fun f fn hf => ?_, hO.ok, fun cf hC => erA_ok hmix hK cf hC⟩
    unfold fnA at hf
    split at hf
    · rename_i fn' hfn
      split at hf
      · rename_i hb
        cases hf
        refine ⟨hfn, ?_, hb⟩
        have hm : fn ∈ P.funcs := by
          obtain ⟨hl, he⟩ := Array.getElem?_eq_some_iff.1 hfn
          rw [← he]
          exact Array.getElem_mem hl
        have := (Array.all_eq_true_iff_forall_mem.1 hname) fn hm
        simpa using this
      · cases hf
    · cases hf
  exact ((evF_ok hT n).fn f args s outs γ w us hi hu h).2
end
end Go.Proofs.YteigplfldhdakaaGreatDoor.Ev
/- A call that was reckoned once is taken by its result: blocks that it leaves behind are renumbered. -/
namespace Go.Proofs.YteigplfldhdakaaGreatDoor.Ev
open Go Go.RowKit
abbrev Ren := List (Nat × Nat)
def Ren.to : Ren → Nat → Option Nat
  | [], _ => none
  | (a, b) :: r, k => if a == k then some b else Ren.to r k
def Ren.back : Ren → Nat → Option Nat
  | [], _ => none
  | (a, b) :: r, k => if b == k then some a else Ren.back r k
def mapN (ρ : Ren) : List Nat → Option (List Nat)
  | [] => some []
  | x :: r => match ρ.to x, mapN ρ r with
    | some y, some ys => some (y :: ys)
    | _, _ => none
def mapS (ρ : Ren) : SV → Option SV
  | .f x => some (.f x)
  | .pt b o => (ρ.to b).map fun b' => .pt b' o
  | .sl b o n c z => (ρ.to b).map fun b' => .sl b' o n c z
  | .se b z => (ρ.to b).map fun b' => .se b' z
  | .mp b => (ρ.to b).map .mp
  | .cl f cs => (mapN ρ cs).map (.cl f)
  | .yl _ => none
def mapL (ρ : Ren) : List SV → Option (List SV)
  | [] => some []
  | x :: r => match mapS ρ x, mapL ρ r with
    | some y, some ys => some (y :: ys)
    | _, _ => none
def mapE (ρ : Ren) : List (Bool × List SV) → Option (List (Bool × List SV))
  | [] => some []
  | (b, xs) :: r => match mapL ρ xs, mapE ρ r with
    | some y, some ys => some ((b, y) :: ys)
    | _, _ => none
def mapA (ρ : Ren) : AV → Option AV
  | .sc x => (mapS ρ x).map .sc
  | .ag xs => (mapL ρ xs).map .ag
  | .tu ys => (mapE ρ ys).map .tu
  | .top => none
/-- a block without a loop -/
inductive KO where
  | cells (ty : Nat) (L : List SV)
  | map (es : List ((Bool × List FV) × (Bool × List SV)))
  deriving DecidableEq
def KO.obj : KO → AObj
  | .cells ty L => .cells ty L
  | .map es => .map es
def mapM' (ρ : Ren) : List ((Bool × List FV) × (Bool × List SV)) → Option (List ((Bool × List FV) × (Bool × List SV)))
  | [] => some []
  | (k, (b, xs)) :: r => match mapL ρ xs, mapM' ρ r with
    | some y, some ys => some ((k, (b, y)) :: ys)
    | _, _ => none
def mapO (ρ : Ren) : AObj → Option KO
  | .cells ty L => (mapL ρ L).map (.cells ty)
  | .map es => (mapM' ρ es).map .map
  | _ => none
section
variable {γ γ' : Pl} {ρ : Ren}
/-- the new numbers stand where the old ones stood -/
def Moved (ρ : Ren) (γ γ' : Pl) : Prop := ∀ a b, ρ.to a = some b → γ' b = γ a
theorem mapN_ok (h : Moved ρ γ γ') : ∀ {xs ys : List Nat} {us : List Value}, mapN ρ xs = some ys → All2 (RP γ) xs us → All2 (RP γ') ys us
  | [], _, [], e, _ => by cases e; trivial
  | x :: r, _, u :: us, e, hr => by
    unfold mapN at e
    split at e
    · rename_i y ys h1 h2
      cases e
      obtain ⟨B, d, S, k1, k2⟩ := hr.1
      exact ⟨⟨B, d, S, (h _ _ h1).trans k1, k2⟩, mapN_ok h h2 hr.2⟩
    · cases e
  | [], _, _ :: _, _, hr => hr.elim
  | _ :: _, _, [], _, hr => hr.elim
theorem mapS_ok (h : Moved ρ γ γ') : ∀ {x y : SV} {u : Value}, mapS ρ x = some y → RS γ x u → RS γ' y u
  | .f x, _, _, e, hr => by cases e; exact hr
  | .pt b o, _, _, e, hr => by
    obtain ⟨b', h1, rfl⟩ := Option.map_eq_some_iff.1 e
    obtain ⟨B, d, S, k1, k2⟩ := hr
    exact ⟨B, d, S, (h _ _ h1).trans k1, k2⟩
  | .sl b o n c z, _, _, e, hr => by
    obtain ⟨b', h1, rfl⟩ := Option.map_eq_some_iff.1 e
    obtain ⟨B, d, S, c', k1, k2⟩ := hr
    exact ⟨B, d, S, c', (h _ _ h1).trans k1, k2⟩
  | .se b z, _, _, e, hr => by
    obtain ⟨b', h1, rfl⟩ := Option.map_eq_some_iff.1 e
    obtain ⟨B, d, S, o', c', k1, k2⟩ := hr
    exact ⟨B, d, S, o', c', (h _ _ h1).trans k1, k2⟩
  | .mp b, _, _, e, hr => by
    obtain ⟨b', h1, rfl⟩ := Option.map_eq_some_iff.1 e
    obtain ⟨B, d, S, k1, k2⟩ := hr
    exact ⟨B, d, S, (h _ _ h1).trans k1, k2⟩
  | .cl f cs, _, _, e, hr => by
    obtain ⟨b', h1, rfl⟩ := Option.map_eq_some_iff.1 e
    obtain ⟨us, k1, k2⟩ := hr
    exact ⟨us, k1, mapN_ok h h1 k2⟩
  | .yl _, _, _, e, _ => by cases e
theorem mapL_ok (h : Moved ρ γ γ') : ∀ {xs ys : List SV} {us : List Value}, mapL ρ xs = some ys → All2 (RS γ) xs us → All2 (RS γ') ys us
  | [], _, [], e, _ => by cases e; trivial
  | x :: r, _, u :: us, e, hr => by
    unfold mapL at e
    split at e
    · rename_i y ys h1 h2
      cases e
      exact ⟨mapS_ok h h1 hr.1, mapL_ok h h2 hr.2⟩
    · cases e
  | [], _, _ :: _, _, hr => hr.elim
  | _ :: _, _, [], _, hr => hr.elim
theorem mapL_get (h : Moved ρ γ γ') : ∀ {xs ys : List SV} {i : Nat} {y : SV}, mapL ρ xs = some ys → ys[i]? = some y → ∃ x, xs[i]? = some x ∧ mapS ρ x = some y
  | [], _, i, _, e, hy => by cases e; simp at hy
  | x :: r, _, i, y, e, hy => by
    unfold mapL at e
    split at e
    · rename_i y' ys h1 h2
      cases e
      cases i with
      | zero =>
        have : y' = y := by simpa using hy
        exact ⟨x, rfl, by rw [h1, this]⟩
      | succ i =>
        obtain ⟨x', k1, k2⟩ := mapL_get h h2 (i := i) (by simpa using hy)
        exact ⟨x', by simpa using k1, k2⟩
    · cases e
theorem mapL_len : ∀ {xs ys : List SV}, mapL ρ xs = some ys → ys.length = xs.length
  | [], _, e => by cases e; rfl
  | x :: r, _, e => by
    unfold mapL at e
    split at e
    · rename_i y ys h1 h2
      cases e
      simp [mapL_len h2]
    · cases e
theorem mapEl_ok (h : Moved ρ γ γ') {b : Bool} {xs ys : List SV} {u : Value} (e : mapL ρ xs = some ys) (hr : RE γ (b, xs) u) : RE γ' (b, ys) u := by
  cases b
  · obtain ⟨x, rfl, hx⟩ := hr
    unfold mapL at e
    split at e
    · rename_i y ys' h1 h2
      cases e
      cases h2
      exact ⟨y, rfl, mapS_ok h h1 hx⟩
    · cases e
  · obtain ⟨us, k1, k2⟩ := hr
    exact ⟨us, k1, mapL_ok h e k2⟩
theorem mapE_ok (h : Moved ρ γ γ') : ∀ {xs ys : List (Bool × List SV)} {us : List Value}, mapE ρ xs = some ys → All2 (RE γ) xs us → All2 (RE γ') ys us
  | [], _, [], e, _ => by cases e; trivial
  | (b, x) :: r, _, u :: us, e, hr => by
    unfold mapE at e
    split at e
    · rename_i y ys h1 h2
      cases e
      exact ⟨mapEl_ok h h1 hr.1, mapE_ok h h2 hr.2⟩
    · cases e
  | [], _, _ :: _, _, hr => hr.elim
  | _ :: _, _, [], _, hr => hr.elim
theorem mapA_ok (h : Moved ρ γ γ') : ∀ {x y : AV} {u : Value}, mapA ρ x = some y → RA γ x u → RA γ' y u
  | .sc x, _, _, e, hr => by obtain ⟨y, h1, rfl⟩ := Option.map_eq_some_iff.1 e; exact mapS_ok h h1 hr
  | .ag xs, _, _, e, hr => by
    obtain ⟨y, h1, rfl⟩ := Option.map_eq_some_iff.1 e
    obtain ⟨us, k1, k2⟩ := hr
    exact ⟨us, k1, mapL_ok h h1 k2⟩
  | .tu ys, _, _, e, hr => by
    obtain ⟨y, h1, rfl⟩ := Option.map_eq_some_iff.1 e
    obtain ⟨us, k1, k2⟩ := hr
    exact ⟨us, k1, mapE_ok h h1 k2⟩
  | .top, _, _, e, _ => by cases e
theorem mapM_ok (h : Moved ρ γ γ') : ∀ {n : Nat} {es es' : List Ent} {cs : List MapEntry}, mapM' ρ es = some es' → entsR γ n es cs → entsR γ' n es' cs ∧ es'.length = es.length
  | _, [], _, [], e, _ => by cases e; exact ⟨trivial, rfl⟩
  | n, (k, (b, xs)) :: r, _, c :: cs, e, hr => by
    unfold mapM' at e
    split at e
    · rename_i y ys h1 h2
      cases e
      obtain ⟨k1, k2⟩ := mapM_ok h h2 hr.2
      exact ⟨⟨⟨hr.1.1, mapEl_ok h h1 hr.1.2.1, hr.1.2.2⟩, k1⟩, by simp [k2]⟩
    · cases e
  | _, [], _, _ :: _, _, hr => hr.elim
  | _, _ :: _, _, [], _, hr => hr.elim
theorem mapO_ok (h : Moved ρ γ γ') {w : World} {b b' : Nat} (hb : ρ.to b = some b') : ∀ {o : AObj} {o' : KO}, mapO ρ o = some o' → OR γ w b o → OR γ' w b' o'.obj
  | .cells ty L, _, e, hr => by
    obtain ⟨L', h1, rfl⟩ := Option.map_eq_some_iff.1 e
    obtain ⟨B, d, S, C, k1, k2, k3, k4, k5⟩ := hr
    refine ⟨B, d, S, C, (h _ _ hb).trans k1, k2, k3, by rw [mapL_len h1]; exact k4, fun i x hx => ?_⟩
    obtain ⟨x0, q1, q2⟩ := mapL_get h h1 hx
    obtain ⟨u, q3, q4⟩ := k5 i x0 q1
    exact ⟨u, q3, mapS_ok h q2 q4⟩
  | .map es, _, e, hr => by
    obtain ⟨es', h1, rfl⟩ := Option.map_eq_some_iff.1 e
    obtain ⟨B, d, S, cs, k1, k2, k3⟩ := hr
    obtain ⟨q1, q2⟩ := mapM_ok h h1 k3
    exact ⟨B, d, S, cs, (h _ _ hb).trans k1, by rw [q2]; exact k2, q1⟩
  | .loop _ _ _ _ _ _ _ _, _, e, _ => by cases e
  | .defs, _, e, _ => by cases e
  | .mit _ _ _ _, _, e, _ => by cases e
end
/-- a call, with what it finds and what it leaves -/
structure Cut where
  f : Nat
  args : List AV
  H0 : List (Nat × KO)
  nx : Nat
  v : AV
  K : List (Nat × KO)
  nx' : Nat
def kobj (l : List (Nat × KO)) : List (Nat × AObj) := l.map fun x => (x.1, x.2.obj)
/-- an outcome comes to that, under these numbers -/
def chkOut (c : Cut) (ρ : Ren) (r : AV × AS) : Bool :=
  decide (mapA ρ r.1 = some c.v) && (c.K.all fun x => match ρ.back x.1 with
    | some b => match fnd r.2.H b with
      | some o => decide (mapO ρ o = some x.2)
      | none => false
    | none => false) && decide ((ρ.map (·.1)).Nodup) && decide ((ρ.map (·.2)).Nodup) && ρ.all (fun p => (decide (p.1 = p.2) || decide (c.nx ≤ p.2)) && decide (p.2 < c.nx')) && decide ((c.K.map (·.1)).Nodup) && decide (c.nx ≤ c.nx')
theorem back_to : ∀ {ρ : Ren} {a b : Nat}, (ρ.map (·.1)).Nodup → ρ.back b = some a → ρ.to a = some b
  | (x, y) :: r, a, b, hn, h => by
    rw [List.map_cons, List.nodup_cons] at hn
    unfold Ren.back at h
    unfold Ren.to
    by_cases e : (y == b) = true
    · rw [if_pos e] at h
      cases h
      rw [if_pos (by simp), eq_of_beq e]
    · rw [if_neg e] at h
      have := back_to hn.2 h
      have hne : (x == a) = false := by
        cases hx : (x == a) with
        | false => rfl
        | true =>
          exfalso
          have hxa : x = a := by simpa using hx
          subst hxa
          have hm : ∀ {l : Ren} {p q : Nat}, l.to p = some q → p ∈ l.map (·.1) := fun {l p q} h => by
            induction l with
            | nil => cases h
            | cons z l ih =>
              obtain ⟨z1, z2⟩ := z
              unfold Ren.to at h
              by_cases ez : (z1 == p) = true
              · exact List.mem_cons.2 (.inl (eq_of_beq ez).symm)
              · rw [if_neg ez] at h
                exact List.mem_cons_of_mem _ (ih h)
          exact hn.1 (hm this)
      rw [hne]
      exact this
theorem to_back : ∀ {ρ : Ren} {a b : Nat}, (ρ.map (·.2)).Nodup → ρ.to a = some b → ρ.back b = some a
  | (x, y) :: r, a, b, hn, h => by
    rw [List.map_cons, List.nodup_cons] at hn
    unfold Ren.to at h
    unfold Ren.back
    by_cases e : (x == a) = true
    · rw [if_pos e] at h
      cases h
      rw [if_pos (by simp), eq_of_beq e]
    · rw [if_neg e] at h
      have := to_back hn.2 h
      have hne : (y == b) = false := by
        cases hx : (y == b) with
        | false => rfl
        | true =>
          exfalso
          have hxa : y = b := by simpa using hx
          subst hxa
          have hm : ∀ {l : Ren} {p q : Nat}, l.back p = some q → p ∈ l.map (·.2) := fun {l p q} h => by
            induction l with
            | nil => cases h
            | cons z l ih =>
              obtain ⟨z1, z2⟩ := z
              unfold Ren.back at h
              by_cases ez : (z2 == p) = true
              · exact List.mem_cons.2 (.inl (eq_of_beq ez).symm)
              · rw [if_neg ez] at h
                exact List.mem_cons_of_mem _ (ih h)
          exact hn.1 (hm this)
      rw [hne]
      exact this
theorem back_mem : ∀ {ρ : Ren} {a b : Nat}, ρ.back b = some a → (a, b) ∈ ρ
  | (x, y) :: r, a, b, h => by
    unfold Ren.back at h
    by_cases e : (y == b) = true
    · rw [if_pos e] at h
      cases h
      rw [eq_of_beq e]
      exact List.mem_cons_self ..
    · rw [if_neg e] at h
      exact List.mem_cons_of_mem _ (back_mem h)
def places (ρ : Ren) (γ γ1 : Pl) : Pl := fun k => match ρ.back k with | some a => γ1 a | none => γ k
theorem kobj_mem {l : List (Nat × KO)} {x : Nat × AObj} (h : x ∈ kobj l) : ∃ y ∈ l, x = (y.1, y.2.obj) := by
  obtain ⟨y, hy, rfl⟩ := List.mem_map.1 h
  exact ⟨y, hy, rfl⟩
theorem kobj_ids (l : List (Nat × KO)) : (kobj l).map (·.1) = l.map (·.1) := by simp [kobj]
/-- **what a call leaves, renumbered** -/
theorem cut_done {c : Cut} {ρ : Ren} {γ : Pl} {w : World} {R : List (Nat × AObj)} {v : AV} {s1 : AS} {u : Value} {w' : World} (h : HR γ ⟨kobj c.H0 ++ R, c.nx⟩ w) (hd : Done γ ⟨kobj c.H0, c.nx⟩ w v s1 u w') (hc : chkOut c ρ (v, s1) = true) :
    Done γ ⟨kobj c.H0 ++ R, c.nx⟩ w c.v ⟨kobj c.K ++ R, c.nx'⟩ u w' := by
  obtain ⟨γ1, k1, k2, k3⟩ := hd
  unfold chkOut at hc
  simp only [Bool.and_eq_true, decide_eq_true_eq] at hc
  obtain ⟨⟨⟨⟨⟨⟨c1, c2⟩, c3⟩, c4⟩, c5⟩, c6⟩, c7⟩ := hc
  have hrange : ∀ a b, ρ.back b = some a → (a = b ∨ c.nx ≤ b) ∧ b < c.nx' := fun a b hb => by
    have := List.all_eq_true.1 c5 _ (back_mem hb)
    simpa using this
  have hmv : Moved ρ γ1 (places ρ γ γ1) := fun a b hab => by
    unfold places
    rw [to_back c4 hab]
  have hsub : Sub γ (places ρ γ γ1) := fun k x hk => by
    unfold places
    cases hb : ρ.back k with
    | none => exact hk
    | some a =>
      rcases (hrange a k hb).1 with rfl | this
      · exact k2.sub _ _ hk
      · rw [h.nxt k this] at hk
        cases hk
  have hK : ∀ x ∈ c.K, ∃ b o, ρ.back x.1 = some b ∧ fnd s1.H b = some o ∧ mapO ρ o = some x.2 := fun x hx => by
    have := List.all_eq_true.1 c2 x hx
    split at this
    · rename_i b hb
      split at this
      · rename_i o ho
        exact ⟨b, o, hb, ho, of_decide_eq_true this⟩
      · cases this
    · cases this
  have hHK : HR (places ρ γ γ1) ⟨kobj c.K, c.nx'⟩ w' := by
    refine ⟨fun b o hb => ?_, by rw [show ((⟨kobj c.K, c.nx'⟩ : AS).H) = kobj c.K from rfl, kobj_ids]; exact c6, fun b b' x y h1 h2 h3 h4 h5 => ?_, fun k hk => ?_⟩
    · obtain ⟨y, hy, e⟩ := kobj_mem hb
      cases e
      obtain ⟨b0, o0, q1, q2, q3⟩ := hK y hy
      exact mapO_ok hmv (back_to c3 q1) q3 (k1.obj _ _ (fnd_mem q2))
    · rw [show ((⟨kobj c.K, c.nx'⟩ : AS).H) = kobj c.K from rfl, kobj_ids] at h1 h2
      obtain ⟨p, hp, rfl⟩ := List.mem_map.1 h1
      obtain ⟨q, hq, rfl⟩ := List.mem_map.1 h2
      obtain ⟨b0, o0, q1, q2, q3⟩ := hK p hp
      obtain ⟨b1, o1, r1, r2, r3⟩ := hK q hq
      have e0 := hmv _ _ (back_to c3 q1)
      have e1 := hmv _ _ (back_to c3 r1)
      rw [h4] at e0
      rw [h5] at e1
      refine k1.inj b0 b1 x y (List.mem_map.2 ⟨_, fnd_mem q2, rfl⟩) (List.mem_map.2 ⟨_, fnd_mem r2, rfl⟩) (fun e => h3 ?_) e0.symm e1.symm
      subst e
      have t1 := back_to c3 q1
      have t2 := back_to c3 r1
      rw [t1] at t2
      exact Option.some.inj t2
    · unfold places
      have hk' : c.nx' ≤ k := hk
      cases hb : ρ.back k with
      | none => exact h.nxt k (Nat.le_trans c7 hk')
      | some a => have := (hrange a k hb).2; omega
  have hFK : Fr γ ⟨kobj c.H0, c.nx⟩ w (places ρ γ γ1) ⟨kobj c.K, c.nx'⟩ w' := by
    refine ⟨hsub, k2.size, k2.keep, fun k ⟨q, d, z, h1, h2⟩ => k2.im k ?_, k2.same, fun k x hk => ?_, c7⟩
    · rw [show ((⟨kobj c.K, c.nx'⟩ : AS).H) = kobj c.K from rfl, kobj_ids] at h1
      obtain ⟨p, hp, rfl⟩ := List.mem_map.1 h1
      obtain ⟨b0, o0, q1, q2, q3⟩ := hK p hp
      have e0 := hmv _ _ (back_to c3 q1)
      rw [h2] at e0
      exact ⟨b0, d, z, List.mem_map.2 ⟨_, fnd_mem q2, rfl⟩, e0.symm⟩
    · unfold places at hk
      cases hb : ρ.back k with
      | none => rw [hb] at hk; exact .inl hk
      | some a =>
        rw [hb] at hk
        rcases (hrange a k hb).1 with rfl | this
        · exact k2.ids _ x hk
        · exact .inr this
  obtain ⟨f1, f2⟩ := frame h hHK hFK
  exact ⟨_, f1, f2, mapA_ok hmv c1 k3⟩
end Go.Proofs.YteigplfldhdakaaGreatDoor.Ev
