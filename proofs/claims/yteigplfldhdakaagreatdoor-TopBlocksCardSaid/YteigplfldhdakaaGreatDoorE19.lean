/- New blocks out of turn; the orders that a region may draw. -/
import Derived.Test.YteigplfldhdakaaGreatDoorE18
set_option linter.unusedVariables false
set_option linter.unusedSimpArgs false
namespace Go.Proofs.YteigplfldhdakaaGreatDoor.Ev
open Go Go.RowKit
/-- what a new block looks like: a pointer to it, or a slice of so many elements -/
inductive Sh where
  | ptr | slc (n c z : Nat)
  deriving DecidableEq
def Sh.av (sh : Sh) (b : Nat) : AV := match sh with | .ptr => .sc (.pt b 0) | .slc n c z => .sc (.sl b 0 n (some c) z)
def Sh.val (sh : Sh) (B : Nat) : Value := match sh with | .ptr => .pointer (some ⟨B, 0, none⟩) | .slc n c _ => .slice (some ⟨B, 0, none⟩) n c
def Sh.fit (sh : Sh) (k : Nat) : Prop := match sh with | .ptr => True | .slc n c z => n ≤ c ∧ c * z ≤ k
/-- a new block whose content hangs on the operands alone -/
def fop (P : Program) (o : Oper) (ρ : Operand → Option AV) : Option (Nat × List SV × Sh) :=
  match o.op with
  | .alloc t => (zL P t).map fun L => (t, L, .ptr)
  | .box t x => ((ρ x).bind AV.cells).map fun L => (t, L, .ptr)
  | .buildSlice t n ps => match elemP P t with
    | some e => match sizeP P e, zL P e with
      | some z, some L => if 0 < n * z ∧ n * z ≤ 10000 ∧ 0 < L.length then ((partsA ρ ps.toList).bind fun qs => afill (fun i => some (i * z, z)) (made L (n * z)) qs).map fun L' => (e, L', .slc n n z) else none
      | _, _ => none
    | none => none
  | .makeSlice t l c => match elemP P t, ρ l, ρ c with
    | some e, some (.sc (.f (.int _ l))), some (.sc (.f (.int _ c))) => match sizeP P e, zL P e, (P.info? e).map (·.bytes) with
      | some z, some L, some by_ => if 0 ≤ l ∧ l ≤ c ∧ c ≤ 10000 ∧ (by_ : Int) * c ≤ 1000000 ∧ 0 < L.length then some (e, made L (c.toNat * z), .slc l.toNat c.toNat z) else none
      | _, _, _ => none
    | _, _, _ => none
  | _ => none
section
variable {P : Program} {γ : Pl} {w : World} {ρa : Operand → Option AV} {ρ : Operand → Value}
theorem fop_ok {o : Oper} {ty : Nat} {L : List SV} {sh : Sh} (hr : Op2 γ ρa ρ) (h : fop P o ρa = some (ty, L, sh)) :
    ∃ C, (execOp ρ o).run P w = .ok (.value (sh.val w.heap.size)) (w.alloc (.cells C ty)) ∧ All2 (RS γ) L C.toList ∧ sh.fit C.size ∧ ∀ c, o.op ≠ .defer c := by
  unfold fop at h
  split at h
  · rename_i t ho
    obtain ⟨L', hL, e⟩ := Option.map_eq_some_iff.1 h
    cases e
    obtain ⟨z, hz1, hz2⟩ := zL_rel hL γ
    refine ⟨z.cells, ?_, hz2, trivial, fun c e => by rw [ho] at e; cases e⟩
    unfold execOp
    rw [ho]
    simp [Instr.alloc, run_zeroP hz1, newVar, newRow, Sh.val]
  · rename_i t x ho
    obtain ⟨L', hL, e⟩ := Option.map_eq_some_iff.1 h
    cases e
    obtain ⟨v, hv, hl⟩ := Option.bind_eq_some_iff.1 hL
    refine ⟨(ρ x).cells, ?_, RA.cells (hr _ _ hv) hl, trivial, fun c e => by rw [ho] at e; cases e⟩
    unfold execOp
    rw [ho]
    simp [Instr.box, newVar, newRow, Sh.val]
  · rename_i t n ps ho
    split at h
    · rename_i e he
      split at h
      · rename_i z L0 hz hL
        split at h
        · rename_i hc
          obtain ⟨hc1, hc2, hc3⟩ := hc
          obtain ⟨L', hL', e2⟩ := Option.map_eq_some_iff.1 h
          cases e2
          obtain ⟨qs, hq, hfill⟩ := Option.bind_eq_some_iff.1 hL'
          obtain ⟨zv, hz1, hz2⟩ := zL_rel hL γ
          obtain ⟨i, hi, his⟩ := Option.map_eq_some_iff.1 hz
          obtain ⟨i', hi', hz3⟩ := Option.bind_eq_some_iff.1 hz1
          rw [hi] at hi'
          cases hi'
          subst his
          obtain ⟨C', h1, h2⟩ := afill_ok (γ := γ) (qs := (ps.map fun (i, x) => (i, ρ x)).toList) (by simpa using parts_ok hr hq) (made_rel hz2 hc3 (n * i.size)) hfill
          have hsz : C'.size = n * i.size := by rw [All2.size h2, afill_len hfill]; simp [made]
          refine ⟨C', ?_, h2, by show n ≤ n ∧ n * i.size ≤ C'.size; omega, fun c e => by rw [ho] at e; cases e⟩
          obtain ⟨qv, hqv⟩ : ∃ qv, (ps.map fun (i, x) => (i, ρ x)) = qv := ⟨_, rfl⟩
          rw [hqv] at h1
          have hrun := run_buildSlice w t ty n qv C' i zv (elemP_some he) hi hz3 (by omega) (by omega) h1
          rw [← hqv] at hrun
          unfold execOp
          rw [ho]
          simp only [Sem.run_bind, hrun, Result.andThen_ok, Sem.run_pure]
          rfl
        · cases h
      · cases h
    · cases h
  · rename_i t l c ho
    split at h
    · rename_i e kl l' kc c' he hl hc
      split at h
      · rename_i z L0 by_ hz hL hby
        split at h
        · rename_i hcn
          obtain ⟨h1, h2, h3, h4, h5⟩ := hcn
          cases h
          have hl' : ρ l = .int kl l' := hr _ _ hl
          have hc' : ρ c = .int kc c' := hr _ _ hc
          obtain ⟨zv, hz1, hz2⟩ := zL_rel hL γ
          obtain ⟨i, hi, his⟩ := Option.map_eq_some_iff.1 hz
          obtain ⟨i', hi', hz3⟩ := Option.bind_eq_some_iff.1 hz1
          obtain ⟨i'', hi'', hb2⟩ := Option.map_eq_some_iff.1 hby
          rw [hi] at hi' hi''
          cases hi'
          cases hi''
          subst his
          have hb3 : (i.bytes : Int) = by_ := by rw [hb2]
          have hrun := run_make (P := P) w t ty i zv (elemP_some he) hi hz3 kl kc l' c' h1 h2 (by rw [hb3]; omega) (by omega)
          refine ⟨madeCells zv.cells (c'.toNat * i.size), ?_, made_rel hz2 h5 (c'.toNat * i.size), ⟨by omega, by rw [size_madeCells]; exact Nat.le_refl _⟩, fun c e => by rw [ho] at e; cases e⟩
          unfold execOp
          rw [ho]
          dsimp only
          rw [hl', hc']
          simp only [Sem.run_bind, hrun, Result.andThen_ok, Sem.run_pure]
          rfl
        · cases h
      · cases h
    · cases h
  · cases h
/-- such a block, under a number that was kept for it -/
theorem HR.newAt {H : List (Nat × AObj)} {n b ty : Nat} {L : List SV} {C : Array Value} {sh : Sh} (h : HR γ ⟨H, n⟩ w) (hb : γ b = none) (hbn : b < n) (hr : All2 (RS γ) L C.toList) (hfit : sh.fit C.size) :
    HR (ext γ b (w.heap.size, 0, C.size)) ⟨(b, .cells ty L) :: H, n⟩ (w.alloc (.cells C ty)) ∧ (∀ k, k < w.heap.size → (w.alloc (.cells C ty)).heap[k]? = w.heap[k]?) ∧
      RA (ext γ b (w.heap.size, 0, C.size)) (sh.av b) (sh.val w.heap.size) ∧ (∀ k, Im (ext γ b (w.heap.size, 0, C.size)) ⟨(b, .cells ty L) :: H, n⟩ k → Im γ ⟨H, n⟩ k ∨ w.heap.size ≤ k) := by
  have hsub := ext_sub (x := (w.heap.size, 0, C.size)) hb
  have hnb : b ∉ H.map (·.1) := fun hm => by
    obtain ⟨y, hy, e⟩ := List.mem_map.1 hm
    obtain ⟨B, d, S, h1, _⟩ := OR.at_ (h.obj y.1 y.2 hy)
    rw [e, hb] at h1
    cases h1
  have hold : ∀ k, k ∈ H.map (·.1) → ∃ x, γ k = some x ∧ x.1 < w.heap.size := fun k hk => by
    obtain ⟨y, hy, rfl⟩ := List.mem_map.1 hk
    obtain ⟨B1, d1, S1, h1, h2⟩ := OR.at_ (h.obj y.1 y.2 hy)
    exact ⟨_, h1, h2⟩
  have hkeep : ∀ k, k < w.heap.size → (w.alloc (.cells C ty)).heap[k]? = w.heap[k]? := fun k hk => by
    show (w.heap.push _)[k]? = _
    rw [Array.getElem?_push, if_neg (by omega)]
  refine ⟨⟨fun k q hq => ?_, ?_, fun k k' x y h1 h2 h3 h4 h5 => ?_, fun k hk => ?_⟩, hkeep, ?_, fun k ⟨q, d, z, h1, h2⟩ => ?_⟩
  · rcases List.mem_cons.1 hq with h1 | h1
    · cases h1
      refine ⟨w.heap.size, 0, C.size, C, ext_at _ _ _, alloc_at _ _, rfl, by rw [All2.size hr]; omega, fun i x hx => ?_⟩
      obtain ⟨u, k1, k2⟩ := All2.get i hr hx
      exact ⟨u, by rw [Nat.zero_add]; rw [Array.getElem?_toList] at k1; exact k1, RS.mono hsub k2⟩
    · refine OR.mono hsub (fun B1 d1 S1 h2 => hkeep B1 ?_) (h.obj k q h1)
      obtain ⟨x, h3, h4⟩ := hold k (List.mem_map.2 ⟨_, h1, rfl⟩)
      rw [h2] at h3
      cases h3
      exact h4
  · rw [List.map_cons, List.nodup_cons]
    exact ⟨hnb, h.nod⟩
  · rw [List.map_cons, List.mem_cons] at h1 h2
    rcases h1 with rfl | h1
    · rcases h2 with rfl | h2
      · exact absurd rfl h3
      · obtain ⟨z, hz, hl⟩ := hold _ h2
        have := hsub _ _ hz
        rw [h5] at this
        cases this
        rw [ext_at] at h4
        cases h4
        exact fun e => by have : w.heap.size = y.1 := e; omega
    · rcases h2 with rfl | h2
      · obtain ⟨z, hz, hl⟩ := hold _ h1
        have := hsub _ _ hz
        rw [h4] at this
        cases this
        rw [ext_at] at h5
        cases h5
        exact fun e => by have : x.1 = w.heap.size := e; omega
      · obtain ⟨z, hz, _⟩ := hold _ h1
        obtain ⟨z', hz', _⟩ := hold _ h2
        have e1 := hsub _ _ hz
        have e2 := hsub _ _ hz'
        rw [h4] at e1
        rw [h5] at e2
        cases e1
        cases e2
        exact h.inj _ _ _ _ h1 h2 h3 hz hz'
  · have h1 : n ≤ k := hk
    unfold ext
    rw [if_neg (by omega)]
    exact h.nxt k h1
  · cases sh with
    | ptr => exact ⟨w.heap.size, 0, C.size, ext_at _ _ _, rfl⟩
    | slc n c z =>
      have hf : n ≤ c ∧ c * z ≤ C.size := hfit
      exact ⟨w.heap.size, 0, C.size, c, ext_at _ _ _, rfl, hf.1, rfl, by omega⟩
  · rw [List.map_cons, List.mem_cons] at h1
    rcases h1 with rfl | h1
    · rw [ext_at] at h2
      cases h2
      exact .inr (Nat.le_refl _)
    · obtain ⟨z, hz, _⟩ := hold _ h1
      have := hsub _ _ hz
      rw [h2] at this
      cases this
      exact .inl ⟨q, _, _, h1, hz⟩
end
/-- an order that a region may draw -/
def depsOf (o : Oper) : List Nat := (o.after.toList.filter (Region.binds .any)).map (·.on)
inductive Sch (ops : Array Oper) : (Nat → Bool) → List Nat → Prop
  | nil (D : Nat → Bool) (h : ∀ i, i < ops.size → D i = true) : Sch ops D []
  | cons (D : Nat → Bool) (i : Nat) (o : Oper) (rest : List Nat) (ho : ops[i]? = some o) (hn : D i = false) (hd : ∀ p ∈ depsOf o, D p = true) (h : Sch ops (fun k => k == i || D k) rest) : Sch ops D (i :: rest)
/-- every operation hangs on earlier ones -/
def earlier (ops : Array Oper) : Bool := (List.range ops.size).all fun i => match ops[i]? with | some o => (depsOf o).all fun p => decide (p < i) | none => true
def left (n : Nat) (D : Nat → Bool) : Nat := ((List.range n).filter fun i => !D i).length
theorem sch_go {ops : Array Oper} (he : earlier ops = true) : ∀ (fuel t : Nat) (listed : Array Bool) (acc : List Nat), listed.size = ops.size → left ops.size (fun i => listed.getD i false) ≤ fuel →
    ∃ l, Region.linearise.go .any ops fuel t listed acc = acc.reverse ++ l ∧ Sch ops (fun i => listed.getD i false) l
  | 0, t, listed, acc, hs, hl => by
    refine ⟨[], by simp [Region.linearise.go], .nil _ fun i hi => ?_⟩
    cases hd : listed.getD i false with
    | true => rfl
    | false =>
      have : i ∈ (List.range ops.size).filter fun i => !listed.getD i false := by
        rw [List.mem_filter]
        exact ⟨by simpa using hi, by rw [hd]; rfl⟩
      have := List.length_pos_of_mem this
      have hl' : ((List.range ops.size).filter fun i => !listed.getD i false).length ≤ 0 := hl
      omega
  | fuel + 1, t, listed, acc, hs, hl => by
    unfold Region.linearise.go
    dsimp only
    split
    · rename_i i hi
      have hmem := List.mem_of_getElem? hi
      rw [List.mem_filter] at hmem
      obtain ⟨hr, hc⟩ := hmem
      have hir : i < ops.size := by simpa using hr
      have ho : ops[i]? = some ops[i] := by simp [hir]
      rw [Bool.and_eq_true, ho] at hc
      obtain ⟨c1, c2⟩ := hc
      simp only [Option.map_some, Option.getD_some] at c2
      have hn : listed.getD i false = false := by
        have hil : i < listed.size := by omega
        rw [Array.getD_eq_getD_getElem?, Array.getElem?_eq_getElem hil] at c1 ⊢
        simpa using c1
      have hget : ∀ k, (listed.setIfInBounds i true).getD k false = (k == i || listed.getD k false) := fun k => by
        rw [Array.getD_eq_getD_getElem?, Array.getD_eq_getD_getElem?, Array.getElem?_setIfInBounds]
        by_cases hk : i = k
        · subst hk
          simp [show i < listed.size by omega]
        · rw [if_neg hk]
          have : (k == i) = false := by simp; omega
          rw [this]
          rfl
      obtain ⟨l, h1, h2⟩ := sch_go he fuel (t / ((List.range ops.size).filter fun i => !listed.getD i true && ((ops[i]?).map (·.after.all fun e => !Region.binds .any e || listed.getD e.on false)).getD false).length) (listed.setIfInBounds i true) (i :: acc) (by simpa using hs) (by
        have hl' : ((List.range ops.size).filter fun k => !listed.getD k false).length ≤ fuel + 1 := hl
        show ((List.range ops.size).filter fun k => !(listed.setIfInBounds i true).getD k false).length ≤ fuel
        have hlt : ((List.range ops.size).filter fun k => !(listed.setIfInBounds i true).getD k false).length < ((List.range ops.size).filter fun k => !listed.getD k false).length := by
          have e1 : ((List.range ops.size).filter fun k => !(listed.setIfInBounds i true).getD k false) = ((List.range ops.size).filter fun k => !listed.getD k false).filter fun k => k != i := by
            rw [List.filter_filter]
            congr 1
            funext k
            rw [hget]
            cases h : (k == i) <;> cases listed.getD k false <;> simp [bne, h]
          rw [e1]
          have hin : i ∈ (List.range ops.size).filter fun k => !listed.getD k false := by
            rw [List.mem_filter]
            exact ⟨hr, by rw [hn]; rfl⟩
          refine List.length_filter_lt_length_iff_exists.2 ⟨i, hin, by simp⟩
        omega)
      refine ⟨i :: l, ?_, .cons _ i ops[i] l ho hn (fun p hp => ?_) ?_⟩
      · rw [h1]
        simp
      · unfold depsOf at hp
        obtain ⟨e, hem, rfl⟩ := List.mem_map.1 hp
        rw [List.mem_filter] at hem
        have := (Array.all_eq_true_iff_forall_mem.1 c2) e (by simpa using hem.1)
        rw [hem.2] at this
        simpa using this
      · have : (fun k => k == i || listed.getD k false) = fun k => (listed.setIfInBounds i true).getD k false := by
          funext k
          rw [hget]
        rw [this]
        exact h2
    · rename_i hno
      refine ⟨[], by simp, .nil _ fun i hi => ?_⟩
      have hempty : ∀ rs : List Nat, rs[t % rs.length]? = none → rs = [] := fun rs hrs => by
        cases rs with
        | nil => rfl
        | cons a r =>
          have hlt : t % (a :: r).length < (a :: r).length := Nat.mod_lt _ (by simp)
          rw [List.getElem?_eq_getElem hlt] at hrs
          cases hrs
      have hrs := hempty _ hno
      -- the least that is not listed would be ready
      induction i using Nat.strongRecOn with
      | ind i ih =>
        cases hd : listed.getD i false with
        | true => rfl
        | false =>
          exfalso
          have hin : i ∈ (List.range ops.size).filter fun i => !listed.getD i true && ((ops[i]?).map (·.after.all fun e => !Region.binds .any e || listed.getD e.on false)).getD false := by
            rw [List.mem_filter]
            refine ⟨by simpa using hi, ?_⟩
            have ho : ops[i]? = some ops[i] := by simp [hi]
            have hil : i < listed.size := by omega
            have hd1 : listed.getD i true = false := by
              rw [Array.getD_eq_getD_getElem?, Array.getElem?_eq_getElem hil] at hd ⊢
              simpa using hd
            rw [hd1, ho]
            simp only [Bool.not_false, Bool.true_and, Option.map_some, Option.getD_some]
            rw [Array.all_eq_true_iff_forall_mem]
            intro e hem
            cases hbi : Region.binds .any e with
            | false => rfl
            | true =>
              have hel := List.all_eq_true.1 he i (by simpa using hi)
              rw [ho] at hel
              have hpe := List.all_eq_true.1 hel e.on (List.mem_map.2 ⟨e, by rw [List.mem_filter]; exact ⟨by simpa using hem, hbi⟩, rfl⟩)
              have hlt := of_decide_eq_true hpe
              simp only [Bool.not_true, Bool.false_or]
              exact ih e.on hlt (by omega)
          rw [hrs] at hin
          cases hin
theorem sch_all {ops : Array Oper} (he : earlier ops = true) (t : Nat) : Sch ops (fun _ => false) (Region.linearise .any ops t) := by
  have hget : (fun i => (Array.replicate ops.size false).getD i false) = fun _ => false := by
    funext i
    rw [Array.getD_eq_getD_getElem?, Array.getElem?_replicate]
    split <;> rfl
  obtain ⟨l, h1, h2⟩ := sch_go he ops.size t (Array.replicate ops.size false) [] (by simp) (by
    unfold left
    refine Nat.le_trans (List.length_filter_le _ _) (by simp))
  unfold Region.linearise
  rw [h1]
  rw [hget] at h2
  simpa using h2
end Go.Proofs.YteigplfldhdakaaGreatDoor.Ev
/- A region that draws its order: reckoned once, held at every order. -/
namespace Go.Proofs.YteigplfldhdakaaGreatDoor.Ev
open Go Go.RowKit
structure FlR where
  op : Nat
  b : Nat
  ty : Nat
  L : List SV
  deriving DecidableEq
structure ChR where
  i : Nat
  env : List AV
  fl : List FlR
  v : AV
  after : AS
def blk (fs : List FlR) : List (Nat × AObj) := fs.map fun f => (f.b, .cells f.ty f.L)
/-- temporaries, some of the operations done -/
def tmG (D : Nat → Bool) : Nat → List (Option Nat) → List AV → List AV → List AV
  | p, d :: ds, v :: vs, tm => tmG D (p + 1) ds vs (if D p then putA d v tm else tm)
  | _, _, _, tm => tm
/-- what operation i may not lean on: what others write that don't hang on it -/
def topI (M : List Nat) (i : Nat) : Nat → List (Option Nat) → List AV → List AV
  | p, d :: ds, tm => topI M i (p + 1) ds (if (M.getD p 0).testBit i || p == i then tm else putA d .top tm)
  | _, [], tm => tm
def maskOf (M : List Nat) (o : Oper) : Nat := (depsOf o).foldl (fun acc q => acc ||| 2 ^ q ||| M.getD q 0) 0
def masks : List Oper → List Nat → List Nat
  | [], M => M
  | o :: r, M => masks r (M ++ [maskOf M o])
def avail (fls : List FlR) (ab : List Nat) (m : Nat) : List FlR := fls.filter fun f => m.testBit f.op && !ab.contains f.op
section
variable (P : Program) (ks : Nat → Bool × List FV → Bool) (cf : CF) (ops : Array Oper) (M : List Nat) (dsts : List (Option Nat)) (tm : List AV) (base : Nat)
/-- once, in the text's order -/
def p1 : List Nat → List AV → List FlR → List Nat → AS → Option (List AV × List FlR × List ChR)
  | [], vals, fls, _, cur => some (vals, fls, [])
  | i :: rest, vals, fls, ab, cur => match ops[i]? with
    | none => none
    | some o =>
      let m := M.getD i 0
      let env := tmG m.testBit 0 dsts vals (topI M i 0 dsts tm)
      match wantA ops o env with
      | none => none
      | some false => p1 rest (vals ++ [undA]) fls ab cur
      | some true =>
        if quietOp o.op then match aop P ks o (aeval env) ⟨blk (avail fls ab m) ++ cur.H, cur.nx⟩ with
          | some [(v, _)] => p1 rest (vals ++ [v]) fls ab cur
          | _ => none
        else match fop P o (aeval env) with
          | some (ty, L, sh) => p1 rest (vals ++ [sh.av (base + i)]) (fls ++ [⟨i, base + i, ty, L⟩]) ab cur
          | none => match evO P ks cf o env ⟨blk (avail fls ab m) ++ cur.H, cur.nx⟩ with
            | some [(v, s')] => match p1 rest (vals ++ [v]) fls (ab ++ (avail fls ab m).map (·.op)) s' with
              | some (vals', fls', chs) => some (vals', fls', ⟨i, env, avail fls ab m, v, s'⟩ :: chs)
              | none => none
            | _ => none
def Link : AS → List ChR → Prop
  | _, [] => True
  | s0, c :: r => (∃ o, ops[c.i]? = some o ∧ wantA ops o c.env = some true ∧ evO P ks cf o c.env ⟨blk c.fl ++ s0.H, s0.nx⟩ = some [(c.v, c.after)]) ∧ Link c.after r
theorem p1_link : ∀ (l : List Nat) {vals vals' : List AV} {fls fls' : List FlR} {ab : List Nat} {cur : AS} {chs : List ChR}, p1 P ks cf ops M dsts tm base l vals fls ab cur = some (vals', fls', chs) → Link P ks cf ops cur chs
  | [], vals, vals', fls, fls', ab, cur, chs, h => by
    unfold p1 at h
    cases h
    trivial
  | i :: rest, vals, vals', fls, fls', ab, cur, chs, h => by
    unfold p1 at h
    split at h
    · cases h
    · rename_i o ho
      dsimp only at h
      split at h
      · cases h
      · exact p1_link rest h
      · rename_i hw
        split at h
        · split at h
          · exact p1_link rest h
          · cases h
        · split at h
          · exact p1_link rest h
          · split at h
            · rename_i v s' he
              split at h
              · rename_i vals2 fls2 chs2 hp
                cases h
                exact ⟨⟨o, ho, hw, he⟩, p1_link rest hp⟩
              · cases h
            · cases h
end
def lvl (s0 : AS) (chs : List ChR) : Nat → AS
  | 0 => s0
  | j + 1 => match chs[j]? with | some c => c.after | none => s0
def abs' (chs : List ChR) (j : Nat) : List Nat := ((chs.take j).flatMap (·.fl)).map (·.op)
def allowedJ (M : List Nat) (cl : List Nat) (i j : Nat) : Bool := cl.zipIdx.all fun x => (!(M.getD i 0).testBit x.1 || decide (x.2 < j)) && (!(M.getD x.1 0).testBit i || decide (j ≤ x.2))
section
variable (P : Program) (ks : Nat → Bool × List FV → Bool) (ops : Array Oper) (M : List Nat) (dsts : List (Option Nat)) (tm : List AV) (base : Nat) (vals : List AV) (fls : List FlR) (chs : List ChR) (s0 : AS)
def okOp (i : Nat) : Bool :=
  match ops[i]? with
  | none => false
  | some o =>
    if (chs.map (·.i)).contains i then true else
    fls.all (fun f => f.op != i) && (match wantA ops o (tmG (M.getD i 0).testBit 0 dsts vals (topI M i 0 dsts tm)) with
      | none => false
      | some false => decide (vals[i]? = some undA)
      | some true => quietOp o.op && (List.range (chs.length + 1)).all fun j => !allowedJ M (chs.map (·.i)) i j ||
          (match aop P ks o (aeval (tmG (M.getD i 0).testBit 0 dsts vals (topI M i 0 dsts tm))) ⟨blk (avail fls (abs' chs j) (M.getD i 0)) ++ (lvl s0 chs j).H, (lvl s0 chs j).nx⟩ with
          | some [(v, _)] => decide (vals[i]? = some v)
          | _ => false)) ||
    (match wantA ops o (tmG (M.getD i 0).testBit 0 dsts vals (topI M i 0 dsts tm)), fop P o (aeval (tmG (M.getD i 0).testBit 0 dsts vals (topI M i 0 dsts tm))) with
      | some true, some (ty, L, sh) => decide ((⟨i, base + i, ty, L⟩ : FlR) ∈ fls) && decide (vals[i]? = some (sh.av (base + i)))
      | _, _ => false)
def okCh (k : Nat) (c : ChR) : Bool :=
  decide (c.env = tmG (M.getD c.i 0).testBit 0 dsts vals (topI M c.i 0 dsts tm)) && decide (vals[c.i]? = some c.v) && c.fl.all (fun f => decide (f ∈ fls) && (M.getD c.i 0).testBit f.op && !(abs' chs k).contains f.op) &&
    fls.all (fun f => f.op != c.i) && decide (c.fl.map (·.op)).Nodup && (match chs[k + 1]? with | some c' => (M.getD c'.i 0).testBit c.i | none => true)
def okMask : Bool := (List.range ops.size).all fun i => match ops[i]? with | some o => decide (M.getD i 0 = maskOf M o) | none => false
def okAll : Bool :=
  earlier ops && okMask ops M && decide (vals.length = ops.size) && decide ((dsts.filterMap id).Nodup) && decide (dsts = ops.toList.map (·.dst)) && (List.range ops.size).all (okOp P ks ops M dsts tm base vals fls chs s0) &&
    (chs.zipIdx.all fun x => okCh M dsts tm vals fls chs x.2 x.1) && decide (fls.map (·.op)).Nodup && fls.all (fun f => decide (f.b = base + f.op) && decide (f.op < ops.size))
end
/-- a region that draws its order -/
def evD (P : Program) (ks : Nat → Bool × List FV → Bool) (cf : CF) (ops : Array Oper) (tm : List AV) (s : AS) : Option (List (List AV × AS)) :=
  let M := masks ops.toList []
  let dsts := ops.toList.map (·.dst)
  let s0 : AS := ⟨s.H, s.nx + ops.size⟩
  match p1 P ks cf ops M dsts tm s.nx (List.range ops.size) [] [] [] s0 with
  | some (vals, fls, chs) =>
    if okAll P ks ops M dsts tm s.nx vals fls chs s0 then
      some [(tmG (fun _ => true) 0 dsts vals tm, ⟨blk (fls.filter fun f => !(abs' chs chs.length).contains f.op) ++ (lvl s0 chs chs.length).H, (lvl s0 chs chs.length).nx⟩)]
    else none
  | none => none
end Go.Proofs.YteigplfldhdakaaGreatDoor.Ev
/- What a region's operations may lean on. -/
namespace Go.Proofs.YteigplfldhdakaaGreatDoor.Ev
open Go Go.RowKit
theorem putA_len (d : Option Nat) (v : AV) (tm : List AV) : (putA d v tm).length = tm.length := by cases d <;> simp [putA]
theorem putA_ne {d : Option Nat} {v : AV} {tm : List AV} {t : Nat} (h : d ≠ some t) : (putA d v tm)[t]? = tm[t]? := by
  cases d with
  | none => rfl
  | some d' =>
    show (tm.set d' v)[t]? = _
    rw [List.getElem?_set_ne (fun e => h (by rw [e]))]
theorem tmG_len (D : Nat → Bool) : ∀ (p : Nat) (ds : List (Option Nat)) (vs tm : List AV), (tmG D p ds vs tm).length = tm.length
  | _, [], _, _ => rfl
  | _, _ :: _, [], _ => rfl
  | p, d :: ds, v :: vs, tm => by
    show (tmG D (p + 1) ds vs (if D p then putA d v tm else tm)).length = _
    rw [tmG_len]
    split
    · exact putA_len _ _ _
    · rfl
theorem tmG_none {D : Nat → Bool} {t : Nat} : ∀ {p : Nat} {ds : List (Option Nat)} {vs tm : List AV}, (∀ k, ds[k]? = some (some t) → D (p + k) = false) → (tmG D p ds vs tm)[t]? = tm[t]?
  | _, [], _, _, _ => rfl
  | _, _ :: _, [], _, _ => rfl
  | p, d :: ds, v :: vs, tm, h => by
    show (tmG D (p + 1) ds vs (if D p then putA d v tm else tm))[t]? = _
    rw [tmG_none (fun k hk => by rw [Nat.add_assoc, Nat.add_comm 1 k]; exact h (k + 1) (by simpa using hk))]
    split
    · rename_i hD
      refine putA_ne fun e => ?_
      have := h 0 (by simp [e])
      rw [Nat.add_zero, hD] at this
      cases this
    · rfl
theorem tmG_some {D : Nat → Bool} {t : Nat} {v : AV} : ∀ {p k : Nat} {ds : List (Option Nat)} {vs tm : List AV}, ds[k]? = some (some t) → vs[k]? = some v → D (p + k) = true → (∀ k', ds[k']? = some (some t) → k' = k) → t < tm.length → (tmG D p ds vs tm)[t]? = some v
  | p, 0, d :: ds, v' :: vs, tm, h1, h2, h3, h4, h5 => by
    have hd : d = some t := by simpa using h1
    have hv : v' = v := by simpa using h2
    subst hd
    subst hv
    rw [Nat.add_zero] at h3
    show (tmG D (p + 1) ds vs (if D p then putA (some t) v' tm else tm))[t]? = _
    rw [if_pos h3, tmG_none (fun k hk => by have := h4 (k + 1) (by simpa using hk); omega)]
    show (tm.set t v')[t]? = _
    simp [h5]
  | p, k + 1, d :: ds, v' :: vs, tm, h1, h2, h3, h4, h5 => by
    show (tmG D (p + 1) ds vs (if D p then putA d v' tm else tm))[t]? = _
    refine tmG_some (k := k) (by simpa using h1) (by simpa using h2) (by rw [← h3]; congr 1; omega) (fun k' hk' => by have := h4 (k' + 1) (by simpa using hk'); omega) ?_
    split
    · rw [putA_len]; exact h5
    · exact h5
  | _, _, [], _, _, h1, _, _, _, _ => by simp at h1
  | _, _, _ :: _, [], _, _, h2, _, _, _ => by simp at h2
theorem topI_len (M : List Nat) (i : Nat) : ∀ (p : Nat) (ds : List (Option Nat)) (tm : List AV), (topI M i p ds tm).length = tm.length
  | _, [], _ => rfl
  | p, d :: ds, tm => by
    show (topI M i (p + 1) ds (if (M.getD p 0).testBit i || p == i then tm else putA d .top tm)).length = _
    rw [topI_len]
    split
    · rfl
    · exact putA_len _ _ _
theorem topI_keep {M : List Nat} {i t : Nat} : ∀ {p : Nat} {ds : List (Option Nat)} {tm : List AV}, (∀ k, ds[k]? = some (some t) → ((M.getD (p + k) 0).testBit i || (p + k) == i) = true) → (topI M i p ds tm)[t]? = tm[t]?
  | _, [], _, _ => rfl
  | p, d :: ds, tm, h => by
    show (topI M i (p + 1) ds (if (M.getD p 0).testBit i || p == i then tm else putA d .top tm))[t]? = _
    rw [topI_keep (fun k hk => by rw [Nat.add_assoc, Nat.add_comm 1 k]; exact h (k + 1) (by simpa using hk))]
    split
    · rfl
    · rename_i hn
      refine putA_ne fun e => hn ?_
      have := h 0 (by simp [e])
      rwa [Nat.add_zero] at this
theorem topI_top {M : List Nat} {i t : Nat} : ∀ {p k : Nat} {ds : List (Option Nat)} {tm : List AV}, ds[k]? = some (some t) → ((M.getD (p + k) 0).testBit i || (p + k) == i) = false → (∀ k', ds[k']? = some (some t) → k' = k) → t < tm.length → (topI M i p ds tm)[t]? = some .top
  | p, 0, d :: ds, tm, h1, h3, h4, h5 => by
    have hd : d = some t := by simpa using h1
    subst hd
    rw [Nat.add_zero] at h3
    show (topI M i (p + 1) ds (if (M.getD p 0).testBit i || p == i then tm else putA (some t) .top tm))[t]? = _
    rw [h3]
    rw [topI_keep (fun k hk => by have := h4 (k + 1) (by simpa using hk); omega)]
    show (tm.set t .top)[t]? = _
    simp [h5]
  | p, k + 1, d :: ds, tm, h1, h3, h4, h5 => by
    show (topI M i (p + 1) ds (if (M.getD p 0).testBit i || p == i then tm else putA d .top tm))[t]? = _
    refine topI_top (k := k) (by simpa using h1) (by rw [← h3, show p + 1 + k = p + (k + 1) by omega]) (fun k' hk' => by have := h4 (k' + 1) (by simpa using hk'); omega) ?_
    split
    · exact h5
    · rw [putA_len]; exact h5
  | _, _, [], _, h1, _, _, _ => by simp at h1
/-- **what an operation sees is there, whatever has been done** -/
theorem env_le {γ : Pl} {A D : Nat → Bool} {M : List Nat} {i : Nat} {ds : List (Option Nat)} {vs tm : List AV} {a : Act} (hv : vs.length = ds.length) (hu : ∀ (t k k' : Nat), ds[k]? = some (some t) → ds[k']? = some (some t) → k = k')
    (hA : ∀ k, A k = true → D k = true) (hD : ∀ k, D k = true → (M.getD k 0).testBit i = false ∧ k ≠ i) (ht : TR γ (tmG D 0 ds vs tm) a) : TR γ (tmG A 0 ds vs (topI M i 0 ds tm)) a := by
  have hl := All2.len ht
  rw [tmG_len] at hl
  refine All2.of (by rw [tmG_len, topI_len]; exact hl) fun t x y hx hy => ?_
  have htl : t < tm.length := by
    have := (List.getElem?_eq_some_iff.1 hx).1
    rwa [tmG_len, topI_len] at this
  have fin : (tmG D 0 ds vs tm)[t]? = some x → RA γ x y := fun h => by
    obtain ⟨u, h1, h2⟩ := All2.get t ht h
    rw [hy] at h1
    cases h1
    exact h2
  by_cases hw : ∃ k : Nat, ds[k]? = some (some t)
  · obtain ⟨k, hk⟩ := hw
    have hkl : k < vs.length := by rw [hv]; exact (List.getElem?_eq_some_iff.1 hk).1
    have huk : ∀ k' : Nat, ds[k']? = some (some t) → k' = k := fun k' h => hu t k' k h hk
    have hvk := List.getElem?_eq_getElem hkl
    by_cases hAk : A k = true
    · rw [tmG_some hk hvk (by rw [Nat.zero_add]; exact hAk) huk (by rw [topI_len]; exact htl)] at hx
      exact fin (by rw [tmG_some hk hvk (by rw [Nat.zero_add]; exact hA k hAk) huk htl]; exact hx)
    · have hAf : A k = false := by simpa using hAk
      rw [tmG_none (fun k' hk' => by rw [huk k' hk', Nat.zero_add]; exact hAf)] at hx
      cases hc : ((M.getD (0 + k) 0).testBit i || (0 + k) == i) with
      | true =>
        rw [topI_keep (fun k' hk' => by rw [huk k' hk']; exact hc)] at hx
        have hDk : D k = false := by
          cases hd : D k with
          | false => rfl
          | true =>
            obtain ⟨d1, d2⟩ := hD k hd
            rw [Nat.zero_add, d1] at hc
            simp at hc
            exact absurd hc d2
        exact fin (by rw [tmG_none (fun k' hk' => by rw [huk k' hk', Nat.zero_add]; exact hDk)]; exact hx)
      | false =>
        rw [topI_top hk hc huk htl] at hx
        cases hx
        trivial
  · have hno : ∀ k : Nat, ds[k]? ≠ some (some t) := fun k hk => hw ⟨k, hk⟩
    rw [tmG_none (fun k hk => absurd hk (hno k)), topI_keep (fun k hk => absurd hk (hno k))] at hx
    exact fin (by rw [tmG_none (fun k hk => absurd hk (hno k))]; exact hx)
/-- one more is done -/
theorem tmG_more {γ : Pl} {D : Nat → Bool} {i : Nat} {ds : List (Option Nat)} {vs tm : List AV} {a : Act} {d : Option Nat} {v : AV} {u : Value} (hv : vs.length = ds.length) (hu : ∀ (t k k' : Nat), ds[k]? = some (some t) → ds[k']? = some (some t) → k = k')
    (hd : ds[i]? = some d) (hvi : vs[i]? = some v) (ht : TR γ (tmG D 0 ds vs tm) a) (hr : RA γ v u) : TR γ (tmG (fun k => k == i || D k) 0 ds vs tm) (a.put d u) := by
  have e : tmG (fun k => k == i || D k) 0 ds vs tm = putA d v (tmG D 0 ds vs tm) := by
    apply List.ext_getElem?
    intro t
    by_cases hdt : d = some t
    · subst hdt
      have huk : ∀ k' : Nat, ds[k']? = some (some t) → k' = i := fun k' h => hu t k' i h hd
      by_cases htl : t < tm.length
      · rw [tmG_some hd hvi (by simp) huk htl]
        show _ = ((tmG D 0 ds vs tm).set t v)[t]?
        simp [tmG_len, htl]
      · rw [List.getElem?_eq_none (by rw [tmG_len]; omega), List.getElem?_eq_none (by rw [putA_len, tmG_len]; omega)]
    · rw [putA_ne hdt]
      by_cases hw : ∃ k : Nat, ds[k]? = some (some t)
      · obtain ⟨k, hk⟩ := hw
        have hki : k ≠ i := fun e => by rw [e, hd] at hk; exact hdt (by simpa using hk)
        have huk : ∀ k' : Nat, ds[k']? = some (some t) → k' = k := fun k' h => hu t k' k h hk
        have hkl : k < vs.length := by rw [hv]; exact (List.getElem?_eq_some_iff.1 hk).1
        have hvk := List.getElem?_eq_getElem hkl
        by_cases htl : t < tm.length
        · cases hDk : D k with
          | true =>
            rw [tmG_some hk hvk (by simp [hDk]) huk htl, tmG_some hk hvk (by rw [Nat.zero_add]; exact hDk) huk htl]
          | false =>
            rw [tmG_none (fun k' hk' => by rw [huk k' hk', Nat.zero_add]; simp [hDk, hki]), tmG_none (fun k' hk' => by rw [huk k' hk', Nat.zero_add]; exact hDk)]
        · rw [List.getElem?_eq_none (by rw [tmG_len]; omega), List.getElem?_eq_none (by rw [tmG_len]; omega)]
      · have hno : ∀ k : Nat, ds[k]? ≠ some (some t) := fun k hk => hw ⟨k, hk⟩
        rw [tmG_none (fun k hk => absurd hk (hno k)), tmG_none (fun k hk => absurd hk (hno k))]
  rw [e]
  exact putA_ok ht hr
theorem fold_mask (M : List Nat) (p : Nat) : ∀ (l : List Nat) (acc : Nat), (l.foldl (fun acc q => acc ||| 2 ^ q ||| M.getD q 0) acc).testBit p = true → acc.testBit p = true ∨ ∃ q ∈ l, p = q ∨ (M.getD q 0).testBit p = true
  | [], acc, h => .inl h
  | q :: l, acc, h => by
    rw [List.foldl_cons] at h
    rcases fold_mask M p l _ h with h1 | ⟨q', h1, h2⟩
    · rw [Nat.testBit_or, Nat.testBit_or, Nat.testBit_two_pow] at h1
      simp only [Bool.or_eq_true, decide_eq_true_eq] at h1
      rcases h1 with (h1 | h1) | h1
      · exact .inl h1
      · exact .inr ⟨q, List.mem_cons_self .., .inl h1.symm⟩
      · exact .inr ⟨q, List.mem_cons_self .., .inr h1⟩
    · exact .inr ⟨q', List.mem_cons_of_mem _ h1, h2⟩
theorem mask_closed {M : List Nat} {o : Oper} {p : Nat} (h : (maskOf M o).testBit p = true) : ∃ q ∈ depsOf o, p = q ∨ (M.getD q 0).testBit p = true := by
  rcases fold_mask M p _ _ h with h1 | h1
  · simp at h1
  · exact h1
theorem uniq_of : ∀ {ds : List (Option Nat)}, (ds.filterMap id).Nodup → ∀ (t k k' : Nat), ds[k]? = some (some t) → ds[k']? = some (some t) → k = k'
  | [], _, _, _, _, h, _ => by simp at h
  | d :: ds, hn, t, 0, 0, _, _ => rfl
  | d :: ds, hn, t, 0, k' + 1, h, h' => by
    exfalso
    have hd : d = some t := by simpa using h
    subst hd
    have h2 : ds[k']? = some (some t) := by simpa using h'
    simp only [List.filterMap_cons, id, List.nodup_cons] at hn
    exact hn.1 (List.mem_filterMap.2 ⟨some t, List.mem_of_getElem? h2, rfl⟩)
  | d :: ds, hn, t, k + 1, 0, h, h' => by
    exfalso
    have hd : d = some t := by simpa using h'
    subst hd
    have h2 : ds[k]? = some (some t) := by simpa using h
    simp only [List.filterMap_cons, id, List.nodup_cons] at hn
    exact hn.1 (List.mem_filterMap.2 ⟨some t, List.mem_of_getElem? h2, rfl⟩)
  | d :: ds, hn, t, k + 1, k' + 1, h, h' => by
    have hn2 : (ds.filterMap id).Nodup := by
      cases d with
      | none => simpa [List.filterMap_cons] using hn
      | some x => simp only [List.filterMap_cons, id, List.nodup_cons] at hn; exact hn.2
    exact congrArg (· + 1) (uniq_of hn2 t k k' (by simpa using h) (by simpa using h'))
end Go.Proofs.YteigplfldhdakaaGreatDoor.Ev
