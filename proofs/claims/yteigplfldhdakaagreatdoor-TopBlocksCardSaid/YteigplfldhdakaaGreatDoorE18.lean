/- A region's operations, calls among them, in the text's order. -/
import Derived.Test.YteigplfldhdakaaGreatDoorE17
import Derived.AtR
import Derived.RangeFuncIn
import Derived.Below
import Derived.RangeFuncLeaves
set_option linter.unusedVariables false
set_option linter.unusedSimpArgs false
namespace Go.Proofs.YteigplfldhdakaaGreatDoor.Ev
open Go Go.RowKit
inductive Cal where
  | fn (f : Nat) | yl (l : Nat)
abbrev CF := Cal → List AV → AS → Option (List (AV × AS))
/-- what stands for all that the run began with -/
structure Inv (w0 : World) (γ : Pl) (s : AS) (w : World) : Prop where
  hr : HR γ s w
  im : ∀ k, Im γ s k → w0.heap.size ≤ k
  bel : Below w0.heap.size w0 w
theorem Inv.step {w0 : World} {γ γ' : Pl} {s s' : AS} {w w' : World} (h : Inv w0 γ s w) (hr : HR γ' s' w') (hf : Fr γ s w γ' s' w') : Inv w0 γ' s' w' := by
  refine ⟨hr, fun k hk => ?_, ⟨hf.same.1.trans h.bel.os, hf.same.2.1.trans h.bel.tape, hf.same.2.2.trans h.bel.output, Nat.le_trans h.bel.size hf.size, fun k hk => ?_⟩⟩
  · rcases hf.im k hk with h1 | h1
    · exact h.im k h1
    · exact Nat.le_trans h.bel.size h1
  · exact (hf.keep k (Nat.lt_of_lt_of_le hk h.bel.size) fun hi => by have := h.im k hi; omega).trans (h.bel.block k hk)
def aeval (tm : List AV) : Operand → Option AV
  | .tmp t => tm[t]?
  | .const v => absV v
  | .func f => some (.sc (.f (.fn f)))
  | .global _ => none
abbrev TR (γ : Pl) (tm : List AV) (a : Act) : Prop := All2 (RA γ) tm a.tmps.toList
theorem aeval_ok {γ : Pl} {tm : List AV} {a : Act} (h : TR γ tm a) : Op2 γ (aeval tm) a.eval := fun x v hx => by
  cases x with
  | tmp t =>
    obtain ⟨u, h1, h2⟩ := All2.get t h hx
    have e : a.eval (.tmp t) = u := by
      show a.tmps.getD t undef = u
      rw [Array.getElem?_toList] at h1
      rw [Array.getD_eq_getD_getElem?, h1]
      rfl
    rw [e]
    exact h2
  | const v => exact absV_rel hx
  | func f => cases hx; exact rfl
  | global g => cases hx
def putA (dst : Option Nat) (v : AV) (tm : List AV) : List AV := match dst with | some d => tm.set d v | none => tm
theorem putA_ok {γ : Pl} {tm : List AV} {a : Act} {dst : Option Nat} {v : AV} {u : Value} (h : TR γ tm a) (hv : RA γ v u) : TR γ (putA dst v tm) (a.put dst u) := by
  cases dst with
  | none => exact h
  | some d =>
    show All2 (RA γ) (tm.set d v) (a.tmps.setIfInBounds d u).toList
    rw [Array.toList_setIfInBounds]
    exact All2.set d h hv
theorem put_defers (a : Act) (dst : Option Nat) (u : Value) : (a.put dst u).defers = a.defers := by cases dst <;> rfl
def wantA (ops : Array Oper) (o : Oper) (tm : List AV) : Option Bool :=
  match o.guard with
  | none => some true
  | some (j, want) => match (ops[j]?).bind (·.dst) with
    | some d => match tm[d]? with
      | some (.sc (.f (.bool b))) => some (b == want)
      | _ => none
    | none => none
theorem wantA_ok {γ : Pl} {tm : List AV} {a : Act} {ops : Array Oper} {o : Oper} {b : Bool} (h : TR γ tm a) (hw : wantA ops o tm = some b) : Region.wanted o (yielded ops a.tmps) = b := by
  unfold wantA at hw
  unfold Region.wanted
  split at hw
  · rename_i hg
    rw [hg]
    cases hw
    rfl
  · rename_i j want hg
    rw [hg]
    split at hw
    · rename_i d hd
      split at hw
      · rename_i v hv
        cases hw
        obtain ⟨u, h1, h2⟩ := All2.get d h hv
        have hu : u = .bool v := h2
        rw [Array.getElem?_toList] at h1
        simp only [yielded, hd, Option.bind_some, h1, hu]
        cases v <;> cases want <;> rfl
      · cases hw
    · cases hw
def argsA (tm : List AV) : List Operand → Option (List AV)
  | [] => some []
  | x :: r => match aeval tm x, argsA tm r with
    | some v, some vs => some (v :: vs)
    | _, _ => none
theorem argsA_ok {γ : Pl} {tm : List AV} {a : Act} (h : TR γ tm a) : ∀ {xs : List Operand} {vs : List AV}, argsA tm xs = some vs → All2 (RA γ) vs (xs.map a.eval)
  | [], _, e => by cases e; trivial
  | x :: r, _, e => by
    unfold argsA at e
    split at e
    · rename_i v vs h1 h2
      cases e
      exact ⟨aeval_ok h _ _ h1, argsA_ok h h2⟩
    · cases e
def capV (cs : List Nat) : List AV := cs.map fun b => .sc (.pt b 0)
theorem capV_ok {γ : Pl} : ∀ {cs : List Nat} {us : List Value}, All2 (RP γ) cs us → All2 (RA γ) (capV cs) us
  | [], [], _ => trivial
  | _ :: _, _ :: _, h => ⟨by obtain ⟨B, d, S, h1, h2⟩ := h.1; exact ⟨B, d, S, h1, h2⟩, capV_ok h.2⟩
  | [], _ :: _, h => h.elim
  | _ :: _, [], h => h.elim
def evO (P : Program) (ks : Nat → Bool × List FV → Bool) (cf : CF) (o : Oper) (tm : List AV) (s : AS) : Option (List (AV × AS)) :=
  match o.op with
  | .call { callee := .value f, args, argTypes } => match aeval tm f, argsA tm args.toList with
    | some (.sc (.f (.fn g))), some xs => cf (.fn g) xs s
    | some (.sc (.cl g cs)), some xs => cf (.fn g) (xs ++ capV cs) s
    | some (.sc (.yl l)), some xs => cf (.yl l) xs s
    | _, _ => none
  | _ => aop P ks o (aeval tm) s
/-- what a call of a function, of a round, is reckoned to do -/
structure SoundC (P : Program) (w0 : World) (cf : CF) : Prop where
  fn : ∀ f args s outs γ w us, Inv w0 γ s w → All2 (RA γ) args us → cf (.fn f) args s = some outs →
    (callFunc f us.toArray).run P w = .ok (.enter f us.toArray) w ∧ Calls P f us.toArray w fun e w' => ∃ v s' u, (v, s') ∈ outs ∧ e = .returned u ∧ Done γ s w v s' u w'
  yl : ∀ l args s outs γ w us, Inv w0 γ s w → All2 (RA γ) args us → cf (.yl l) args s = some outs → ∀ B d S, γ l = some (B, d, S) →
    ∃ fn tmps assign body, (Instr.yield B us.toArray).run P w = .ok (.round B fn tmps assign body) w ∧ ∀ cfr cs, ∃ v s' u w', (v, s') ∈ outs ∧ Done γ s w v s' u w' ∧
      Steps P (lone (Frame.round B fn tmps assign body .normal) (cfr :: cs) w) (lone (cfr.finish u) cs w')
section
variable {P : Program} {ks : Nat → Bool × List FV → Bool} {w0 : World} {cf : CF} {γ : Pl} {s : AS} {w : World}
theorem arr_app (xs ys : List Value) : #[] ++ xs.toArray ++ ys.toArray = (xs ++ ys).toArray := by simp
/-- one operation, where it stands in its region -/
theorem evO_ok (hK : KeyLaw P ks) (hC : SoundC P w0 cf) {b : Frame} {a : Act} {k : List Item} {cs : List Frame} {ops : Array Oper} {i : Nat} {rest : List Nat} {o : Oper} {tm : List AV} {outs : List (AV × AS)}
    (h : Inv w0 γ s w) (ht : TR γ tm a) (ho : ops[i]? = some o) (hw : Region.wanted o (yielded ops a.tmps) = true) (he : evO P ks cf o tm s = some outs) :
    ∃ v s' u w', (v, s') ∈ outs ∧ Done γ s w v s' u w' ∧ Steps P (lone (b.atR a (.inRegion ops (i :: rest) :: k)) cs w) (lone (b.atR (a.put o.dst u) (.inRegion ops rest :: k)) cs w') := by
  have hfin : ∀ v, (b.atR a (.inRegion ops (i :: rest) :: k)).finish v = b.atR (a.put o.dst v) (.inRegion ops rest :: k) := by
    intro v; rw [Frame.finish_atR, ho]; rfl
  have hg := stepGR_op (P := P) (b := b) (k := k) (cs := cs) (w := w) (rest := rest) ho hw
  have henter : ∀ {f args}, (execOp a.eval o).run P w = .ok (.enter f args) w → (∀ c, o.op ≠ .defer c) →
      step P (lone (b.atR a (.inRegion ops (i :: rest) :: k)) cs w) = .next (lone (Frame.enter P f args .normal) (b.atR a (.inRegion ops (i :: rest) :: k) :: cs) w) := fun hr hd =>
    step_lone_go (by rw [hg, Oper.semAt_eq _ _ _ hd]; simp [stepG.apply, hr, Frame.atR])
  have hcall : ∀ {f : Nat} {args : Array Value} {vs : List (AV × AS)}, (execOp a.eval o).run P w = .ok (.enter f args) w → (∀ c, o.op ≠ .defer c) → Calls P f args w (fun e w' => ∃ v s' u, (v, s') ∈ vs ∧ e = .returned u ∧ Done γ s w v s' u w') →
      ∃ v s' u w', (v, s') ∈ vs ∧ Done γ s w v s' u w' ∧ Steps P (lone (b.atR a (.inRegion ops (i :: rest) :: k)) cs w) (lone (b.atR (a.put o.dst u) (.inRegion ops rest :: k)) cs w') := fun hr hd hc => by
    obtain ⟨e, w', fr, ⟨v, s', u, h1, rfl, h2⟩, hcomes, hfn, hleave⟩ := hc (b.atR a (.inRegion ops (i :: rest) :: k) :: cs)
    refine ⟨v, s', u, w', h1, h2, .head (henter hr hd) (Steps.trans hcomes (.one ?_))⟩
    rw [← hfin]
    exact step_leave_returned hleave
  unfold evO at he
  split at he
  · rename_i f args ats hop
    have hd : ∀ c, o.op ≠ .defer c := fun c e => by rw [hop] at e; cases e
    have hrun : ∀ {fn first captured}, a.eval f = .func fn first captured → (execOp a.eval o).run P w = (invoke (.fn fn captured) (first ++ args.map a.eval)).run P w := fun hf => by
      unfold execOp
      rw [hop]
      simp only [resolve, hf, Deferred.ofValue, Sem.run_bind, Sem.run_pure, Result.andThen_ok]
    split at he
    · rename_i g xs h1 h2
      have hf : a.eval f = .func (.func g) #[] #[] := aeval_ok ht _ _ h1
      have hargs := argsA_ok ht h2
      obtain ⟨k1, k2⟩ := hC.fn g xs s outs γ w _ h hargs he
      refine hcall ?_ hd k2
      rw [hrun hf]
      have e1 : (#[] : Array Value) ++ args.map a.eval ++ #[] = (args.toList.map a.eval).toArray := by apply Array.ext'; simp
      show (callFunc g ((#[] : Array Value) ++ args.map a.eval ++ #[])).run P w = _
      rw [e1]
      exact k1
    · rename_i g cps xs h1 h2
      obtain ⟨us, hf, hus⟩ := aeval_ok ht _ _ h1
      have hargs := All2.app (argsA_ok ht h2) (capV_ok hus)
      obtain ⟨k1, k2⟩ := hC.fn g _ s outs γ w _ h hargs he
      refine hcall ?_ hd k2
      rw [hrun hf]
      have e1 : (#[] : Array Value) ++ args.map a.eval ++ us.toArray = (args.toList.map a.eval ++ us).toArray := by apply Array.ext'; simp
      show (callFunc g ((#[] : Array Value) ++ args.map a.eval ++ us.toArray)).run P w = _
      rw [e1]
      exact k1
    · rename_i l xs h1 h2
      obtain ⟨B, d, S, hb, hf⟩ := aeval_ok ht _ _ h1
      have hargs := argsA_ok ht h2
      obtain ⟨fn, tmps, assign, body, k1, k2⟩ := hC.yl l xs s outs γ w _ h hargs he B d S hb
      obtain ⟨v, s', u, w', q1, q2, q3⟩ := k2 (b.atR a (.inRegion ops (i :: rest) :: k)) cs
      refine ⟨v, s', u, w', q1, q2, ?_⟩
      rw [← hfin]
      refine .head ?_ q3
      refine step_lone_go ?_
      have e1 : (#[] : Array Value) ++ args.map a.eval = (args.toList.map a.eval).toArray := by apply Array.ext'; simp
      have hrn : (execOp a.eval o).run P w = .ok (.round B fn tmps assign body) w := by
        rw [hrun hf]
        show (Instr.yield B ((#[] : Array Value) ++ args.map a.eval)).run P w = _
        rw [e1]
        exact k1
      rw [hg, Oper.semAt_eq _ _ _ hd]
      simp [stepG.apply, hrn, Frame.atR]
    · cases he
  · rename_i hnot
    have hd : ∀ c, o.op ≠ .defer c := fun c e => by
      unfold aop at he
      rw [e] at he
      cases he
    obtain ⟨v, s', u, w', q1, q2, q3⟩ := aop_ok hK h.hr (aeval_ok ht) he
    refine ⟨v, s', u, w', q1, q3, .one (step_lone_go ?_)⟩
    rw [hg, Oper.semAt_eq _ _ _ hd, ← hfin]
    rcases q2 with q2 | ⟨q2, rfl⟩
    · simp [stepG.apply, q2]
    · simp [stepG.apply, q2]
def bindL {α β : Type} : List α → (α → Option (List β)) → Option (List β)
  | [], _ => some []
  | x :: r, f => match f x, bindL r f with
    | some ys, some zs => some (ys ++ zs)
    | _, _ => none
theorem bindL_mem {α β : Type} {f : α → Option (List β)} : ∀ {l : List α} {zs : List β} {x : α}, bindL l f = some zs → x ∈ l → ∃ ys, f x = some ys ∧ ∀ y ∈ ys, y ∈ zs
  | a :: r, zs, x, h, hx => by
    unfold bindL at h
    split at h
    · rename_i ys qs h1 h2
      cases h
      rcases List.mem_cons.1 hx with rfl | hx
      · exact ⟨ys, h1, fun y hy => List.mem_append_left _ hy⟩
      · obtain ⟨ys', k1, k2⟩ := bindL_mem h2 hx
        exact ⟨ys', k1, fun y hy => List.mem_append_right _ (k2 y hy)⟩
    · cases h
/-- a region's operations in the text's order -/
def evOps (P : Program) (ks : Nat → Bool × List FV → Bool) (cf : CF) (ops : Array Oper) : List Nat → List AV → AS → Option (List (List AV × AS))
  | [], tm, s => some [(tm, s)]
  | i :: rest, tm, s => match ops[i]? with
    | none => none
    | some o => match wantA ops o tm with
      | some true => match evO P ks cf o tm s with
        | some outs => bindL outs fun r => evOps P ks cf ops rest (putA o.dst r.1 tm) r.2
        | none => none
      | some false => evOps P ks cf ops rest (putA o.dst undA tm) s
      | none => none
theorem evOps_ok (hK : KeyLaw P ks) (hC : SoundC P w0 cf) {b : Frame} {k : List Item} {cs : List Frame} {ops : Array Oper} : ∀ (l : List Nat) {γ : Pl} {s : AS} {w : World} {a : Act} {tm : List AV} {outs : List (List AV × AS)},
    Inv w0 γ s w → TR γ tm a → evOps P ks cf ops l tm s = some outs →
    ∃ tm' s' γ' w' a', (tm', s') ∈ outs ∧ HR γ' s' w' ∧ Fr γ s w γ' s' w' ∧ TR γ' tm' a' ∧ a'.defers = a.defers ∧ Steps P (lone (b.atR a (.inRegion ops l :: k)) cs w) (lone (b.atR a' k) cs w')
  | [], γ, s, w, a, tm, outs, h, ht, he => by
    cases he
    exact ⟨tm, s, γ, w, a, List.mem_cons_self .., h.hr, Fr.refl _ _ _, ht, rfl, .one stepR_region_end⟩
  | i :: rest, γ, s, w, a, tm, outs, h, ht, he => by
    unfold evOps at he
    split at he
    · cases he
    · rename_i o ho
      split at he
      · rename_i hw
        split at he
        · rename_i outs1 he1
          obtain ⟨v, s1, u, w1, q1, ⟨γ1, k1, k2, k3⟩, q3⟩ := evO_ok hK hC (b := b) (k := k) (cs := cs) (rest := rest) h ht ho (wantA_ok ht hw) he1
          obtain ⟨ys, e1, e2⟩ := bindL_mem he q1
          have hi := h.step k1 k2
          obtain ⟨tm', s', γ', w', a', r1, r2, r3, r4, r5, r6⟩ := evOps_ok hK hC (b := b) (k := k) (cs := cs) rest hi (putA_ok (All2.mono (fun _ _ x => RA.mono k2.sub x) ht) k3) e1
          exact ⟨tm', s', γ', w', a', e2 _ r1, r2, k2.trans r3, r4, r5.trans (put_defers _ _ _), q3.trans r6⟩
        · cases he
      · rename_i hw
        have hwc := wantA_ok ht hw
        have hs := stepR_op_skip (P := P) (b := b) (a := a) (k := k) (cs := cs) (w := w) (ops := ops) (i := i) (rest := rest) (by simp [ho, hwc])
        simp only [ho, Option.bind_some] at hs
        obtain ⟨tm', s', γ', w', a', r1, r2, r3, r4, r5, r6⟩ := evOps_ok hK hC (b := b) (k := k) (cs := cs) rest h (putA_ok ht (und_rel γ)) he
        exact ⟨tm', s', γ', w', a', r1, r2, r3, r4, r5.trans (put_defers _ _ _), .head hs r6⟩
      · cases he
end
end Go.Proofs.YteigplfldhdakaaGreatDoor.Ev
/- Code, in a frame, until the frame is left. -/
namespace Go.Proofs.YteigplfldhdakaaGreatDoor.Ev
open Go Go.RowKit
structure FI where
  fn : Nat
  ro : Option Nat
structure Out where
  jump : Option Code
  tm : List AV
  df : List Nat
  s : AS
abbrev ER := Array Oper → Bool → List AV → AS → Option (List (List AV × AS))
def startRound (s : AS) (l : Nat) : Option AS :=
  match fnd s.H l with
  | some (.loop .ready pend fn tm ps asn bd df) => some ⟨(l, .loop .busy pend fn tm ps asn bd df) :: ers s.H l, s.nx⟩
  | _ => none
def endRoundA (s : AS) (l : Nat) (jump : Option Code) : Option AS :=
  match fnd s.H l with
  | some (.loop st pend fn tm ps asn bd df) => some ⟨(l, .loop (if jump.isNone then .ready else .done) jump fn tm ps asn bd df) :: ers s.H l, s.nx⟩
  | _ => none
def endLoopA (s : AS) (l : Nat) : Option (Option Code × AS) :=
  match fnd s.H l with
  | some (.loop .busy pend fn tm ps asn bd df) => none
  | some (.loop st pend fn tm ps asn bd df) => some (pend, ⟨ers s.H l, s.nx⟩)
  | _ => none
def enterLoopA (fi : FI) (tm : List AV) (ps : Array Tmp) (asn bd : Code) (s : AS) : Option (Nat × List Nat × AS) :=
  match fi.ro with
  | none => some (s.nx + 1, [s.nx], ⟨(s.nx + 1, .loop .ready none fi.fn tm ps asn bd s.nx) :: (s.nx, .defs) :: s.H, s.nx + 2⟩)
  | some l0 => match fnd s.H l0 with
    | some (.loop _ _ _ _ _ _ _ df) => some (s.nx, [], ⟨(s.nx, .loop .ready none fi.fn tm ps asn bd df) :: s.H, s.nx + 1⟩)
    | _ => none
def calleeA (v : AV) (l : Nat) : Option (Nat × List AV) :=
  match v with
  | .sc (.f (.fn f)) => some (f, [.sc (.yl l)])
  | .sc (.cl f cs) => some (f, .sc (.yl l) :: capV cs)
  | _ => none
def evT (cf : CF) (er : ER) (fi : FI) : Nat → List Item → List AV → List Nat → AS → Option (List Out)
  | 0, _, _, _, _ => none
  | m + 1, todo, tm, df, s =>
    match todo with
    | [] => some [⟨none, tm, df, s⟩]
    | .code .ret :: _ => some [⟨some .ret, tm, df, s⟩]
    | .code .skip :: k => evT cf er fi m k tm df s
    | .code (.label _) :: k => evT cf er fi m k tm df s
    | .inBlock _ :: k => evT cf er fi m k tm df s
    | .inScope _ :: k => evT cf er fi m k tm df s
    | .code (.seq x y) :: k => evT cf er fi m (.code x :: .code y :: k) tm df s
    | .code (.cond c x y) :: k => match aeval tm c with
      | some (.sc (.f (.bool true))) => evT cf er fi m (.code x :: k) tm df s
      | some (.sc (.f (.bool false))) => evT cf er fi m (.code y :: k) tm df s
      | _ => none
    | .code (.block id c) :: k => evT cf er fi m (.code c :: .inBlock id :: k) tm df s
    | .code (.loop c) :: k => evT cf er fi m (.code c :: .inLoop c :: k) tm df s
    | .inLoop c :: k => evT cf er fi m (.code c :: .inLoop c :: k) tm df s
    | .code (.scope c) :: k => evT cf er fi m (.code c :: .inScope c :: k) tm df s
    | .code (.exit id) :: k => match exitTo id k with
      | some k' => evT cf er fi m k' tm df s
      | none => some [⟨some (.exit id), tm, df, s⟩]
    | .code (.goto l) :: k => match gotoIn l k with
      | some k' => evT cf er fi m k' tm df s
      | none => some [⟨some (.goto l), tm, df, s⟩]
    | .code (.region id ops draw) :: k => match er ops draw tm s with
      | some outs => bindL outs fun r => evT cf er fi m k r.1 df r.2
      | none => none
    | .code (.rangeFunc g ps asn bd) :: k => match aeval tm g, enterLoopA fi tm ps asn bd s with
      | some gv, some (l, mk, s1) => match calleeA gv l with
        | some (f, args) => match cf (.fn f) args s1 with
          | some outs => bindL outs fun r => match endLoopA r.2 l with
            | some (jump, s2) => evT cf er fi m ((jump.map Item.code).toList ++ k) tm (mk ++ df) s2
            | none => none
          | none => none
        | none => none
      | _, _ => none
    | .beginRound :: k => match fi.ro with
      | some l => match startRound s l with
        | some s' => evT cf er fi m k tm df s'
        | none => none
      | none => none
    | _ => none
def FIR (γ : Pl) (fi : FI) (b : Frame) : Prop := b.fn = fi.fn ∧ b.kind = .normal ∧ match fi.ro with
  | none => b.roundOf = none
  | some l => ∃ B d S, γ l = some (B, d, S) ∧ b.roundOf = some B
theorem FIR.mono {γ γ' : Pl} {fi : FI} {b : Frame} (hs : Sub γ γ') (h : FIR γ fi b) : FIR γ' fi b := by
  obtain ⟨h1, h2, h3⟩ := h
  refine ⟨h1, h2, ?_⟩
  cases hro : fi.ro with
  | none => rw [hro] at h3; exact h3
  | some l =>
    rw [hro] at h3
    obtain ⟨B, d, S, k1, k2⟩ := h3
    exact ⟨B, d, S, hs _ _ k1, k2⟩
def DR (γ : Pl) (d : Nat) (D : Deferred) : Prop := ∃ B d' S, γ d = some (B, d', S) ∧ D = { target := .collected B, args := #[] }
theorem DR.mono {γ γ' : Pl} (hs : Sub γ γ') {d : Nat} {D : Deferred} (h : DR γ d D) : DR γ' d D := by
  obtain ⟨B, d', S, h1, h2⟩ := h
  exact ⟨B, d', S, hs _ _ h1, h2⟩
/-- where a frame is left -/
def AtLeave (todo : List Item) (jump : Option Code) : Prop :=
  (jump = none ∧ todo = []) ∨ (jump = some .ret ∧ ∃ k, todo = .code .ret :: k) ∨ (∃ id k, jump = some (.exit id) ∧ todo = .code (.exit id) :: k ∧ exitTo id k = none) ∨ (∃ l k, jump = some (.goto l) ∧ todo = .code (.goto l) :: k ∧ gotoIn l k = none)
def RegOk (P : Program) (w0 : World) (er : ER) : Prop :=
  ∀ (b : Frame) (a : Act) (k : List Item) (cs : List Frame) (γ : Pl) (s : AS) (w : World) (tm : List AV) (outs : List (List AV × AS)) (id : Nat) (ops : Array Oper) (draw : Bool), Inv w0 γ s w → TR γ tm a → er ops draw tm s = some outs →
    ∃ tm' s' γ' w' a', (tm', s') ∈ outs ∧ HR γ' s' w' ∧ Fr γ s w γ' s' w' ∧ TR γ' tm' a' ∧ a'.defers = a.defers ∧ Steps P (lone (b.atR a (.code (.region id ops draw) :: k)) cs w) (lone (b.atR a' k) cs w')
theorem stepR_scope' {P : Program} {b : Frame} {a : Act} {k : List Item} {cs : List Frame} {w : World} {c : Code} : step P (lone (b.atR a (.code (.scope c) :: k)) cs w) = .next (lone (b.atR a (.code c :: .inScope c :: k)) cs w) :=
  step_lone_go (by simp [stepG, stepG.exec, Frame.atR])
theorem stepR_inScope' {P : Program} {b : Frame} {a : Act} {k : List Item} {cs : List Frame} {w : World} {c : Code} : step P (lone (b.atR a (.inScope c :: k)) cs w) = .next (lone (b.atR a k) cs w) :=
  step_lone_go (by simp [stepG, stepG.exec, Frame.atR])
section
variable {P : Program} {w0 : World} {γ : Pl} {s : AS} {w : World}
theorem alloc_at (w : World) (p : Obj) : (w.alloc p).heap[w.heap.size]? = some p := by
  show (w.heap.push p)[w.heap.size]? = _
  simp
/-- a loop's record is written -/
theorem loop_upd {l B d S : Nat} {st st' : LoopState} {pend pend' : Option Code} {fn : Nat} {tm : List AV} {ps : Array Tmp} {asn bd : Code} {df : Nat} (h : HR γ s w) (hf : fnd s.H l = some (.loop st pend fn tm ps asn bd df)) (hb : γ l = some (B, d, S)) :
    ∃ r : Loop, w.heap[B]? = some (.loop r) ∧ r.state = st ∧ r.pending = pend ∧ r.fn = fn ∧ All2 (RA γ) tm r.tmps.toList ∧ r.params = ps ∧ r.assign = asn ∧ r.body = bd ∧ (∃ dd DS, γ df = some (r.defers, dd, DS)) ∧
      HR γ ⟨(l, .loop st' pend' fn tm ps asn bd df) :: ers s.H l, s.nx⟩ (w.putObj B (.loop { r with state := st', pending := pend' })) ∧
      Fr γ s w γ ⟨(l, .loop st' pend' fn tm ps asn bd df) :: ers s.H l, s.nx⟩ (w.putObj B (.loop { r with state := st', pending := pend' })) := by
  obtain ⟨B', d', S', tmps, D, dd, DS, h1, h0, h2, h3⟩ := h.obj _ _ (fnd_mem hf)
  rw [hb] at h1
  cases h1
  refine ⟨_, h2, rfl, rfl, rfl, h3, rfl, rfl, rfl, ⟨dd, DS, h0⟩, ?_⟩
  have hBl : B < w.heap.size := (Array.getElem?_eq_some_iff.1 h2).1
  exact HR.upd h (fnd_mem hf) hb (Sub.refl _) hb (.inl rfl) (by simp [World.putObj]) (fun k hk => World.putObj_heap_other hk) ⟨B, d, S, tmps, D, dd, DS, hb, h0, World.putObj_heap_same hBl, h3⟩ h.nxt ⟨rfl, rfl, rfl⟩ (fun _ _ h => .inl h) (Nat.le_refl _)
theorem Fr.drop {γ' : Pl} {s' : AS} {w' : World} {b : Nat} (h : Fr γ s w γ' s' w') : Fr γ s w γ' ⟨ers s'.H b, s'.nx⟩ w' := by
  refine ⟨h.sub, h.size, h.keep, fun k ⟨q, d, z, h1, h2⟩ => h.im k ?_, h.same, h.ids, h.nxle⟩
  obtain ⟨x, hx, rfl⟩ := List.mem_map.1 h1
  exact ⟨x.1, d, z, List.mem_map.2 ⟨x, ers_mem hx, rfl⟩, h2⟩
theorem getLoop_run {B : Nat} {r : Loop} (h : w.heap[B]? = some (.loop r)) : (Instr.getLoop B).run P w = .ok r w := by
  simp [Instr.getLoop, getObj, Sem.run, h]
theorem setLoop_run {B : Nat} {r r' : Loop} (h : w.heap[B]? = some (.loop r)) : (setObj B (.loop r')).run P w = .ok () (w.putObj B (.loop r')) := by
  simp [setObj, Sem.run, h, World.putObj]
theorem startRound_ok {l B d S : Nat} {s' : AS} (h : HR γ s w) (hb : γ l = some (B, d, S)) (hs : startRound s l = some s') : ∃ w', (Instr.beginRound B).run P w = .ok () w' ∧ HR γ s' w' ∧ Fr γ s w γ s' w' := by
  unfold startRound at hs
  split at hs
  · rename_i pend fn tm ps asn bd df hf
    cases hs
    obtain ⟨r, k1, k2, k3, _, _, _, _, _, _, k4, k5⟩ := loop_upd (st' := .busy) (pend' := pend) h hf hb
    refine ⟨_, ?_, k4, k5⟩
    subst k3
    simp only [Instr.beginRound, Sem.run_bind, getLoop_run k1, Result.andThen_ok, setLoop_run k1, k2, Sem.run_pure]
  · cases hs
theorem endRound_ok {l B d S : Nat} {s' : AS} {jump : Option Code} (h : HR γ s w) (hb : γ l = some (B, d, S)) (hs : endRoundA s l jump = some s') : ∃ w', (Instr.endRound B jump).run P w = .ok (.bool jump.isNone) w' ∧ HR γ s' w' ∧ Fr γ s w γ s' w' := by
  unfold endRoundA at hs
  split at hs
  · rename_i st pend fn tm ps asn bd df hf
    cases hs
    obtain ⟨r, k1, k2, k3, _, _, _, _, _, _, k4, k5⟩ := loop_upd (st' := if jump.isNone then .ready else .done) (pend' := jump) h hf hb
    refine ⟨_, ?_, k4, k5⟩
    simp only [Instr.endRound, Sem.run_bind, getLoop_run k1, Result.andThen_ok, setLoop_run k1, Sem.run_pure]
  · cases hs
theorem endLoop_ok {l B d S : Nat} {r : Option Code × AS} (h : HR γ s w) (hb : γ l = some (B, d, S)) (hs : endLoopA s l = some r) : ∃ w', (Instr.endLoop B).run P w = .ok r.1 w' ∧ HR γ r.2 w' ∧ Fr γ s w γ r.2 w' := by
  unfold endLoopA at hs
  split at hs
  · cases hs
  · rename_i st pend fn tm ps asn bd df hne hf
    cases hs
    have hst : st ≠ .busy := hne
    obtain ⟨r, k1, k2, k3, _, _, _, _, _, _, k4, k5⟩ := loop_upd (st' := .exhausted) (pend' := pend) h hf hb
    have hd := k4.forget l
    have hd2 := Fr.drop (b := l) k5
    have he : ers ((l, AObj.loop .exhausted pend fn tm ps asn bd df) :: ers s.H l) l = ers s.H l := by simp [ers]
    rw [he] at hd hd2
    refine ⟨_, ?_, hd, hd2⟩
    have hnb : (r.state == LoopState.busy) = false := by rw [k2]; cases st <;> first | rfl | exact absurd rfl hst
    subst k3
    simp only [Instr.endLoop, Sem.run_bind, getLoop_run k1, Result.andThen_ok, hnb, Bool.false_eq_true, if_false, setLoop_run k1, Sem.run_pure]
  · cases hs
theorem enterLoop_ok {fi : FI} {tm : List AV} {ps : Array Tmp} {asn bd : Code} {r : Nat × List Nat × AS} {b : Frame} {a : Act} (h : HR γ s w) (hfi : FIR γ fi b) (ht : TR γ tm a) (hs : enterLoopA fi tm ps asn bd s = some r) :
    ∃ B mark w' γ', (Instr.enterLoop b.fn a.tmps ps asn bd b.roundOf).run P w = .ok (B, mark) w' ∧ HR γ' r.2.2 w' ∧ Fr γ s w γ' r.2.2 w' ∧ (∃ d S, γ' r.1 = some (B, d, S)) ∧ All2 (DR γ') r.2.1 mark := by
  obtain ⟨hfn, _, hro⟩ := hfi
  unfold enterLoopA at hs
  split at hs
  · rename_i hr
    rw [hr] at hro
    simp only at hro
    cases hs
    obtain ⟨k1, k2⟩ := HR.new (p := .deferred (some [])) (o := .defs) (S := 0) h ⟨w.heap.size, 0, 0, ext_at _ _ _, alloc_at _ _⟩
    have ht1 := All2.mono (fun _ _ x => RA.mono k2.sub x) ht
    have hsub := ext_sub (x := ((w.alloc (.deferred (some []))).heap.size, 0, 0)) (k1.nxt (s.nx + 1) (Nat.le_refl _))
    obtain ⟨q1, q2⟩ := HR.new (p := .loop { state := .ready, pending := none, fn := fi.fn, tmps := a.tmps, params := ps, assign := asn, body := bd, defers := w.heap.size }) (o := .loop .ready none fi.fn tm ps asn bd s.nx) (S := 0) k1
      ⟨_, 0, 0, a.tmps, w.heap.size, 0, 0, ext_at _ _ _, hsub _ _ (ext_at _ _ _), alloc_at _ _, All2.mono (fun _ _ x => RA.mono hsub x) ht1⟩
    refine ⟨_, [{ target := .collected w.heap.size, args := #[] }], _, _, ?_, q1, k2.trans q2, ⟨0, 0, ext_at _ _ _⟩, (show All2 (DR _) [s.nx] [_] from ⟨⟨w.heap.size, 0, 0, hsub _ _ (ext_at _ _ _), rfl⟩, trivial⟩)⟩
    simp [Instr.enterLoop, hro, hfn]
  · rename_i l0 hr
    rw [hr] at hro
    simp only at hro
    obtain ⟨B0, d0, S0, hb0, hro⟩ := hro
    split at hs
    · rename_i st0 pend0 fn0 tm0 ps0 asn0 bd0 df hf
      cases hs
      obtain ⟨r, k1, _, _, _, _, _, _, _, ⟨dd, DS, hdf⟩, _, _⟩ := loop_upd (st' := .busy) (pend' := none) h hf hb0
      have hsub := ext_sub (x := (w.heap.size, 0, 0)) (h.nxt s.nx (Nat.le_refl _))
      obtain ⟨q1, q2⟩ := HR.new (p := .loop { state := .ready, pending := none, fn := fi.fn, tmps := a.tmps, params := ps, assign := asn, body := bd, defers := r.defers }) (o := .loop .ready none fi.fn tm ps asn bd df) (S := 0) h
        ⟨_, 0, 0, a.tmps, r.defers, dd, DS, ext_at _ _ _, hsub _ _ hdf, alloc_at _ _, All2.mono (fun _ _ x => RA.mono hsub x) ht⟩
      refine ⟨_, [], _, _, ?_, q1, q2, ⟨0, 0, ext_at _ _ _⟩, (show All2 (DR _) [] [] from trivial)⟩
      simp [Instr.enterLoop, hro, hfn, getLoop_run k1]
    · cases hs
end
end Go.Proofs.YteigplfldhdakaaGreatDoor.Ev
/- Code runs as it was reckoned. -/
namespace Go.Proofs.YteigplfldhdakaaGreatDoor.Ev
open Go Go.RowKit
section
variable {P : Program} {w0 : World} {cf : CF} {er : ER} {fi : FI}
def TOk (P : Program) (w0 : World) (fi : FI) (todo : List Item) (tm : List AV) (df : List Nat) (s : AS) (outs : List Out) : Prop :=
  ∀ (γ : Pl) (w : World) (b : Frame) (a : Act) (cs : List Frame), Inv w0 γ s w → FIR γ fi b → TR γ tm a → All2 (DR γ) df a.defers →
    ∃ o γ' w' a' todo', o ∈ outs ∧ HR γ' o.s w' ∧ Fr γ s w γ' o.s w' ∧ TR γ' o.tm a' ∧ All2 (DR γ') o.df a'.defers ∧ AtLeave todo' o.jump ∧ Steps P (lone (b.atR a todo) cs w) (lone (b.atR a' todo') cs w')
theorem TOk.one {todo todo' : List Item} {tm : List AV} {df : List Nat} {s : AS} {outs : List Out} (h : TOk P w0 fi todo' tm df s outs) (hs : ∀ {γ : Pl} {w : World} {b : Frame} {a : Act} {cs : List Frame}, TR γ tm a → step P (lone (b.atR a todo) cs w) = .next (lone (b.atR a todo') cs w)) : TOk P w0 fi todo tm df s outs := by
  intro γ w b a cs hi hf ht hd
  obtain ⟨o, γ', w', a', t', k1, k2, k3, k4, k5, k6, k7⟩ := h γ w b a cs hi hf ht hd
  exact ⟨o, γ', w', a', t', k1, k2, k3, k4, k5, k6, .head (hs ht) k7⟩
theorem TOk.leave {todo : List Item} {tm : List AV} {df : List Nat} {s : AS} {jump : Option Code} (h : AtLeave todo jump) : TOk P w0 fi todo tm df s [⟨jump, tm, df, s⟩] := fun γ w b a cs hi hf ht hd =>
  ⟨_, γ, w, a, todo, List.mem_cons_self .., hi.hr, Fr.refl _ _ _, ht, hd, h, Steps.refl _ _⟩
set_option maxHeartbeats 2000000 in
theorem evT_ok (hC : SoundC P w0 cf) (hR : RegOk P w0 er) : ∀ (m : Nat) (todo : List Item) (tm : List AV) (df : List Nat) (s : AS) (outs : List Out), evT cf er fi m todo tm df s = some outs → TOk P w0 fi todo tm df s outs
  | 0, _, _, _, _, _, h => by cases h
  | m + 1, todo, tm, df, s, outs, h => by
    have ih := evT_ok hC hR m
    unfold evT at h
    split at h
    · cases h; exact TOk.leave (.inl ⟨rfl, rfl⟩)
    · rename_i k; cases h; exact TOk.leave (.inr (.inl ⟨rfl, k, rfl⟩))
    · exact TOk.one (ih _ _ _ _ _ h) fun _ => stepR_skip
    · exact TOk.one (ih _ _ _ _ _ h) fun _ => stepR_label
    · exact TOk.one (ih _ _ _ _ _ h) fun _ => stepR_inBlock
    · exact TOk.one (ih _ _ _ _ _ h) fun _ => stepR_inScope'
    · exact TOk.one (ih _ _ _ _ _ h) fun _ => stepR_seq
    · rename_i c x y k
      split at h
      · rename_i hc
        exact TOk.one (ih _ _ _ _ _ h) fun ht => stepR_cond (t := true) (aeval_ok ht _ _ hc)
      · rename_i hc
        exact TOk.one (ih _ _ _ _ _ h) fun ht => stepR_cond (t := false) (aeval_ok ht _ _ hc)
      · cases h
    · exact TOk.one (ih _ _ _ _ _ h) fun _ => stepR_block
    · exact TOk.one (ih _ _ _ _ _ h) fun _ => stepR_loop
    · exact TOk.one (ih _ _ _ _ _ h) fun _ => stepR_inLoop
    · exact TOk.one (ih _ _ _ _ _ h) fun _ => stepR_scope'
    · rename_i id k
      split at h
      · rename_i k' hk
        exact TOk.one (ih _ _ _ _ _ h) fun _ => stepR_exit hk
      · rename_i hk
        cases h
        exact TOk.leave (.inr (.inr (.inl ⟨id, k, rfl, rfl, hk⟩)))
    · rename_i l k
      split at h
      · rename_i k' hk
        exact TOk.one (ih _ _ _ _ _ h) fun _ => stepR_goto hk
      · rename_i hk
        cases h
        exact TOk.leave (.inr (.inr (.inr ⟨l, k, rfl, rfl, hk⟩)))
    · rename_i id ops draw k
      split at h
      · rename_i outs1 he
        intro γ w b a cs hi hf ht hd
        obtain ⟨tm', s', γ1, w1, a1, q1, q2, q3, q4, q5, q6⟩ := hR b a k cs γ s w tm outs1 id ops draw hi ht he
        obtain ⟨ys, e1, e2⟩ := bindL_mem h q1
        obtain ⟨o, γ', w', a', t', k1, k2, k3, k4, k5, k6, k7⟩ := ih _ _ _ _ _ e1 γ1 w1 b a1 cs (hi.step q2 q3) (hf.mono q3.sub) q4 (by rw [q5]; exact All2.mono (fun _ _ x => DR.mono q3.sub x) hd)
        exact ⟨o, γ', w', a', t', e2 _ k1, k2, q3.trans k3, k4, k5, k6, q6.trans k7⟩
      · cases h
    · rename_i g ps asn bd k
      split at h
      · rename_i gv l mk s1 hg hen
        split at h
        · rename_i f args hca
          split at h
          · rename_i outs1 hcf
            intro γ w b a cs hi hf ht hd
            obtain ⟨B, mark, w1, γ1, k1, k2, k3, ⟨d1, S1, hB⟩, k5⟩ := enterLoop_ok (P := P) hi.hr hf ht hen
            have hi1 := hi.step k2 k3
            have hgr := RA.mono k3.sub (aeval_ok ht _ _ hg)
            -- the function that is called, with yield
            have hre : ∀ v : Value, a.eval (.const v) = v := fun _ => rfl
            obtain ⟨us, hus, dd, hres1, hinv⟩ : ∃ us, All2 (RA γ1) args us ∧ ∃ d : Deferred, (resolve a.eval (rangeCall g B) 0).run P w1 = .ok d w1 ∧ (invoke d.target d.args).run P w1 = (callFunc f us.toArray).run P w1 := by
              unfold calleeA at hca
              split at hca
              · cases hca
                have hge : a.eval g = .func (.func f) #[] #[] := hgr
                refine ⟨[.func (.yield B) #[] #[]], ⟨⟨B, d1, S1, hB, rfl⟩, trivial⟩, ⟨.fn (.func f) #[], #[.func (.yield B) #[] #[]]⟩, ?_, ?_⟩
                · simp [resolve, rangeCall, hge, Deferred.ofValue, hre]
                · simp [invoke]
              · rename_i f' cps
                cases hca
                obtain ⟨cv, hge, hcv⟩ := hgr
                refine ⟨.func (.yield B) #[] #[] :: cv, ⟨⟨B, d1, S1, hB, rfl⟩, capV_ok hcv⟩, ⟨.fn (.func f) cv.toArray, #[.func (.yield B) #[] #[]]⟩, ?_, ?_⟩
                · simp [resolve, rangeCall, hge, Deferred.ofValue, hre]
                · simp [invoke]
              · cases hca
            obtain ⟨c1, c2⟩ := hC.fn f args s1 outs1 γ1 w1 us hi1 hus hcf
            have henter := stepR_rangeFunc (P := P) (b := b) (a := a) (k := k) (cs := cs) (w := w) k1 hres1 (hinv.trans c1)
            obtain ⟨e, w2, fr, ⟨v, s2, u, v1, rfl, ⟨γ2, v2, v3, v4⟩⟩, hcomes, hfn, hleave⟩ := c2 (b.atR { a with defers := mark ++ a.defers } (.inRangeFunc B :: k) :: cs)
            have hback : Steps P (lone (b.atR a (.code (.rangeFunc g ps asn bd) :: k)) cs w) (lone (b.atR { a with defers := mark ++ a.defers } (.endRangeFunc B :: k)) cs w2) :=
              .head henter (Steps.trans hcomes (.one (by rw [← finish_atR_inRangeFunc B u]; exact step_leave_returned hleave)))
            obtain ⟨ys, e1, e2⟩ := bindL_mem h v1
            dsimp only at e1
            split at e1
            · rename_i jump s3 hel
              obtain ⟨w3, q1, q2, q3⟩ := endLoop_ok (P := P) v2 (v3.sub _ _ hB) hel
              have hi2 := hi1.step v2 v3
              have hi3 := hi2.step q2 q3
              have hs3 := (k3.trans v3).trans q3
              obtain ⟨o, γ', w', a', t', r1, r2, r3, r4, r5, r6, r7⟩ := ih _ _ _ _ _ e1 γ2 w3 b { a with defers := mark ++ a.defers } cs hi3 (hf.mono hs3.sub) (All2.mono (fun _ _ x => RA.mono hs3.sub x) ht)
                (All2.app (All2.mono (fun _ _ x => DR.mono (v3.trans q3).sub x) k5) (All2.mono (fun _ _ x => DR.mono hs3.sub x) hd))
              exact ⟨o, γ', w', a', t', e2 _ r1, r2, hs3.trans r3, r4, r5, r6, (hback.trans (.one (stepR_endRangeFunc q1))).trans r7⟩
            · cases e1
          · cases h
        · cases h
      · cases h
    · rename_i k
      split at h
      · rename_i l hro
        split at h
        · rename_i s' hs
          intro γ w b a cs hi hf ht hd
          have hf3 := hf.2.2
          rw [hro] at hf3
          obtain ⟨B, d, S, hb, hbr⟩ := hf3
          obtain ⟨w1, q1, q2, q3⟩ := startRound_ok (P := P) hi.hr hb hs
          obtain ⟨o, γ', w', a', t', k1, k2, k3, k4, k5, k6, k7⟩ := ih _ _ _ _ _ h γ w1 b a cs (hi.step q2 q3) hf ht hd
          exact ⟨o, γ', w', a', t', k1, k2, q3.trans k3, k4, k5, k6, .head (stepR_beginRound hbr q1) k7⟩
        · cases h
      · cases h
    · cases h
end
end Go.Proofs.YteigplfldhdakaaGreatDoor.Ev
/- Functions, rounds: the whole run. -/
namespace Go.Proofs.YteigplfldhdakaaGreatDoor.Ev
open Go Go.RowKit
def popA (s : AS) : List Nat → Option AS
  | [] => some s
  | d :: r => match fnd s.H d with
    | some .defs => popA ⟨ers s.H d, s.nx⟩ r
    | _ => none
def resL (P : Program) (tm : List AV) (s : AS) : List ResultVar → Option (List AV)
  | [] => some []
  | .tmp t :: r => match tm[t]?, resL P tm s r with
    | some v, some vs => some (v :: vs)
    | _, _ => none
  | .cell a t :: r => match tm[a]?, resL P tm s r with
    | some (.sc (.pt b o)), some vs => match fnd s.H b with
      | some (.cells _ L) => (loadA P t L o).map (· :: vs)
      | _ => none
    | _, _ => none
def aesL : List AV → Option (List (Bool × List SV))
  | [] => some []
  | v :: r => match v.ae, aesL r with
    | some x, some xs => some (x :: xs)
    | _, _ => none
def resA (P : Program) (fn : Func) (tm : List AV) (s : AS) : Option AV :=
  match resL P tm s fn.results.toList with
  | some [v] => some v
  | some vs => (aesL vs).map .tu
  | none => none
section
variable {P : Program} {γ : Pl} {s : AS} {w : World}
theorem aesL_ok : ∀ {vs : List AV} {us : List Value} {xs : List (Bool × List SV)}, All2 (RA γ) vs us → aesL vs = some xs → All2 (RE γ) xs us
  | [], [], _, _, h => by cases h; trivial
  | v :: vs, u :: us, xs, hr, h => by
    unfold aesL at h
    split at h
    · rename_i x xs h1 h2
      cases h
      exact ⟨ae_rel h1 hr.1, aesL_ok hr.2 h2⟩
    · cases h
  | [], _ :: _, _, hr, _ => hr.elim
  | _ :: _, [], _, hr, _ => hr.elim
def resOf (tmps : Array Value) : ResultVar → Sem Value
  | .tmp t => pure (tmps.getD t undef)
  | .cell a t => do loadVar t (← asAddr (tmps.getD a undef))
theorem resL_ok {tm : List AV} {a : Act} (h : HR γ s w) (ht : TR γ tm a) : ∀ {l : List ResultVar} {vs : List AV}, resL P tm s l = some vs → ∃ us, (l.mapM (resOf a.tmps)).run P w = .ok us w ∧ All2 (RA γ) vs us
  | [], _, e => by cases e; exact ⟨[], by simp, trivial⟩
  | .tmp t :: r, _, e => by
    unfold resL at e
    split at e
    · rename_i v vs h1 h2
      cases e
      obtain ⟨us, k1, k2⟩ := resL_ok h ht h2
      obtain ⟨u, q1, q2⟩ := All2.get t ht h1
      rw [Array.getElem?_toList] at q1
      have e1 : a.tmps.getD t undef = u := by rw [Array.getD_eq_getD_getElem?, q1]; rfl
      refine ⟨u :: us, ?_, q2, k2⟩
      simp only [List.mapM_cons, resOf, Sem.run_bind, Sem.run_pure, Result.andThen_ok, e1, k1]
    · cases e
  | .cell p t :: r, _, e => by
    unfold resL at e
    split at e
    · rename_i b o vs h1 h2
      split at e
      · rename_i ty L hf
        obtain ⟨v, hv, rfl⟩ := Option.map_eq_some_iff.1 e
        obtain ⟨us, k1, k2⟩ := resL_ok h ht h2
        obtain ⟨u, q1, q2⟩ := All2.get p ht h1
        rw [Array.getElem?_toList] at q1
        obtain ⟨B, d, S, hb, rfl⟩ := q2
        have e1 : a.tmps.getD p undef = .pointer (some ⟨B, d + o, none⟩) := by rw [Array.getD_eq_getD_getElem?, q1]; rfl
        obtain ⟨x, x1, x2⟩ := load_ok (P := P) (t := t) (o := o) (h.obj _ _ (fnd_mem hf)) hb hv
        have x3 : (loadVar t ⟨B, d + o, none⟩).run P w = .ok x w := by
          simpa [Instr.loadAt, Instr.sureAddr] using x1
        refine ⟨x :: us, ?_, x2, k2⟩
        simp only [List.mapM_cons, resOf, Sem.run_bind, Sem.run_pure, Result.andThen_ok, e1, asAddr, x3, k1]
      · cases e
    · cases e
theorem res_ok {fn : Func} {tm : List AV} {a : Act} {v : AV} (h : HR γ s w) (ht : TR γ tm a) (hv : resA P fn tm s = some v) : ∃ u, (results fn a.tmps).run P w = .ok u w ∧ RA γ v u := by
  have hm : ∀ us, (fn.results.toList.mapM (resOf a.tmps)).run P w = .ok us w → (results fn a.tmps).run P w = .ok (if h : us.toArray.size = 1 then us.toArray[0] else .tuple us.toArray) w := fun us hus => by
    have e1 : (fn.results.mapM (resOf a.tmps)).run P w = .ok us.toArray w := by
      rw [← Array.toArray_toList (xs := fn.results)] 
      rw [List.mapM_toArray]
      simp [hus]
    have e3 : results fn a.tmps = (do let vs ← fn.results.mapM (resOf a.tmps); pure (if h : vs.size = 1 then vs[0] else .tuple vs)) := by
      unfold results
      congr 1
    rw [e3]
    simp only [Sem.run_bind, e1, Result.andThen_ok, Sem.run_pure]
  unfold resA at hv
  split at hv
  · rename_i v' hr
    cases hv
    obtain ⟨us, k1, k2⟩ := resL_ok h ht hr
    cases us with
    | nil => exact k2.elim
    | cons u r =>
      cases r with
      | cons _ _ => exact k2.2.elim
      | nil => exact ⟨u, hm _ k1, k2.1⟩
  · rename_i vs hne hr
    obtain ⟨xs, hx, rfl⟩ := Option.map_eq_some_iff.1 hv
    obtain ⟨us, k1, k2⟩ := resL_ok h ht hr
    refine ⟨_, hm _ k1, ?_⟩
    have hl := All2.len k2
    have h1 : us.toArray.size ≠ 1 := fun e => by
      have : vs.length = 1 := by rw [hl]; simpa using e
      cases vs with
      | nil => simp at this
      | cons v r => cases r with
        | nil => exact hne v rfl
        | cons _ _ => simp at this
    rw [dif_neg h1]
    exact ⟨us, rfl, aesL_ok k2 hx⟩
  · cases hv
theorem popA_ok : ∀ {df : List Nat} {γ : Pl} {s s' : AS} {w : World} {fr : Frame} {cs : List Frame}, HR γ s w → All2 (DR γ) df fr.defers → fr.mode = .returning → popA s df = some s' →
    ∃ w', HR γ s' w' ∧ Fr γ s w γ s' w' ∧ Steps P (lone fr cs w) (lone { fr with defers := [] } cs w')
  | [], γ, s, s', w, fr, cs, h, hd, hm, hp => by
    cases hp
    have he : fr.defers = [] := by
      have := All2.len hd
      exact List.eq_nil_of_length_eq_zero (by simpa using this.symm)
    refine ⟨w, h, Fr.refl _ _ _, ?_⟩
    have : { fr with defers := [] } = fr := by rw [← he]
    rw [this]
    exact Steps.refl _ _
  | d :: r, γ, s, s', w, fr, cs, h, hd, hm, hp => by
    unfold popA at hp
    split at hp
    · rename_i hf
      cases hde : fr.defers with
      | nil => rw [hde] at hd; exact hd.elim
      | cons D ds =>
        rw [hde] at hd
        obtain ⟨⟨B, d', S, hb, hD⟩, hd2⟩ := hd
        obtain ⟨B', d2, S', h1, h2⟩ := h.obj _ _ (fnd_mem hf)
        rw [hb] at h1
        cases h1
        have hst := step_collected (P := P) (fr := fr) (cs := cs) (w := w) (d := D) (ds := ds) (calls := []) (r := B) (by rw [hm]; simp) hde (by rw [hD]) (run_takeDeferred h2)
        have hmem : d ∈ s.H.map (·.1) := List.mem_map.2 ⟨_, fnd_mem hf, rfl⟩
        have hnot := ers_not (b := d) h.nod
        have hfr : Fr γ s w γ ⟨ers s.H d, s.nx⟩ (w.putObj B (.deferred none)) := by
          refine ⟨Sub.refl _, by simp [World.putObj], fun k hk hn => World.putObj_heap_other fun e => hn ⟨d, d', S, hmem, by rw [hb, e]⟩, fun k ⟨q, x, y, q1, q2⟩ => .inl ?_, ⟨rfl, rfl, rfl⟩, fun _ _ h => .inl h, Nat.le_refl _⟩
          obtain ⟨z, hz, rfl⟩ := List.mem_map.1 q1
          exact ⟨z.1, x, y, List.mem_map.2 ⟨z, ers_mem hz, rfl⟩, q2⟩
        have hhr : HR γ ⟨ers s.H d, s.nx⟩ (w.putObj B (.deferred none)) := by
          have hg := h.forget d
          refine ⟨fun q o hq => OR.mono (Sub.refl _) (fun B1 d1 S1 hb1 => World.putObj_heap_other fun e => ?_) (hg.obj q o hq), hg.nod, hg.inj, hg.nxt⟩
          have hqm : q ∈ (ers s.H d).map (·.1) := List.mem_map.2 ⟨_, hq, rfl⟩
          have hqd : q ≠ d := fun e => hnot (e ▸ hqm)
          obtain ⟨z, hz, rfl⟩ := List.mem_map.1 hqm
          exact h.inj z.1 d _ _ (List.mem_map.2 ⟨z, ers_mem hz, rfl⟩) hmem hqd hb1 hb e
        obtain ⟨w', k1, k2, k3⟩ := popA_ok (df := r) (fr := { fr with defers := [] ++ ds }) (cs := cs) hhr hd2 hm hp
        exact ⟨w', k1, hfr.trans k2, .head hst k3⟩
    · cases hp
end
def retJ : Option Code → Bool
  | none => true
  | some .ret => true
  | _ => false
def setPs : List Nat → List AV → List AV → List AV
  | t :: ts, v :: vs, tm => setPs ts vs (tm.set t v)
  | _, _, tm => tm
def fuelT : Nat := 1000000
def evF (P : Program) (fnOf : Nat → Option Func) (orc : Nat → List AV → AS → Option (AV × AS)) (er : CF → ER) : Nat → CF
  | 0, _, _, _ => none
  | n + 1, .fn f, args, s => match fnOf f with
    | none => none
    | some fn => match orc f args s with
      | some r => some [r]
      | none => match fn.body with
        | none => none
        | some c => match evT (evF P fnOf orc er n) (er (evF P fnOf orc er n)) ⟨f, none⟩ fuelT [.code c] (args ++ List.replicate (fn.ntmps - args.length) undA) [] s with
          | none => none
          | some outs => bindL outs fun o =>
            if retJ o.jump then match popA o.s o.df with
              | some s' => (resA P fn o.tm s').map fun v => [(v, s')]
              | none => none
            else none
  | n + 1, .yl l, args, s => match fnd s.H l with
    | some (.loop .ready pend fn tm ps asn bd df) =>
      if args.length = ps.size then
        match evT (evF P fnOf orc er n) (er (evF P fnOf orc er n)) ⟨fn, some l⟩ fuelT [.code asn, .beginRound, .code bd] (setPs ps.toList args tm) [] s with
        | none => none
        | some outs => bindL outs fun o => (endRoundA o.s l o.jump).map fun s' => [(.sc (.f (.bool o.jump.isNone)), s')]
      else none
    | _ => none
/-- what is asked of the tables that the run uses -/
structure Tbl (P : Program) (w0 : World) (fnOf : Nat → Option Func) (orc : Nat → List AV → AS → Option (AV × AS)) (er : CF → ER) : Prop where
  fn : ∀ f fn, fnOf f = some fn → P.funcs[f]? = some fn ∧ fn.name ≠ "runtime.NumGoroutine" ∧ fn.body.isSome = true
  orc : ∀ f args s r γ w us, Inv w0 γ s w → All2 (RA γ) args us → orc f args s = some r → Calls P f us.toArray w fun e w' => ∃ u, e = .returned u ∧ Done γ s w r.1 r.2 u w'
  er : ∀ cf, SoundC P w0 cf → RegOk P w0 (er cf)
theorem setPs_ok {γ : Pl} : ∀ {ts : List Nat} {vs : List AV} {us : List Value} {tm : List AV} {tmps : Array Value}, All2 (RA γ) vs us → All2 (RA γ) tm tmps.toList →
    All2 (RA γ) (setPs ts vs tm) ((ts.zip us).foldl (fun (tmps : Array Value) (p : Nat × Value) => tmps.setIfInBounds p.1 p.2) tmps).toList
  | [], _, _, _, _, _, ht => by simpa [setPs] using ht
  | t :: ts, v :: vs, u :: us, tm, tmps, hv, ht => by
    have h1 : All2 (RA γ) (tm.set t v) (tmps.setIfInBounds t u).toList := by
      rw [Array.toList_setIfInBounds]
      exact All2.set t ht hv.1
    exact setPs_ok (ts := ts) hv.2 h1
  | t :: ts, [], [], tm, tmps, _, ht => by simpa [setPs] using ht
  | _ :: _, [], _ :: _, _, _, hv, _ => hv.elim
  | _ :: _, _ :: _, [], _, _, hv, _ => hv.elim
section
variable {P : Program} {w0 : World} {fnOf : Nat → Option Func} {orc : Nat → List AV → AS → Option (AV × AS)} {er : CF → ER}
theorem callFunc_run {f : Nat} {fn : Func} {args : Array Value} {w : World} (h1 : P.funcs[f]? = some fn) (h2 : fn.name ≠ "runtime.NumGoroutine") (h3 : fn.body.isSome = true) : (callFunc f args).run P w = .ok (.enter f args) w := by
  have h4 : fn.body.isNone = false := by cases hb : fn.body with | none => rw [hb] at h3; cases h3 | some c => rfl
  have h5 : (fn.name == "runtime.NumGoroutine") = false := by simpa using h2
  have h6 : fn.body ≠ none := fun e => by rw [e] at h3; cases h3
  unfold callFunc
  simp [h1, h2, h6]
set_option maxHeartbeats 1000000 in
theorem evF_ok (hT : Tbl P w0 fnOf orc er) : ∀ n, SoundC P w0 (evF P fnOf orc er n)
  | 0 => ⟨fun f args s outs γ w us _ _ h => (by cases h), fun l args s outs γ w us _ _ h => (by cases h)⟩
  | n + 1 => by
    have ih := evF_ok hT n
    have hR : RegOk P w0 (er (evF P fnOf orc er n)) := hT.er _ ih
    refine ⟨fun f args s outs γ w us hi hu h => ?_, fun l args s outs γ w us hi hu h B d S hb => ?_⟩
    · unfold evF at h
      split at h
      · cases h
      · rename_i fn hfn
        obtain ⟨g1, g2, g3⟩ := hT.fn f fn hfn
        refine ⟨callFunc_run g1 g2 g3, ?_⟩
        split at h
        · rename_i r hor
          cases h
          exact (hT.orc f args s r γ w us hi hu hor).mono fun e w' ⟨u, h1, h2⟩ => ⟨r.1, r.2, u, List.mem_cons_self .., h1, h2⟩
        · split at h
          · cases h
          · rename_i c hbody
            split at h
            · cases h
            · rename_i outs1 hev
              intro cs
              have hul := All2.len hu
              let b : Frame := { (default : Frame) with fn := f, kind := .normal, roundOf := none }
              let a : Act := { tmps := us.toArray ++ Array.replicate (fn.ntmps - us.toArray.size) undef, defers := [] }
              have henter : Frame.enter P f us.toArray .normal = b.atR a [.code c] := by
                simp [Frame.enter, Frame.atR, g1, hbody, b, a]
              have ht : TR γ (args ++ List.replicate (fn.ntmps - args.length) undA) a := by
                have : a.tmps.toList = us ++ List.replicate (fn.ntmps - args.length) undef := by simp [a, hul]
                show All2 (RA γ) _ a.tmps.toList
                rw [this]
                exact All2.app hu (All2.rep (und_rel γ) _)
              obtain ⟨o, γ1, w1, a1, t1, k1, k2, k3, k4, k5, k6, k7⟩ := evT_ok ih hR _ _ _ _ _ _ hev γ w b a cs hi ⟨rfl, rfl, rfl⟩ ht trivial
              obtain ⟨ys, e1, e2⟩ := bindL_mem h k1
              split at e1
              · rename_i hj
                split at e1
                · rename_i s2 hpop
                  obtain ⟨v, hv, rfl⟩ := Option.map_eq_some_iff.1 e1
                  have hleave : ∃ fr : Frame, Steps P (lone (b.atR a1 t1) cs w1) (lone fr cs w1) ∧ fr.mode = .returning ∧ fr.defers = a1.defers ∧ fr.kind = .normal ∧ fr.fn = f ∧ fr.tmps = a1.tmps := by
                    rcases k6 with ⟨_, rfl⟩ | ⟨_, kk, rfl⟩ | ⟨id, kk, hjj, _, _⟩ | ⟨id, kk, hjj, _, _⟩
                    · exact ⟨_, .one (stepR_end rfl), rfl, rfl, rfl, rfl, rfl⟩
                    · exact ⟨_, .one (stepR_ret rfl), rfl, rfl, rfl, rfl, rfl⟩
                    · rw [hjj] at hj; cases hj
                    · rw [hjj] at hj; cases hj
                  obtain ⟨fr, l1, l2, l3, l4, l5, l6⟩ := hleave
                  obtain ⟨w2, p1, p2, p3⟩ := popA_ok (P := P) (fr := fr) (cs := cs) k2 (by rw [l3]; exact k5) l2 hpop
                  obtain ⟨u, r1, r2⟩ := res_ok (P := P) (a := a1) p1 k4 hv
                  refine ⟨.returned u, w2, { fr with defers := [] }, ⟨v, s2, u, e2 _ (List.mem_cons_self ..), rfl, ⟨γ1, p1, k3.trans p2, r2⟩⟩, ?_, l5, l2, rfl, l4, fn, by rw [show ({ fr with defers := [] } : Frame).fn = f from l5]; exact g1, by rw [show ({ fr with defers := [] } : Frame).tmps = a1.tmps from l6]; exact r1⟩
                  rw [henter]
                  exact (k7.trans l1).trans p3
                · cases e1
              · cases e1
    · unfold evF at h
      split at h
      · rename_i pend fn tm ps asn bd df hf
        split at h
        · rename_i hlen
          split at h
          · cases h
          · rename_i outs1 hev
            obtain ⟨r, q1, q2, q3, q4, q5, q6, q7, q8, _, _, _⟩ := loop_upd (st' := .busy) (pend' := none) hi.hr hf hb
            have hul := All2.len hu
            refine ⟨r.fn, (r.params.zip us.toArray).foldl (fun tmps (t, a) => tmps.setIfInBounds t a) r.tmps, r.assign, r.body, ?_, fun cfr cs => ?_⟩
            · have hsz : us.toArray.size = r.params.size := by rw [q6]; simp; omega
              simp [Instr.yield, getLoop_run q1, hsz]
            · let b : Frame := { (default : Frame) with fn := r.fn, kind := .normal, roundOf := some B }
              let a : Act := { tmps := (r.params.zip us.toArray).foldl (fun tmps (t, a) => tmps.setIfInBounds t a) r.tmps, defers := [] }
              have hfr : Frame.round B r.fn a.tmps r.assign r.body .normal = b.atR a [.code asn, .beginRound, .code bd] := by
                rw [q7, q8]
                simp [Frame.round, Frame.atR, b, a]
              have ht : TR γ (setPs ps.toList args tm) a := by
                have := setPs_ok (ts := ps.toList) hu q5
                show All2 (RA γ) _ a.tmps.toList
                have e3 : a.tmps = (ps.toList.zip us).foldl (fun (tmps : Array Value) (p : Nat × Value) => tmps.setIfInBounds p.1 p.2) r.tmps := by
                  show (r.params.zip us.toArray).foldl _ _ = _
                  rw [q6, ← Array.foldl_toList]
                  simp
                rw [e3]
                exact this
              obtain ⟨o, γ1, w1, a1, t1, k1, k2, k3, k4, k5, k6, k7⟩ := evT_ok ih hR _ _ _ _ _ _ hev γ w b a (cfr :: cs) hi ⟨q4, rfl, B, d, S, hb, rfl⟩ ht trivial
              obtain ⟨ys, e1, e2⟩ := bindL_mem h k1
              obtain ⟨s2, hs2, rfl⟩ := Option.map_eq_some_iff.1 e1
              obtain ⟨w2, m1, m2, m3⟩ := endRound_ok (P := P) k2 (k3.sub _ _ hb) hs2
              refine ⟨_, s2, .bool o.jump.isNone, w2, e2 _ (List.mem_cons_self ..), ⟨γ1, m2, k3.trans m3, rfl⟩, ?_⟩
              rw [show (r.params.zip us.toArray).foldl (fun tmps (t, a) => tmps.setIfInBounds t a) r.tmps = a.tmps from rfl, hfr]
              refine k7.trans (.one ?_)
              rcases k6 with ⟨hj, rfl⟩ | ⟨hj, kk, rfl⟩ | ⟨id, kk, hj, rfl, hx⟩ | ⟨id, kk, hj, rfl, hx⟩
              · rw [hj] at m1 ⊢; exact stepR_round_end rfl rfl m1
              · rw [hj] at m1 ⊢; exact stepR_round_ret rfl rfl m1
              · rw [hj] at m1 ⊢; exact stepR_round_exit rfl rfl hx m1
              · rw [hj] at m1 ⊢; exact stepR_round_goto rfl rfl hx m1
        · cases h
      · cases h
end
end Go.Proofs.YteigplfldhdakaaGreatDoor.Ev
/- A region that draws its order: what is asked of it, and the frame law. -/
namespace Go.Proofs.YteigplfldhdakaaGreatDoor.Ev
open Go Go.RowKit
section
variable {P : Program} {γ γ' : Pl} {w w' : World}
theorem HR.perm {H1 H2 : List (Nat × AObj)} {n : Nat} (h : HR γ ⟨H1, n⟩ w) (hm : ∀ x, x ∈ H2 → x ∈ H1) (hn : (H2.map (·.1)).Nodup) : HR γ ⟨H2, n⟩ w := by
  have hk : ∀ k, k ∈ H2.map (·.1) → k ∈ H1.map (·.1) := fun k hk => by
    obtain ⟨x, hx, rfl⟩ := List.mem_map.1 hk
    exact List.mem_map.2 ⟨x, hm x hx, rfl⟩
  exact ⟨fun b o hb => h.obj b o (hm _ hb), hn, fun b b' x y h1 h2 => h.inj b b' x y (hk _ h1) (hk _ h2), h.nxt⟩
/-- **THE FRAME LAW** -/
theorem frame {A R : List (Nat × AObj)} {n : Nat} {s' : AS} (hf : HR γ ⟨A ++ R, n⟩ w) (h' : HR γ' s' w') (fr : Fr γ ⟨A, n⟩ w γ' s' w') :
    HR γ' ⟨s'.H ++ R, s'.nx⟩ w' ∧ Fr γ ⟨A ++ R, n⟩ w γ' ⟨s'.H ++ R, s'.nx⟩ w' := by
  have hnd : (A.map (·.1) ++ R.map (·.1)).Nodup := by have := hf.nod; simpa using this
  have hR : ∀ b o, (b, o) ∈ R → ∃ B d S, γ b = some (B, d, S) ∧ B < w.heap.size ∧ ¬ Im γ ⟨A, n⟩ B := fun b o hb => by
    obtain ⟨B, d, S, h1, h2⟩ := OR.at_ (hf.obj b o (List.mem_append_right _ hb))
    refine ⟨B, d, S, h1, h2, fun ⟨q, d2, z2, hq, hq2⟩ => ?_⟩
    have hbm : b ∈ R.map (·.1) := List.mem_map.2 ⟨_, hb, rfl⟩
    have hqb : q ≠ b := fun e => (List.nodup_append.1 hnd).2.2 q hq b hbm e
    exact hf.inj q b _ _ (by simp only [List.map_append, List.mem_append]; exact .inl hq) (by simp only [List.map_append, List.mem_append]; exact .inr hbm) hqb hq2 h1 rfl
  have hno : ∀ b o B d S, (b, o) ∈ R → γ' b = some (B, d, S) → ¬ Im γ' s' B := fun b o B d S hb hg hi => by
    obtain ⟨B1, d1, S1, h1, h2, h3⟩ := hR b o hb
    have := fr.sub _ _ h1
    rw [hg] at this
    cases this
    rcases fr.im _ hi with h4 | h4
    · exact h3 h4
    · omega
  refine ⟨⟨fun b o hb => ?_, ?_, fun b b' x y h1 h2 h3 h4 h5 => ?_, h'.nxt⟩, fr.sub, fr.size, fun k hk hn => fr.keep k hk fun ⟨q, d, z, h1, h2⟩ => hn ⟨q, d, z, ?_, h2⟩, fun k ⟨q, d, z, h1, h2⟩ => ?_, fr.same, fr.ids, fr.nxle⟩
  · rcases List.mem_append.1 hb with h1 | h1
    · exact h'.obj b o h1
    · refine OR.mono fr.sub (fun B d S hB => ?_) (hf.obj b o (List.mem_append_right _ h1))
      obtain ⟨B1, d1, S1, k1, k2, k3⟩ := hR b o h1
      rw [hB] at k1
      cases k1
      exact fr.keep B k2 k3
  · rw [List.map_append, List.nodup_append]
    refine ⟨h'.nod, (List.nodup_append.1 hnd).2.1, fun a ha b hb e => ?_⟩
    subst e
    obtain ⟨y, hy, rfl⟩ := List.mem_map.1 hb
    obtain ⟨B1, d1, S1, k1, k2, k3⟩ := hR y.1 y.2 hy
    exact hno y.1 y.2 B1 d1 S1 hy (fr.sub _ _ k1) ⟨y.1, d1, S1, ha, fr.sub _ _ k1⟩
  · simp only [List.map_append, List.mem_append] at h1 h2
    rcases h1 with h1 | h1 <;> rcases h2 with h2 | h2
    · exact h'.inj b b' x y h1 h2 h3 h4 h5
    · obtain ⟨z, hz, rfl⟩ := List.mem_map.1 h2
      obtain ⟨y1, y2, y3⟩ := y
      exact fun e => hno z.1 z.2 y1 y2 y3 hz h5 ⟨b, x.2.1, x.2.2, h1, by rw [h4]; congr 1; exact Prod.ext e rfl⟩
    · obtain ⟨z, hz, rfl⟩ := List.mem_map.1 h1
      obtain ⟨x1, x2, x3⟩ := x
      exact fun e => hno z.1 z.2 x1 x2 x3 hz h4 ⟨b', y.2.1, y.2.2, h2, by rw [h5]; congr 1; exact Prod.ext e.symm rfl⟩
    · obtain ⟨z, hz, rfl⟩ := List.mem_map.1 h1
      obtain ⟨z', hz', rfl⟩ := List.mem_map.1 h2
      obtain ⟨B1, d1, S1, k1, _, _⟩ := hR z.1 z.2 hz
      obtain ⟨B2, d2, S2, k2, _, _⟩ := hR z'.1 z'.2 hz'
      have e1 := fr.sub _ _ k1
      have e2 := fr.sub _ _ k2
      rw [h4] at e1
      rw [h5] at e2
      cases e1
      cases e2
      exact hf.inj z.1 z'.1 _ _ (by simp only [List.map_append, List.mem_append]; exact .inr h1) (by simp only [List.map_append, List.mem_append]; exact .inr h2) h3 k1 k2
  · simp only [List.map_append, List.mem_append]
    exact .inl h1
  · simp only [List.map_append, List.mem_append] at h1
    rcases h1 with h1 | h1
    · rcases fr.im k ⟨q, d, z, h1, h2⟩ with ⟨q2, a, b, c, e⟩ | h3
      · exact .inl ⟨q2, a, b, by simp only [List.map_append, List.mem_append]; exact .inl c, e⟩
      · exact .inr h3
    · obtain ⟨y, hy, rfl⟩ := List.mem_map.1 h1
      obtain ⟨B1, d1, S1, k1, k2, k3⟩ := hR y.1 y.2 hy
      have := fr.sub _ _ k1
      rw [h2] at this
      cases this
      exact .inl ⟨y.1, d, z, by simp only [List.map_append, List.mem_append]; exact .inr h1, k1⟩
end
/-- an operation that leaves the blocks alone -/
def quietOp : Op → Bool
  | .move _ | .assign _ | .pick _ _ _ | .build _ _ | .load _ _ | .nilCheck _ | .binOp _ _ _ _ _ | .unOp _ _ _ | .convert _ _ _ | .makeFunc _ _ _ | .slice _ _ _ _ _ | .fieldAddr _ _ _ | .indexAddr _ _ _ | .index _ _ _ | .lookup _ _ _ _ | .entry _ | .extract _ _ => true
  | .call { callee := .builtin .len, .. } => true
  | .call { callee := .builtin .min, .. } => true
  | .call { callee := .builtin .max, .. } => true
  | _ => false
theorem q1_same {s : AS} {v : Option AV} {outs : List (AV × AS)} (h : q1 s v = some outs) : ∃ v, outs = [(v, s)] := by
  obtain ⟨a, _, rfl⟩ := Option.map_eq_some_iff.1 h
  exact ⟨a, rfl⟩
theorem quiet_same {P : Program} {ks : Nat → Bool × List FV → Bool} {o : Oper} {ρ : Operand → Option AV} {s : AS} {outs : List (AV × AS)} (hq : quietOp o.op = true) (h : aop P ks o ρ s = some outs) : ∃ v, outs = [(v, s)] := by
  unfold aop at h
  split at h <;> rename_i ho <;> try (rw [ho] at hq; cases hq; done)
  all_goals first
    | exact q1_same h
    | (split at h <;> first | exact q1_same h | (cases h; done) | (split at h <;> first | exact q1_same h | cases h))
    | skip
  · rename_i f first caps
    split at h
    · obtain ⟨cs, _, rfl⟩ := Option.map_eq_some_iff.1 h
      exact ⟨_, rfl⟩
    · cases h
  · rename_i b args ats
    obtain ⟨r, hr, rfl⟩ := Option.map_eq_some_iff.1 h
    rw [ho] at hq
    unfold bltA at hr
    split at hr
    · cases hq
    · split at hr
      · obtain ⟨v, _, rfl⟩ := Option.map_eq_some_iff.1 hr
        exact ⟨_, rfl⟩
      · cases hr
    · split at hr
      · obtain ⟨v, _, rfl⟩ := Option.map_eq_some_iff.1 hr
        exact ⟨_, rfl⟩
      · cases hr
    · split at hr
      · obtain ⟨v, _, rfl⟩ := Option.map_eq_some_iff.1 hr
        exact ⟨_, rfl⟩
      · cases hr
    · cases hr
  · cases h
end Go.Proofs.YteigplfldhdakaaGreatDoor.Ev
