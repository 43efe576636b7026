/- A region that draws its order and calls nothing: what is shown of it in the plain walk holds behind a fence too, in a round as well. -/
import Derived.OrdersIn
import Derived.OwnWalkIn
import Derived.Test.YtmbpdboengaclaaWLast
namespace Go.Proofs.Ytmbpdboengaclaa
open Go Go.Proofs.YtmbpdboengaclaaW.PrintLast
/-- An operation that hands back a value, or nothing. -/
def calm : Op → Bool
  | .move _ | .assign _ | .nilCheck _ | .load _ _ | .store _ _ _ | .slice _ _ _ _ _ | .fieldAddr _ _ _ | .indexAddr _ _ _ | .binOp _ _ _ _ _ | .field _ _ _ => true
  | _ => false
/-- a value or nothing, or a halt -/
def Mild (P : Program) (s : Sem Next) : Prop := ∀ w r w', s.run P w = .ok r w' → (∃ v, r = .value v) ∨ r = .skip
theorem Mild.val {P : Program} (s : Sem Value) : Mild P (do pure (.value (← s))) := fun w r w' h => by
  simp only [Sem.run_bind] at h
  cases hs : s.run P w with
  | ok v w1 =>
    rw [hs] at h
    simp only [Result.andThen, Sem.run_pure, Result.ok.injEq] at h
    exact .inl ⟨v, h.1.symm⟩
  | halt x w1 => rw [hs] at h; cases h
theorem Mild.unit {P : Program} (s : Sem Unit) : Mild P (do s; pure .skip) := fun w r w' h => by
  simp only [Sem.run_bind] at h
  cases hs : s.run P w with
  | ok v w1 =>
    rw [hs] at h
    simp only [Result.andThen, Sem.run_pure, Result.ok.injEq] at h
    exact .inr h.1.symm
  | halt x w1 => rw [hs] at h; cases h
theorem Mild.pure_ {P : Program} (v : Value) : Mild P (pure (.value v)) := fun w r w' h => by
  simp only [Sem.run_pure, Result.ok.injEq] at h
  exact .inl ⟨v, h.1.symm⟩
theorem Mild.bind {P : Program} {α : Type} (s : Sem α) (f : α → Sem Next) (h : ∀ x, Mild P (f x)) : Mild P (s >>= f) := fun w r w' hr => by
  simp only [Sem.run_bind] at hr
  cases hs : s.run P w with
  | ok v w1 => rw [hs] at hr; exact h v w1 r w' hr
  | halt x w1 => rw [hs] at hr; cases hr
theorem Mild.halt {P : Program} (s : Sem Next) (h : ∀ w, ∃ x w', s.run P w = .halt x w') : Mild P s := fun w r w' hr => by
  obtain ⟨x, w1, hx⟩ := h w
  rw [hx] at hr
  cases hr
theorem calm_mild {P : Program} (ρ : Operand → Value) (o : Oper) (hc : calm o.op = true) : Mild P (execOp ρ o) := by
  unfold execOp
  cases ho : o.op <;> rw [ho] at hc <;> first | (cases hc; done) | skip
  all_goals first | exact Mild.val _ | exact Mild.unit _ | exact Mild.pure_ _ | skip
  dsimp only
  split
  · exact Mild.halt _ fun w => ⟨_, _, rfl⟩
  · exact Mild.halt _ fun w => ⟨_, _, rfl⟩
  · exact Mild.halt _ fun w => ⟨_, _, rfl⟩
  · split
    · exact Mild.halt _ fun w => ⟨_, _, rfl⟩
    · refine Mild.bind _ _ fun x => Mild.bind _ _ fun y => ?_
      split
      all_goals first | exact Mild.pure_ _ | exact Mild.bind _ _ fun z => Mild.pure_ _
    · exact Mild.pure_ _
  · exact Mild.pure_ _
theorem calm_about {P : Program} {w : World} {ρ : Operand → Value} {o : Oper} (hc : calm o.op = true) : o.about P w ρ = none := by
  unfold Oper.about
  cases ho : o.op <;> rw [ho] at hc <;> first | rfl | cases hc
theorem calm_defer {o : Oper} (hc : calm o.op = true) : ∀ c, o.op ≠ .defer c := fun c h => by rw [h] at hc; cases hc
section
variable {F : Fence} {n : Nat} {P : Program} {ops : Array Oper} {Q : Exit → Act → World → Prop} {md : Region.Mode}
theorem calm_in {o : Oper} {a : Act} {w : World} {K : Act → World → Prop} (hc : calm o.op = true) (h : o.wp P a w K Q) : o.wpIn F n P a w K Q := by
  refine ⟨fun f hf => (by rw [calm_about hc] at hf; cases hf), ?_⟩
  rw [Oper.semAt_eq _ _ _ (calm_defer hc)]
  unfold Oper.wp at h
  have hm := calm_mild (P := P) a.eval o hc w
  generalize (execOp a.eval o).run P w = r at h hm
  cases r with
  | ok x w' =>
    rcases hm x w' rfl with ⟨v, rfl⟩ | rfl
    · exact h
    · exact h
  | halt x w' => cases x <;> first | exact h | exact h.elim
theorem any_in (hall : ∀ (i : Nat) (o : Oper), ops[i]? = some o → calm o.op = true) (hout : ¬ LetsOut Q) : ∀ (fuel : Nat) (listed : Array Bool) (a : Act) (w : World), wpAny P md ops Q fuel listed a w → wpAnyIn F n P md ops Q fuel listed a w
  | 0, _, _, _, h => h
  | fuel + 1, listed, a, w, h => by
    refine ⟨h.1, fun i hi => ?_⟩
    have h2 := h.2 i hi
    unfold wpOp at h2
    unfold wpOpIn
    cases ho : ops[i]? with
    | none => simp only [ho] at h2 ⊢; exact any_in hall hout fuel _ _ _ h2
    | some o =>
      simp only [ho] at h2 ⊢
      split
      · rename_i hw
        rw [if_pos hw] at h2
        rcases h2 with h2 | h2
        · exact Oper.wpIn_mono (fun a' w' h' => any_in hall hout fuel _ _ _ h') (calm_in (hall i o ho) h2)
        · exact absurd h2.2 hout
      · rename_i hw
        rw [if_neg hw] at h2
        exact ⟨fun f hf => (by rw [calm_about (hall i o ho)] at hf; cases hf), any_in hall hout fuel _ _ _ h2⟩
def calmAll (ops : Array Oper) : Bool := ops.all fun o => calm o.op
theorem calmAll_spec (h : calmAll ops = true) : ∀ (i : Nat) (o : Oper), ops[i]? = some o → calm o.op = true := fun i o ho => by
  unfold calmAll at h
  obtain ⟨hl, he⟩ := Array.getElem?_eq_some_iff.1 ho
  have := (Array.all_eq_true.1 h) i hl
  rw [he] at this
  exact this
/-- The region, behind a fence: from here on the words of WLast. -/
theorem start_in {S : World → Prop} {ds : List Nat} {id m : Nat} {a : Act} {w : World} (l : Array Bool) (hm : P.follows .mixedOrders = true) (hn : ops.size = m) (hl : Array.replicate m false = l) (hc : calmAll ops = true) (hout : ¬ LetsOut Q) (hS : S w.drew)
    (h : S w.drew → wpAnyLast P .any ops Q S ds m l a w.drew) : (Code.region id ops true).wpIn F n P Q a w := by
  subst hn
  subst hl
  exact wpIn_region_any hm (any_in (calmAll_spec hc) hout _ _ _ _ (wpAny_of_last _ _ _ _ (h hS)))
end
end Go.Proofs.Ytmbpdboengaclaa
