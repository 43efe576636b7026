/- texts, plain: how many tokens; the words' map, said of words. -/
import Derived.Test.YteigplfldhdakaaGreatDoorD14
import Derived.Test.YteigplfldhdakaaGreatDoorD20
import Derived.OrdersIn
import Derived.OwnWalkIn
import Derived.StillTail
import Derived.WalkKit
import Derived.Test.YteigplfldhdakaaGreatDoorD02
import Derived.OrdersHeld
set_option linter.unusedVariables false
set_option linter.unusedSimpArgs false
namespace Go.Proofs.YteigplfldhdakaaGreatDoor
open Go.Lib
theorem spnG_len : ∀ (f : Nat) (l : Bool) (p : Nat) (L : List UInt8), (spnG f l p L).length ≤ L.length
  | 0, l, p, L => by simp [spnG]
  | f + 1, l, p, L => by
    unfold spnG
    by_cases hne : L = []
    · rw [if_pos hne]; simp
    · rw [if_neg hne]
      have hle := runL_le l L
      by_cases hr : 0 < runL l L
      · rw [if_pos hr, List.length_cons]
        have := spnG_len f (!l) (p + runL l L) (L.drop (runL l L))
        rw [List.length_drop] at this
        omega
      · rw [if_neg hr]; exact spnG_len f (!l) p L
theorem spansF_len (s : ByteArray) : (spansF (bys s)).length ≤ s.size := by
  unfold spansF spnL
  have := spnG_len (spnM true (bys s)) true 0 (bys s)
  rw [bys_size] at this
  exact this
theorem toksF_len (s : ByteArray) : (toksF s).length ≤ s.size := by
  unfold toksF
  rw [List.length_map]
  exact Nat.le_trans (List.length_filter_le _ _) (spansF_len s)
/-- the tokens that may be words -/
def wdsF (s : ByteArray) : List ByteArray := (toksF s).filter fun t => decide (runeCount t ≤ 64)
theorem wdsF_len (s : ByteArray) : (wdsF s).length ≤ s.size := Nat.le_trans (List.length_filter_le _ _) (toksF_len s)
theorem wdsF_law {s : ByteArray} (hv : validD (bys s) = true) (hs : s.size ≤ 1048576) {t : ByteArray} (ht : t ∈ wdsF s) : TokL t := by
  obtain ⟨h1, h2⟩ := List.mem_filter.1 ht
  exact tok_law hv hs h1 (by simpa using h2)
noncomputable def putW (x : ByteArray) (v : Int) (T : List Wd) : List Wd := match posV (.string x) (T.map kw) with | some i => T.set i (x, v) | none => T ++ [(x, v)]
theorem putW_kw (x : ByteArray) (v : Int) (T : List Wd) : (putW x v T).map kw = putV (.string x) v (T.map kw) := by
  unfold putW putV
  cases posV (.string x) (T.map kw) with
  | none => simp [kw]
  | some i => simp [List.map_set, kw]
theorem keys_kw (T : List Wd) : keysV (T.map kw) = (T.map (·.1)).map Value.string := by simp [keysV, kw]
theorem putW_fst {x y : ByteArray} {v : Int} {T : List Wd} : y ∈ (putW x v T).map (·.1) ↔ y ∈ T.map (·.1) ∨ y = x := by
  have h := putV_mem (k := Value.string x) (k' := .string y) (v := v) (l := T.map kw)
  rw [← putW_kw, keys_kw, keys_kw, List.mem_map, List.mem_map] at h
  have e : ∀ l : List ByteArray, (∃ a, a ∈ l ∧ Value.string a = Value.string y) ↔ y ∈ l := fun l => ⟨fun ⟨a, ha, he⟩ => by cases he; exact ha, fun hy => ⟨y, hy, rfl⟩⟩
  rw [e, e] at h
  rw [h]
  exact ⟨fun h => h.imp id fun e => by cases e; rfl, fun h => h.imp id fun e => by rw [e]⟩
theorem nodup_str {l : List ByteArray} : (l.map Value.string).Nodup ↔ l.Nodup := by
  rw [List.nodup_iff_pairwise_ne, List.nodup_iff_pairwise_ne, List.pairwise_map]
  constructor
  · exact fun h => h.imp fun h e => h (by rw [e])
  · exact fun h => h.imp fun h e => h (by cases e; rfl)
theorem putW_dist {x : ByteArray} {v : Int} {T : List Wd} (h : distW T) : distW (putW x v T) := by
  have h1 := putV_nodup (k := Value.string x) (v := v) (l := T.map kw) (by rw [keys_kw]; exact nodup_str.2 h)
  rw [← putW_kw, keys_kw] at h1
  exact nodup_str.1 h1
theorem putW_law {x : ByteArray} {v : Int} {T : List Wd} (h : ∀ y ∈ T, lawW y) (hx : lawW (x, v)) : ∀ y ∈ putW x v T, lawW y := fun y hy => by
  unfold putW at hy
  split at hy
  · rcases List.mem_or_eq_of_mem_set hy with hy | rfl
    · exact h y hy
    · exact hx
  · rcases List.mem_append.1 hy with hy | hy
    · exact h y hy
    · rw [List.mem_singleton] at hy; subst hy; exact hx
theorem putW_len (x : ByteArray) (v : Int) (T : List Wd) : (putW x v T).length ≤ T.length + 1 := by
  unfold putW
  split
  · rw [List.length_set]; omega
  · simp
theorem cntW {x : ByteArray} {T : List Wd} (h : ∀ y ∈ T, lawW y) : 0 ≤ cntV (.string x) (T.map kw) ∧ cntV (.string x) (T.map kw) ≤ 1073741824 := by
  unfold cntV
  split
  · next i hi =>
    obtain ⟨h1, -⟩ := posV_some hi
    rw [List.length_map] at h1
    have h2 := h _ (List.getElem_mem h1)
    obtain ⟨-, h3, h4⟩ := h2
    have e : ((T.map kw).getD i ke0).2 = T[i].2 := by rw [List.getD_eq_getElem?_getD, List.getElem?_map, List.getElem?_eq_getElem h1]; rfl
    rw [e]
    omega
  · omega
end Go.Proofs.YteigplfldhdakaaGreatDoor
/- A region that draws its order and calls nothing: what is shown of it in the plain walk holds behind a fence too, in a round as well. -/
namespace Go.Proofs.YteigplfldhdakaaGreatDoor
open Go
/-- An operation that hands back a value, or nothing. -/
def calm : Op → Bool
  | .move _ | .assign _ | .nilCheck _ | .load _ _ | .store _ _ _ | .slice _ _ _ _ _ | .fieldAddr _ _ _ | .indexAddr _ _ _ | .binOp _ _ _ _ _ | .field _ _ _ | .buildSlice _ _ _ => true
  | .call c => (match c.callee with | .builtin .append => true | _ => false)
  | _ => false
/-- a value or nothing, or a halt -/
def Mild (P : Program) (s : Sem Next) : Prop := ∀ w r w', s.run P w = .ok r w' → (∃ v, r = .value v) ∨ r = .skip
theorem Mild.val {P : Program} (s : Sem Value) : Mild P (do pure (.value (← s))) := fun w r w' h => by
  simp only [Sem.run_bind] at h
  cases hs : s.run P w with
  | ok v w1 =>
    rw [hs] at h
    simp only [Result.andThen, Sem.run_pure, Result.ok.injEq] at h
    exact .inl ⟨v, h.1.symm⟩
  | halt x w1 => rw [hs] at h; cases h
theorem Mild.unit {P : Program} (s : Sem Unit) : Mild P (do s; pure .skip) := fun w r w' h => by
  simp only [Sem.run_bind] at h
  cases hs : s.run P w with
  | ok v w1 =>
    rw [hs] at h
    simp only [Result.andThen, Sem.run_pure, Result.ok.injEq] at h
    exact .inr h.1.symm
  | halt x w1 => rw [hs] at h; cases h
theorem Mild.pure_ {P : Program} (v : Value) : Mild P (pure (.value v)) := fun w r w' h => by
  simp only [Sem.run_pure, Result.ok.injEq] at h
  exact .inl ⟨v, h.1.symm⟩
theorem Mild.bind {P : Program} {α : Type} (s : Sem α) (f : α → Sem Next) (h : ∀ x, Mild P (f x)) : Mild P (s >>= f) := fun w r w' hr => by
  simp only [Sem.run_bind] at hr
  cases hs : s.run P w with
  | ok v w1 => rw [hs] at hr; exact h v w1 r w' hr
  | halt x w1 => rw [hs] at hr; cases hr
theorem Mild.halt {P : Program} (s : Sem Next) (h : ∀ w, ∃ x w', s.run P w = .halt x w') : Mild P s := fun w r w' hr => by
  obtain ⟨x, w1, hx⟩ := h w
  rw [hx] at hr
  cases hr
theorem calm_mild {P : Program} (ρ : Operand → Value) (o : Oper) (hc : calm o.op = true) : Mild P (execOp ρ o) := by
  unfold execOp
  cases ho : o.op <;> rw [ho] at hc <;> first | (cases hc; done) | skip
  case call c =>
    obtain ⟨cal, args, tys⟩ := c
    unfold calm at hc
    dsimp only at hc
    split at hc
    · have := Mild.val (P := P) (Builtin.append_ tys o.type (args.map ρ))
      refine fun w r w' h => this w r w' ?_
      simpa [resolve, invoke, builtin] using h
    · cases hc
  all_goals first | exact Mild.val _ | exact Mild.unit _ | exact Mild.pure_ _ | skip
  dsimp only
  split
  · exact Mild.halt _ fun w => ⟨_, _, rfl⟩
  · exact Mild.halt _ fun w => ⟨_, _, rfl⟩
  · exact Mild.halt _ fun w => ⟨_, _, rfl⟩
  · split
    · exact Mild.halt _ fun w => ⟨_, _, rfl⟩
    · refine Mild.bind _ _ fun x => Mild.bind _ _ fun y => ?_
      split
      all_goals first | exact Mild.pure_ _ | exact Mild.bind _ _ fun z => Mild.pure_ _
    · exact Mild.pure_ _
  · exact Mild.pure_ _
theorem calm_about {P : Program} {w : World} {ρ : Operand → Value} {o : Oper} (hc : calm o.op = true) : o.about P w ρ = none := by
  unfold Oper.about
  cases ho : o.op <;> rw [ho] at hc <;> first | rfl | (cases hc; done) | skip
  case call c =>
    obtain ⟨cal, args, tys⟩ := c
    unfold calm at hc
    dsimp only at hc
    split at hc
    · simp [resolve, Target.leads]
    · cases hc
theorem calm_defer {o : Oper} (hc : calm o.op = true) : ∀ c, o.op ≠ .defer c := fun c h => by rw [h] at hc; cases hc
section
variable {F : Fence} {n : Nat} {P : Program} {ops : Array Oper} {Q : Exit → Act → World → Prop} {md : Region.Mode}
theorem calm_in {o : Oper} {a : Act} {w : World} {K : Act → World → Prop} (hc : calm o.op = true) (h : o.wp P a w K Q) : o.wpIn F n P a w K Q := by
  refine ⟨fun f hf => (by rw [calm_about hc] at hf; cases hf), ?_⟩
  rw [Oper.semAt_eq _ _ _ (calm_defer hc)]
  unfold Oper.wp at h
  have hm := calm_mild (P := P) a.eval o hc w
  generalize (execOp a.eval o).run P w = r at h hm
  cases r with
  | ok x w' =>
    rcases hm x w' rfl with ⟨v, rfl⟩ | rfl
    · exact h
    · exact h
  | halt x w' => cases x <;> first | exact h | exact h.elim
theorem any_in (hall : ∀ (i : Nat) (o : Oper), ops[i]? = some o → calm o.op = true) (hout : ¬ LetsOut Q) : ∀ (fuel : Nat) (listed : Array Bool) (a : Act) (w : World), wpAny P md ops Q fuel listed a w → wpAnyIn F n P md ops Q fuel listed a w
  | 0, _, _, _, h => h
  | fuel + 1, listed, a, w, h => by
    refine ⟨h.1, fun i hi => ?_⟩
    have h2 := h.2 i hi
    unfold wpOp at h2
    unfold wpOpIn
    cases ho : ops[i]? with
    | none => simp only [ho] at h2 ⊢; exact any_in hall hout fuel _ _ _ h2
    | some o =>
      simp only [ho] at h2 ⊢
      split
      · rename_i hw
        rw [if_pos hw] at h2
        rcases h2 with h2 | h2
        · exact Oper.wpIn_mono (fun a' w' h' => any_in hall hout fuel _ _ _ h') (calm_in (hall i o ho) h2)
        · exact absurd h2.2 hout
      · rename_i hw
        rw [if_neg hw] at h2
        exact ⟨fun f hf => (by rw [calm_about (hall i o ho)] at hf; cases hf), any_in hall hout fuel _ _ _ h2⟩
def calmAll (ops : Array Oper) : Bool := ops.all fun o => calm o.op
theorem calmAll_spec (h : calmAll ops = true) : ∀ (i : Nat) (o : Oper), ops[i]? = some o → calm o.op = true := fun i o ho => by
  unfold calmAll at h
  obtain ⟨hl, he⟩ := Array.getElem?_eq_some_iff.1 ho
  have := (Array.all_eq_true.1 h) i hl
  rw [he] at this
  exact this
end
end Go.Proofs.YteigplfldhdakaaGreatDoor
/- A drawn region behind a fence: reads taken first, whatever stands between. -/
namespace Go.Proofs.YteigplfldhdakaaGreatDoor
open Go
section
variable {F : Fence} {n : Nat} {P : Program} {ops : Array Oper} {Q : Exit → Act → World → Prop} {md : Region.Mode} {S : World → Prop} {T : Nat → Bool}
/-- any order from here on, S behind every operation but those of T -/
def wpAnyT (P : Program) (md : Region.Mode) (ops : Array Oper) (Q : Exit → Act → World → Prop) (S : World → Prop) (T : Nat → Bool) : Nat → Array Bool → Act → World → Prop
  | 0, listed, a, w => Region.ready md ops listed = [] ∧ Q .normal a w
  | fuel + 1, listed, a, w => (Region.ready md ops listed = [] → Q .normal a w) ∧
    ∀ i ∈ Region.ready md ops listed, wpOp P ops Q i (fun a' w' => (T i = false → S w') ∧ wpAnyT P md ops Q S T fuel (listed.setIfInBounds i true) a' w') a w
theorem wpAny_of_T : ∀ (fuel : Nat) (listed : Array Bool) (a : Act) (w : World), wpAnyT P md ops Q S T fuel listed a w → wpAny P md ops Q fuel listed a w
  | 0, _, _, _, h => h
  | fuel + 1, _, _, _, h => ⟨h.1, fun i hi => wpOp_mono (fun a' w' h' => wpAny_of_T fuel _ a' w' h'.2) (h.2 i hi)⟩
theorem wpAnyT_first {i : Nat} {oi : Oper} {v : Value} (hi : ops[i]? = some oi) (hsel : ∀ (j : Nat) (o : Oper) cs b, ops[j]? = some o → o.op ≠ .select cs b)
    (hT : ∀ (j : Nat) (oj : Oper), ops[j]? = some oj → T j = true → ∃ e ∈ oj.after, Region.binds md e = true ∧ e.on = i) (hQ : ∀ c a w, Q (.panic c) (a.put oi.dst v) w → Q (.panic c) a w) :
    ∀ (fuel : Nat) (listed : Array Bool) (a : Act) (w : World),
      (∀ j oj, ops[j]? = some oj → j ≠ i → listed.getD j true = false → (∀ e ∈ oj.after, Region.binds md e = true → e.on ≠ i) → oi.apart ops oj = true) →
      i ∈ Region.ready md ops listed → YieldsIf P ops S oi v a → S w →
      wpAnyT P md ops Q S T fuel (listed.setIfInBounds i true) (a.put oi.dst v) w → wpAnyT P md ops Q S T (fuel + 1) listed a w := by
  intro fuel
  induction fuel with
  | zero =>
    intro listed a w _ hr hy hS H
    refine ⟨fun h => (by rw [h] at hr; cases hr), fun j hj => ?_⟩
    by_cases hji : j = i
    · subst hji; exact hy.wpOp hi hS ⟨fun _ => hS, H⟩
    · have := ready_mono hj hji
      rw [H.1] at this
      cases this
  | succ fuel ih =>
    intro listed a w hfree hr hy hS H
    refine ⟨fun h => (by rw [h] at hr; cases hr), fun j hj => ?_⟩
    by_cases hji : j = i
    · subst hji; exact hy.wpOp hi hS ⟨fun _ => hS, H⟩
    · have h1 := H.2 j (ready_mono hj hji)
      obtain ⟨hjun, oj, hoj, hall⟩ := mem_ready.1 hj
      have hnot : ∀ e ∈ oj.after, Region.binds md e = true → e.on ≠ i := fun e he hb heq => by
        have h1 := hall e he hb
        have h0 := (mem_ready.1 hr).1
        rw [heq] at h1
        rcases Nat.lt_or_ge i listed.size with h' | h'
        · simp [h'] at h0 h1; rw [h0] at h1; cases h1
        · simp [Array.getElem?_eq_none h'] at h1
      have hTj : T j = false := by
        cases hx : T j with
        | false => rfl
        | true =>
          obtain ⟨e, he, hb, heq⟩ := hT j oj hoj hx
          exact absurd heq (hnot e he hb)
      have h2 := wpOp_putIf hoj (hfree j oj hoj hji hjun hnot) (fun cs b => hsel i oi cs b hi) (fun cs b => hsel j oj cs b hoj) hQ hy h1
      have hfree' : ∀ k ok, ops[k]? = some ok → k ≠ i → (listed.setIfInBounds j true).getD k true = false →
          (∀ e ∈ ok.after, Region.binds md e = true → e.on ≠ i) → oi.apart ops ok = true := fun k ok hk hki hun hno => by
        refine hfree k ok hk hki ?_ hno
        by_cases hjk : j = k
        · subst hjk; exact hjun
        · rw [getD_set_ne true hjk] at hun; exact hun
      refine wpOp_mono (fun a' w' h3 => ⟨fun _ => h3.2.1 hTj, ih (listed.setIfInBounds j true) a' w' hfree' (ready_mono hr (Ne.symm hji)) h3.1 (h3.2.1 hTj) ?_⟩) h2
      rw [Array.setIfInBounds_comm _ _ hji]
      exact h3.2.2
/-- do all of T wait for i? -/
def waitsAll (md : Region.Mode) (ops : Array Oper) (T : Nat → Bool) (i : Nat) : Bool := (List.range ops.size).all fun j => !T j || (match ops[j]? with | some o => o.after.any fun e => Region.binds md e && e.on == i | none => true)
theorem waitsAll_spec {i : Nat} (h : waitsAll md ops T i = true) : ∀ (j : Nat) (oj : Oper), ops[j]? = some oj → T j = true → ∃ e ∈ oj.after, Region.binds md e = true ∧ e.on = i := fun j oj ho hT => by
  have hl := (Array.getElem?_eq_some_iff.1 ho).1
  have h1 := (List.all_eq_true.1 h) j (List.mem_range.2 hl)
  rw [hT, ho] at h1
  simp only [Bool.not_true, Bool.false_or, Array.any_eq_true'] at h1
  obtain ⟨e, he, h2⟩ := h1
  simp only [Bool.and_eq_true, beq_iff_eq] at h2
  exact ⟨e, he, h2.1, h2.2⟩
theorem wpAnyT_take {i : Nat} {oi : Oper} {v : Value} {fuel : Nat} {listed : Array Bool} {a : Act} {w : World} (hi : ops[i]? = some oi)
    (hs : Region.noSelect ops = true) (hT : waitsAll md ops T i = true) (hf : Region.free md ops listed i = true) (hr : (Region.ready md ops listed).contains i = true)
    (hQ : ∀ c a w, Q (.panic c) (a.put oi.dst v) w → Q (.panic c) a w) (hy : YieldsIf P ops S oi v a) (hS : S w)
    (h : wpAnyT P md ops Q S T fuel (listed.setIfInBounds i true) (a.put oi.dst v) w) : wpAnyT P md ops Q S T (fuel + 1) listed a w :=
  wpAnyT_first hi (Region.noSelect_spec hs) (waitsAll_spec hT) hQ fuel listed a w (Region.free_spec hi hf) (by simpa using hr) hy hS h
theorem wpAnyT_one {i : Nat} {o : Oper} {fuel : Nat} {listed : Array Bool} {a : Act} {w : World} (hr : Region.ready md ops listed = [i]) (ho : ops[i]? = some o)
    (h : ∀ K' : Act → World → Prop, (∀ a w, (T i = false → S w) → wpAnyT P md ops Q S T fuel (listed.setIfInBounds i true) a w → K' a w) → if Region.wanted o (yielded ops a.tmps) = true then Oper.wp P o a w K' Q else K' (a.put o.dst undef) w) : wpAnyT P md ops Q S T (fuel + 1) listed a w := by
  refine ⟨fun h0 => (by rw [hr] at h0; cases h0), fun j hj => ?_⟩
  rw [hr, List.mem_singleton] at hj
  subst hj
  unfold wpOp
  rw [ho]
  have h1 := h (fun a' w' => (T j = false → S w') ∧ wpAnyT P md ops Q S T fuel (listed.setIfInBounds j true) a' w') (fun a w h2 h3 => ⟨h2, h3⟩)
  dsimp only
  split
  · rename_i hw; rw [if_pos hw] at h1; exact .inl h1
  · rename_i hw; rw [if_neg hw] at h1; exact h1
theorem wpAnyT_done {listed : Array Bool} {a : Act} {w : World} (hr : Region.ready md ops listed = []) (h : Q .normal a w) : wpAnyT P md ops Q S T 0 listed a w := ⟨hr, h⟩
theorem wpIn_region_T {id : Nat} {a : Act} {w : World} (S : World → Prop) (T : Nat → Bool) (hm : P.follows .mixedOrders = true) (hc : calmAll ops = true) (hout : ¬ LetsOut Q)
    (h : wpAnyT P .any ops Q S T ops.size (Array.replicate ops.size false) a { w with drawn := w.drawn + 1 }) : (Code.region id ops true).wpIn F n P Q a w :=
  wpIn_region_any hm (any_in (calmAll_spec hc) hout _ _ _ _ (wpAny_of_T _ _ _ _ h))
end
end Go.Proofs.YteigplfldhdakaaGreatDoor
/- text: Tokens. -/
namespace Go.Proofs.YteigplfldhdakaaGreatDoor
open Go.RowKit Go.Shelf
attribute [local go_sem] Oper.semAt_some
def txsC (L : List ByteArray) : List Value := L.map fun s => .string s
theorem load40 {W : World} {g : Nat} {v : Value} (hg : W.heap[g]? = some (.cells #[v] 40 (0, 0))) : (loadVar 40 ⟨g, 0, none⟩).run Tryz.prog W = .ok v W := by
  have hc := (box_cell hg).1
  have hu := Tryz.underlying40
  go_simp
theorem txsC_append (L M : List ByteArray) : txsC (L ++ M) = txsC L ++ txsC M := by simp [txsC]
/-- v is a slice of texts of one's own: these -/
def TtS (w : World) (v : Value) (L : List ByteArray) : Prop := SL w 9 1 v L.length (txsC L)
theorem TtS.below {w W : World} {v : Value} {L : List ByteArray} (h : TtS w v L) (hb : Below w.heap.size w W) : TtS W v L := SL.keep h fun k hk => hb.block k (SL.lt h k hk)
theorem info9 : (Tryz.prog.info? 9).map (fun i => (i.zero, i.size, i.bytes)) = some (some (.string ⟨#[]⟩), 1, 16) := by kernel_rfl
/-- the texts of the pieces that are tokens -/
def cutL (s : ByteArray) (Sp : List Spn) : List ByteArray := (toksL Sp).map fun x => s.extract x.1 x.2.1
def TokI (w : World) (lo : Nat) (s : ByteArray) (Sp : List Spn) (k : Nat) (W : World) : Prop :=
  W.heap[w.heap.size]? = some (.cells #[.string s] 9 (0, 0)) ∧ (∃ A c, W.heap[w.heap.size + 1]? = some (.cells #[.slice A k c] 40 (0, 0)) ∧ SL W 9 1 (.slice A k c) k (txsC ((cutL s Sp).take k)) ∧ (∀ b, (Value.slice A k c).ownBlock = some b → lo ≤ b)) ∧ Below w.heap.size w W
set_option maxRecDepth 100000 in
set_option maxHeartbeats 8000000 in
theorem tokens_loop (s : ByteArray) (hs : s.size ≤ 1048576) (w : World) (hT : Tab w) (q : Int) (Sp : List Spn) (hSp : ∀ x ∈ Sp, x.1 ≤ x.2.1 ∧ x.2.1 ≤ s.size) (hl : Sp.length ≤ 1048576)
    (hsp : ∀ W, Below w.heap.size w W → Calls Tryz.prog 42 #[.string s] W fun e w' => Below W.heap.size W w' ∧ ∃ A c, e = .returned (.tuple #[.slice A Sp.length c, .int .i64 q]) ∧ SpS w' (.slice A Sp.length c) Sp) :
    Calls Tryz.prog 22 #[.string s] w fun e w' => Below w.heap.size w w' ∧ ∃ A c, e = .returned (.tuple #[.slice A (cutL s Sp).length c, .int .i64 q]) ∧ TtS w' (.slice A (cutL s Sp).length c) (cutL s Sp) := by
  obtain ⟨i0, hi, hz0, hz1, hz2⟩ := info_parts info9
  have HSP := hid hsp
  have HOK := hid hSp
  refine (callsIn_wide (n := 6)).1 ?_
  refine callsIn_of_wp_marks Tryz.func22 rfl trivial ?_ rfl
  simp only [Tryz.ntmps22, List.size_toArray, List.length_cons, List.length_nil, Nat.reduceAdd, Nat.reduceSub, Array.replicate_succ, Array.replicate_zero, List.push_toArray, List.append_toArray, List.nil_append, List.cons_append]
  have hb2 : Below w.heap.size w ((w.alloc (.cells #[.string s] 9)).alloc (.cells #[.slice none 0 0] 40)) := balloc (balloc (Below.refl _ w) _) _
  have HC := hid (HSP.out _ hb2)
  gi_wp2_with (first
    | (refine ⟨trivial, ?_⟩; gi_at_call 42; refine (callsIn_wide.2 HC.out).mono ?_; rintro e w1 ⟨hb1, A1, c1, rfl, h1⟩; have HB1 := hid hb1; have H1 := hid h1; clear hb1 h1)
    | (refine ⟨trivial, ?_⟩; gi_at_call 55; refine (callsIn_wide.2 (tokens_c _ _ _ _)).mono ?_; rintro e w2 ⟨rfl, rfl⟩))
  obtain ⟨w3, hw3⟩ : ∃ w3, w1.alloc (Obj.cells #[Value.slice A1 Sp.length c1] 104) = w3 := ⟨_, rfl⟩
  have hb3 : Below w.heap.size w w3 := by rw [← hw3]; exact balloc (bthen hb2 HB1.out) _
  have hB13 : Below w1.heap.size w1 w3 := by rw [← hw3]; exact balloc (Below.refl _ _) _
  have h0c : w3.heap[w.heap.size]? = some (.cells #[.string s] 9 (0, 0)) := by
    rw [hB13.block _ (by have := HB1.out.size; simp at this; omega), HB1.out.block _ (by simp; omega)]; exact al2_0 _ _ _
  have h1c : w3.heap[w.heap.size + 1]? = some (.cells #[.slice none 0 0] 40 (0, 0)) := by
    rw [hB13.block _ (by have := HB1.out.size; simp at this; omega), HB1.out.block _ (by simp)]; exact al2_1 _ _ _
  have hBn : w3.heap[w1.heap.size]? = some (.cells #[.slice A1 Sp.length c1] 104 (0, 0)) := by rw [← hw3]; exact heap_alloc_new _ _
  have hSp3 : SpS w3 (.slice A1 Sp.length c1) Sp := by rw [← hw3]; exact SL.alloc H1.out _
  have hw1s := HB1.out.size
  simp only [World.size_alloc] at hw1s
  have hw3s : w3.heap.size = w1.heap.size + 1 := by rw [← hw3]; simp
  try rw [hw3]
  have hll : (toksL Sp).length ≤ Sp.length := List.length_filter_le _ _
  refine wpIn_rangeA rfl (by omega) (gf := 96) (lb := #[.pointer (some ⟨w1.heap.size, 0, none⟩)]) rfl trivial (enters_of Tryz.func96 (by kernel_rfl) rfl)
    (tokens_seq 5 (by omega) w1.heap.size A1 c1 Sp (by omega) w3 hBn hSp3) (Below.refl _ _) (fun _ => rfl) (fun k hk => ?hR) (fun k hk W o h => ?hKR) (fun k hk => hk.elim)
    (TokI w w3.heap.size s Sp) (fun _ _ _ => False) ?hI ?hIx ?h0 ?round ?done ?stop
  case hR =>
    rcases hk with rfl | hk
    · omega
    · have := SL.lt hSp3 k hk; omega
  case hKR =>
    refine Below.heap_alloc W o k ?_
    rcases hk with rfl | hk
    · omega
    · have := SL.lt hSp3 k hk; omega
  case hI =>
    rintro k X Y ⟨h0, ⟨A, c, h1, h2, h3⟩, h4⟩ hcs
    exact ⟨hcs.cells h0 (fun h => h), ⟨A, c, hcs.cells h1 (fun h => h), SL.cs h2 hcs (fun b hb h => h), h3⟩, hcs.below h4 (by omega) (fun b hb h => h)⟩
  case hIx => exact fun _ _ _ _ h _ => h
  case h0 => exact ⟨h0c, ⟨none, 0, h1c, SL.nil _ _ _, fun b hb => by simp [Value.ownBlock] at hb⟩, hb3⟩
  case stop => exact fun _ _ _ _ _ _ h _ => h.elim
  case round =>
    intro l k W hk hIk hszW
    obtain ⟨x, hx⟩ : ∃ x, (toksL Sp).getD k (0, 0, false) = x := ⟨_, rfl⟩
    unfold tokArgs
    rw [hx, spnV]
    obtain ⟨xf, xt, xb⟩ := x
    dsimp only
    apply Exists.intro
    apply Exists.intro
    refine ⟨?_, fun K hK => ?_, ?_⟩
    rotate_left
    · gi_wp2
      exact hK
    · rintro W' ⟨h0, ⟨A, c, h1, h2, h3⟩, h4⟩ hbx hszW' hn1 hn2
      obtain ⟨s0, s1⟩ := box_cell h0
      obtain ⟨a0, a1⟩ := box_cell h1
      obtain ⟨x0, x1, x2, -, -, -⟩ := row3 hbx
      have hxl : (toksL Sp)[k] = (xf, xt, xb) := by rw [← hx]; simp [List.getD_eq_getElem?_getD, hk]
      have hmem := List.getElem_mem hk
      rw [hxl] at hmem
      have hok := HOK.out _ (List.mem_filter.1 hmem).1
      dsimp only at hok
      have hq1 : (0 : Int) ≤ (xf : Int) := by omega
      have hq2 : (xf : Int) ≤ (xt : Int) := by omega
      have hq3 : (xt : Int) ≤ (s.size : Int) := by omega
      have hone : ∀ u ∈ [Value.string (s.extract xf xt)], u.oneCell' = true := by simp [Value.oneCell']
      have h63 : k + 1 ≤ maxLen := by simp only [maxLen]; omega
      have hby : (k + 1) * 16 ≤ 140737488355328 := by omega
      have HSW : Hid (W'.drew.heap[w.heap.size]? = some (.cells #[.string s] 9 (0, 0)) ∧ W'.drew.heap[w.heap.size + 1]? = some (.cells #[.slice A k c] 40 (0, 0)) ∧ W'.drew.heap[W.heap.size]? = some (.cells #[.int .i64 (xf : Int), .int .i64 (xt : Int), .bool xb] 112 (0, 0))) := hid ⟨h0, h1, hbx⟩
      have H0 := hid h0
      have H1 := hid h1
      have H2 := hid h2
      have H3 := hid h3
      have H4 := hid h4
      have HXL := hid hxl
      have HBX := hid hbx
      have hLD : SL W'.drew 9 1 (.slice A k c) k (txsC ((cutL s Sp).take k)) := SL.keep h2 fun _ _ => rfl
      have HLD := hid hLD
      clear h0 h1 h2 h3 h4 hxl hx hmem hok hbx hLD s0 s1 a0 a1 x0 x1 x2
      gi_wp2
      refine wpIn_region_T (fun X => X.heap[w.heap.size]? = some (.cells #[.string s] 9 (0, 0)) ∧ X.heap[w.heap.size + 1]? = some (.cells #[.slice A k c] 40 (0, 0)) ∧ X.heap[W.heap.size]? = some (.cells #[.int .i64 (xf : Int), .int .i64 (xt : Int), .bool xb] 112 (0, 0))) (fun i => i == 9) (by kernel_rfl) (by kernel_rfl) (fun ⟨a, w, h⟩ => h) ?_
      refine wpAnyT_take (i := 0) (v := .slice A k c) rfl (by kernel_rfl) (by kernel_rfl) (by kernel_rfl) (by kernel_rfl) (fun _ _ _ h => h) (.inl ⟨rfl, fun X hX => ?_⟩) HSW.out ?_
      · obtain ⟨z0, z1, z2⟩ := hX
        have y1 := (box_cell z1).1
        simp [go_sem, y1]
      refine wpAnyT_take (i := 1) (v := .string s) rfl (by kernel_rfl) (by kernel_rfl) (by kernel_rfl) (by kernel_rfl) (fun _ _ _ h => h) (.inl ⟨rfl, fun X hX => ?_⟩) HSW.out ?_
      · obtain ⟨z0, z1, z2⟩ := hX
        have y1 := (box_cell z0).1
        simp [go_sem, y1]
      refine wpAnyT_take (i := 2) (v := .pointer (some ⟨W.heap.size, 0, none⟩)) rfl (by kernel_rfl) (by kernel_rfl) (by kernel_rfl) (by kernel_rfl) (fun _ _ _ h => h) (.inl ⟨rfl, fun X hX => ?_⟩) HSW.out ?_
      · simp [go_sem]
      refine wpAnyT_take (i := 3) (v := .int .i64 (xf : Int)) rfl (by kernel_rfl) (by kernel_rfl) (by kernel_rfl) (by kernel_rfl) (fun _ _ _ h => h) (.inl ⟨rfl, fun X hX => ?_⟩) HSW.out ?_
      · obtain ⟨z0, z1, z2⟩ := hX
        obtain ⟨y0, y1, y2, -, -, -⟩ := row3 z2
        simp [go_sem, y0]
      refine wpAnyT_take (i := 4) (v := .pointer (some ⟨W.heap.size, 1, none⟩)) rfl (by kernel_rfl) (by kernel_rfl) (by kernel_rfl) (by kernel_rfl) (fun _ _ _ h => h) (.inl ⟨rfl, fun X hX => ?_⟩) HSW.out ?_
      · simp [go_sem]
      refine wpAnyT_take (i := 5) (v := .int .i64 (xt : Int)) rfl (by kernel_rfl) (by kernel_rfl) (by kernel_rfl) (by kernel_rfl) (fun _ _ _ h => h) (.inl ⟨rfl, fun X hX => ?_⟩) HSW.out ?_
      · obtain ⟨z0, z1, z2⟩ := hX
        obtain ⟨y0, y1, y2, -, -, -⟩ := row3 z2
        simp [go_sem, y1]
      refine wpAnyT_take (i := 6) (v := .string (s.extract xf xt)) rfl (by kernel_rfl) (by kernel_rfl) (by kernel_rfl) (by kernel_rfl) (fun _ _ _ h => h) (.inl ⟨rfl, fun X hX => ?_⟩) HSW.out ?_
      · simp [go_sem, hq1, hq2, hq3]
      have hlt0 := blk_lt HSW.out.1
      have hlt1 := blk_lt HSW.out.2.1
      have hlt2 := blk_lt HSW.out.2.2
      refine wpAnyT_one (i := 7) (by kernel_rfl) rfl (fun K' hK' => ?_)
      go_simp
      refine hK' _ _ (fun _ => ⟨alloc_keep HSW.out.1 _, alloc_keep HSW.out.2.1 _, alloc_keep HSW.out.2.2 _⟩) ?_
      clear hK' K'
      refine wpAnyT_one (i := 8) (by kernel_rfl) rfl (fun K' hK' => ?_)
      refine step_append_SLs rfl _ _ _ rfl 9 i0 _ 1 16 Tryz.underlying40 hi hz0 hz1 hz2 rfl (by decide) (.slice A k c) k (txsC ((cutL s Sp).take k)) rfl (SL.alloc HLD.out _) _ 1 _ rfl (SL.lit W'.drew 9 1 1 #[.string (s.extract xf xt)] rfl (by simp [maxLen])) hone (k + 1) _ rfl rfl h63 hby ?_
      intro A2 c2 w2 hs2 hg2 ho2
      have hg2 : (W'.drew.alloc (.cells #[.string (s.extract xf xt)] 9)).grownBy w2 (Value.slice A k c).ownBlock := hg2
      have ho2 : ∀ b, (Value.slice A2 (k + 1) c2).ownBlock = some b → (Value.slice A k c).ownBlock = some b ∨ (W'.drew.alloc (.cells #[.string (s.extract xf xt)] 9)).heap.size ≤ b := ho2
      have hkp : ∀ {b : Nat} {cur : Array Value} {t : TypeId}, W'.drew.heap[b]? = some (.cells cur t (0, 0)) → t ≠ 9 ∨ b < w3.heap.size → w2.heap[b]? = some (.cells cur t (0, 0)) := fun {b cur t} hb0 hor => by
        refine (hg2.block b (by rw [World.size_alloc]; have := blk_lt hb0; omega) (fun h => ?_)).trans (alloc_keep hb0 _)
        rcases hor with h1 | h1
        · obtain ⟨cur', hc'⟩ := SL.typed HLD.out b h.symm
          rw [hb0] at hc'
          cases hc'
          exact h1 rfl
        · have := H3.out b h.symm
          omega
      obtain ⟨g1, g2, g3, g4⟩ := col_step HSW.out.2.1 (by decide) HLD.out _ hg2 hs2 ho2
      have hv0 := hkp HSW.out.1 (.inr (by omega))
      have hv1 := hkp HSW.out.2.1 (.inl (by decide))
      have hv2 := hkp HSW.out.2.2 (.inl (by decide))
      obtain ⟨e2, f2⟩ := box_cell hv1
      have G1 := hid g1
      have G2 := hid g2
      have G3 := hid g3
      have G4 := hid g4
      refine hK' _ _ (fun _ => ⟨hv0, hv1, hv2⟩) ?_
      clear hK' K' hkp hs2 hg2 ho2 g1 g2 g3 g4 hv0 hv1 hv2
      refine wpAnyT_one (i := 9) (by kernel_rfl) rfl (fun K' hK' => ?_)
      go_simp
      refine hK' _ _ (fun h => by cases h) ?_
      clear hK' K'
      refine wpAnyT_done (by kernel_rfl) ?_
      have hob : ∀ D, NC W' D → D ≠ w.heap.size + 1 → ¬ (D = w.heap.size + 1 ∨ (Value.slice A k c).ownBlock = some D) := fun D hD hne h => by
        rcases h with h | h
        · exact hne h
        · obtain ⟨cur, hc⟩ := SL.typed H2.out D h
          exact hD.ne hc rfl
      have hRl : ∀ b, (b = w1.heap.size ∨ (Value.slice A1 Sp.length c1).ownBlock = some b) → b < w3.heap.size := fun b hb => by
        rcases hb with rfl | hb
        · omega
        · exact SL.lt hSp3 b hb
      have hto : Touch (fun b => b = w.heap.size + 1 ∨ (Value.slice A k c).ownBlock = some b) W' (w2.setCell ⟨w.heap.size + 1, 0, none⟩ (.slice A2 (k + 1) c2)) := ⟨G3.out.os, G3.out.tape, G3.out.output, G3.out.size, G3.out.block⟩
      have hsw2 : w.heap.size + 1 < w1.heap.size := by omega
      refine ⟨RK.of_touch hto (by omega) (hob _ hn1 (by omega)) (hob _ hn2 (by omega)), Keep.of_touch hto (fun b hb2 => ⟨by have := hRl b hb2; omega, fun h => ?_⟩), hto.block _ hlt0 (fun h => ?_) |>.trans H0.out, ⟨A2, c2, G1.out, ?_, fun b hb2 => ?_⟩, hto.below H4.out (fun b h => ?_)⟩
      · have h9 := hRl b hb2
        rcases h with h | h
        · rcases hb2 with rfl | hb2
          · omega
          · subst h
            obtain ⟨cur, hc⟩ := SL.typed hSp3 _ hb2
            rw [h1c] at hc
            cases hc
        · have := H3.out b h; omega
      · rcases h with h | h
        · omega
        · have := H3.out _ h; omega
      · have h := G2.out
        have e : txsC ((cutL s Sp).take (k + 1)) = txsC ((cutL s Sp).take k) ++ [.string (s.extract xf xt)] := by
          have hkc : k < (cutL s Sp).length := by unfold cutL; rw [List.length_map]; exact hk
          rw [List.take_add_one, List.getElem?_eq_getElem hkc, txsC_append]
          have hx2 : (cutL s Sp)[k] = s.extract xf xt := by simp only [cutL, List.getElem_map]; rw [HXL.out]
          rw [hx2]
          rfl
        rw [e]
        exact h
      · rcases G4.out b hb2 with h | h
        · exact H3.out b h
        · have h : W'.heap.size < b := h
          omega
      · rcases h with h | h
        · omega
        · have := H3.out b h; omega
    · rfl
  case done =>
    rintro D W hD ⟨h0, ⟨A, c, h1, h2, h3⟩, h4⟩ hK
    have hcl : (cutL s Sp).length = (toksL Sp).length := by unfold cutL; rw [List.length_map]
    have H2 := hid h2
    have H3 := hid h3
    have H4 := hid h4
    have H1 := hid h1
    obtain ⟨e0, f0⟩ := box_cell h1
    clear h0 h1 h2 h3 h4
    gi_wp2
    obtain ⟨X, hX⟩ : ∃ X, W.setCell ⟨w.heap.size + 1, 0, none⟩ (.slice A (toksL Sp).length c) = X := ⟨_, rfl⟩
    have hto := Touch.setCell (F := fun b => b = w.heap.size + 1) (p := ⟨w.heap.size + 1, 0, none⟩) (Touch.refl _ W) (.inl rfl) (.slice A (toksL Sp).length c)
    have hK' : X.heap[D]? = some (Obj.deferred (some [])) := by rw [← hX]; exact set_other hK (by omega) _ _
    have g0 : X.heap[w.heap.size + 1]? = some (.cells #[.slice A (toksL Sp).length c] 40 (0, 0)) := by rw [← hX]; exact box_set H1.out _
    rw [hX] at hto ⊢
    have hs2 : SL X 9 1 (.slice A (toksL Sp).length c) (toksL Sp).length (txsC (cutL s Sp)) := by
      have h2 := H2.out
      rw [← hcl, List.take_length] at h2
      rw [← hcl]
      exact SL.touch h2 hto (fun b hb h => by rw [hcl] at hb; have := H3.out b hb; omega)
    refine ⟨by simp, .inl ⟨_, _, rfl, run_takeDeferred hK', ?_⟩⟩
    refine ⟨_, results_ct (fn := Tryz.f22) rfl _ _ (w.heap.size + 1) _ rfl (load40 (put_other g0 (by omega))), ?_⟩
    rw [hcl]
    exact ⟨fin_below (hto.below H4.out (fun b h => by omega)) (by omega), A, c, rfl, by unfold TtS; rw [hcl]; exact fin_SL hs2 hK' rfl⟩
theorem tokensT_c (s : ByteArray) (hs : s.size ≤ 1048576) (hv : Lib.validD (bys s) = true) (w : World) (hT : Tab w) :
    Calls Tryz.prog 22 #[.string s] w fun e w' => Below w.heap.size w w' ∧ ∃ A c, e = .returned (.tuple #[.slice A (toksF s).length c, .int .i64 0]) ∧ TtS w' (.slice A (toksF s).length c) (toksF s) :=
  tokens_loop s hs w hT 0 (spansF (bys s)) (fun x hx => ⟨Nat.le_of_lt (span_text hv hx).1, (span_text hv hx).2.1⟩) (Nat.le_trans (spansF_len s) hs) fun W hW => (spans_c s hs W (hT.bel hW)).mono fun e w' ⟨h1, h2⟩ => ⟨h1, by
    rcases h2 with ⟨h2, _⟩ | ⟨_, A, c, h3, h4, _⟩
    · rw [hv] at h2; cases h2
    · exact ⟨A, c, h3, h4⟩⟩
theorem tokensE_c (s : ByteArray) (hs : s.size ≤ 1048576) (hv : Lib.validD (bys s) = false) (w : World) (hT : Tab w) :
    Calls Tryz.prog 22 #[.string s] w fun e w' => Below w.heap.size w w' ∧ ∃ A c, e = .returned (.tuple #[.slice A 0 c, .int .i64 3]) :=
  (tokens_loop s hs w hT 3 [] (fun x hx => by simp at hx) (by simp) fun W hW => (spans_c s hs W (hT.bel hW)).mono fun e w' ⟨h1, h2⟩ => ⟨h1, by
    rcases h2 with ⟨_, h2⟩ | ⟨h2, _⟩
    · exact ⟨none, 0, h2, SL.nil _ _ _⟩
    · rw [hv] at h2; cases h2⟩).mono fun e w' ⟨h1, A, c, h2, _⟩ => ⟨h1, A, c, h2⟩
end Go.Proofs.YteigplfldhdakaaGreatDoor
/- A range over a function whose body writes no cells: all blocks of cells stay, wherever they were laid. -/
namespace Go.Proofs.YteigplfldhdakaaGreatDoor
open Go.RowKit Go.Shelf
/-- cells are as they were -/
structure CK (A B : World) : Prop where
  size : A.heap.size ≤ B.heap.size
  block : ∀ (k : Nat) (o : Obj), A.heap[k]? = some o → o.isCells = true → B.heap[k]? = some o
theorem CK.refl (A : World) : CK A A := ⟨Nat.le_refl _, fun _ _ h _ => h⟩
theorem CK.trans {A B C : World} (h : CK A B) (k : CK B C) : CK A C := ⟨Nat.le_trans h.size k.size, fun i o ho hc => k.block i o (h.block i o ho hc) hc⟩
theorem CK.putObj {A : World} {l : Nat} {o o' : Obj} (ho : A.heap[l]? = some o) (hc : o.isCells = false) : CK A (A.putObj l o') :=
  ⟨by simp, fun k q hq h => (World.putObj_heap_other (fun e => by subst e; rw [ho] at hq; cases hq; rw [hc] at h; cases h)).trans hq⟩
theorem CK.alloc (A : World) (o : Obj) : CK A (A.alloc o) := ⟨by simp, fun k q hq _ => alloc_keep hq o⟩
theorem CK.of_touch {F : Nat → Prop} {A B : World} (h : Touch F A B) (hF : ∀ (k : Nat) (o : Obj), A.heap[k]? = some o → o.isCells = true → ¬ F k) : CK A B := ⟨h.size, fun k o ho hc => (h.block k (blk_lt ho) (hF k o ho hc)).trans ho⟩
theorem SL.ck {A B : World} {e : TypeId} {sz n : Nat} {v : Value} {xs : List Value} (hs : SL A e sz v n xs) (h : CK A B) : SL B e sz v n xs := hs.keep fun k hk => by
  obtain ⟨cur, hc⟩ := hs.typed k hk
  rw [hc]
  exact h.block k _ hc rfl
/-- the iterator's contract -/
def SeqC (F : Fence) (n : Nat) (P : Program) (g : Nat) (lb : Array Value) (args : Nat → Array Value) (m : Nat) (G : Nat → Nat → Prop) (w : World) : Prop :=
  ∀ (l : Nat) (J Jx : Nat → World → Prop) (W : World), Below w.heap.size w W →
    (∀ k A B, J k A → Touch (G W.heap.size) A B → J k B) → (∀ k A B, Jx k A → Touch (G W.heap.size) A B → Jx k B) →
    (∀ k W1, k < m → J k W1 → YieldAt F (n - 1) P l (args k) W1 fun e W' =>
      (e = .returned (.bool true) ∧ J (k + 1) W' ∧ CK W1 W') ∨ (e = .returned (.bool false) ∧ Jx (k + 1) W')) →
    J 0 W →
    CallsIn F n P g (#[.func (.yield l) #[] #[]] ++ lb) W fun e W' => (∃ v, e = .returned v) ∧ (J m W' ∨ ∃ k, k < m ∧ Jx (k + 1) W')
/-- how the body of a round may be left -/
def postC (D : Nat) (I : Nat → World → Prop) (Ix : Code → Nat → World → Prop) (k : Nat) (W : World) : Exit → Act → World → Prop
  | .normal, _, W' => RK D W W' ∧ CK W W' ∧ I (k + 1) W'
  | .ret, _, W' => RK D W W' ∧ Ix .ret (k + 1) W'
  | .exit id, _, W' => RK D W W' ∧ Ix (.exit id) (k + 1) W'
  | .goto t, _, W' => RK D W W' ∧ Ix (.goto t) (k + 1) W'
  | .panic _, _, _ => False
  | .outgrown, _, _ => False
variable {F : Fence} {n : Nat} {P : Program}
/-- **The caller's law.** -/
theorem wpIn_rangeC {g : Operand} {ps : Array Tmp} {assign body : Code} {Q : Exit → Act → World → Prop} {a : Act} {w : World}
    (hro : F.round = none) (h1 : 1 ≤ n) {gf : Nat} {lb : Array Value} (hg : a.eval g = .func (.func gf) #[] lb) (hFg : F.fn gf) (eg : ∀ args w, (callFunc gf args).run P w = .ok (.enter gf args) w)
    {args : Nat → Array Value} {m : Nat} {G : Nat → Nat → Prop} {w0 : World} (hseq : SeqC F (n - 1) P gf lb args m G w0) (hb0 : Below w0.heap.size w0 w) (hps : ∀ k, (args k).size = ps.size)
    (hG : ∀ k, G (w.heap.size + 2) k → k ≠ w.heap.size ∧ k ≠ w.heap.size + 1)
    (I : Nat → World → Prop) (Ix : Code → Nat → World → Prop)
    (hI : ∀ k A B, I k A → CS (G (w.heap.size + 2)) w.heap.size A B → I k B) (hIx : ∀ c k A B, Ix c k A → CS (G (w.heap.size + 2)) w.heap.size A B → Ix c k B)
    (h0 : I 0 w)
    (hround : ∀ (l k : Nat) (W : World), k < m → ∃ a' : Act,
      (∀ K : Act → World → Prop, K a' W → assign.wpIn (F.inRound l) (n - 1 - 1) P (Exit.then K (fun _ _ _ => False)) { tmps := (ps.zip (args k)).foldl (fun t (p, v) => t.setIfInBounds p v) a.tmps, defers := [] } W) ∧
      (∀ W' : World, I k W' → w.heap.size + 2 ≤ W'.heap.size → NC W' w.heap.size → NC W' (w.heap.size + 1) →
        body.wpIn (F.inRound l) (n - 1 - 1) P (postC w.heap.size I Ix k W') a' W'))
    (hdone : ∀ (D : Nat) (W : World), D = w.heap.size → I m W → W.heap[D]? = some (.deferred (some [])) → Q .normal { a with defers := { target := .collected D, args := #[] } :: a.defers } W)
    (hstop : ∀ (D : Nat) (c : Code) (k : Nat) (W : World), D = w.heap.size → k < m → Ix c (k + 1) W → W.heap[D]? = some (.deferred (some [])) → c.wpIn F n P Q { a with defers := { target := .collected D, args := #[] } :: a.defers } W) :
    (Code.rangeFunc g ps assign body).wpIn F n P Q a w := by
  refine wpIn_rangeFunc ?_
  intro fn hfn
  rw [hro]
  obtain ⟨rec, hrec⟩ : ∃ rec : LoopState → Option Code → Loop, rec = fun st pe => { state := st, pending := pe, fn, tmps := a.tmps, params := ps, assign, body, defers := w.heap.size } := ⟨_, rfl⟩
  obtain ⟨W1, hW1⟩ : ∃ W1, (w.alloc (.deferred (some []))).alloc (.loop (rec .ready none)) = W1 := ⟨_, rfl⟩
  have hsz1 : W1.heap.size = w.heap.size + 2 := by rw [← hW1]; simp
  have hL1 : W1.heap[w.heap.size + 1]? = some (.loop (rec .ready none)) := by
    rw [← hW1]; have := World.alloc_heap_new (w.alloc (.deferred (some []))) (.loop (rec .ready none)); rwa [World.size_alloc] at this
  have hK1 : W1.heap[w.heap.size]? = some (.deferred (some [])) := by
    rw [← hW1]; exact (Below.heap_alloc _ _ _ (by simp)).trans (World.alloc_heap_new w _)
  have hI1 : I 0 W1 := by rw [← hW1]; exact hI _ _ _ (hI _ _ _ h0 (CS.alloc _ _)) (CS.alloc _ _)
  have hb1 : Below w0.heap.size w0 W1 := by
    rw [← hW1]; exact hb0.trans ((((Below.refl _ w).alloc (Nat.le_refl _) _).alloc (by simp) _).mono hb0.size)
  have tk : ∀ {A B : World} {o : Obj} {k : Nat}, Touch (G W1.heap.size) A B → k = w.heap.size ∨ k = w.heap.size + 1 → A.heap[k]? = some o → B.heap[k]? = some o := fun {A B o k} ht hk ho =>
    (ht.block k (blk_lt ho) (fun hg => by
      rw [hsz1] at hg
      have := hG k hg
      omega)).trans ho
  refine ⟨w.heap.size + 1, [{ target := .collected w.heap.size, args := #[] }], W1, { target := .fn (.func gf) lb, args := #[.func (.yield (w.heap.size + 1)) #[] #[]] }, W1, gf,
    #[.func (.yield (w.heap.size + 1)) #[] #[]] ++ lb, W1, ?_, ?_, ?_, ?_, fun _ => h1, ?_⟩
  · rw [← hW1, hrec]; exact run_enterLoop_outer _ _ _ _ _
  · simp only [resolve, hg]
    simp [go_sem]
  · intro f' hf'; simp [Target.leads] at hf'; subst hf'; exact hFg
  · simp [invoke, go_sem, eg]
  · refine (hseq (w.heap.size + 1)
      (fun k W => I k W ∧ W.heap[w.heap.size + 1]? = some (.loop (rec .ready none)) ∧ W.heap[w.heap.size]? = some (.deferred (some [])) ∧ w.heap.size + 2 ≤ W.heap.size)
      (fun k W => ∃ c, Ix c k W ∧ W.heap[w.heap.size + 1]? = some (.loop (rec .done (some c))) ∧ W.heap[w.heap.size]? = some (.deferred (some [])))
      W1 hb1
      (fun k A B hs ht => ⟨hI _ _ _ hs.1 (CS.of_touch ht (fun j hj => by rw [← hsz1]; exact hj)), tk ht (.inr rfl) hs.2.1, tk ht (.inl rfl) hs.2.2.1, Nat.le_trans hs.2.2.2 ht.size⟩)
      (fun k A B hs ht => by
        obtain ⟨c, hc, hl, hk⟩ := hs
        exact ⟨c, hIx _ _ _ _ hc (CS.of_touch ht (fun j hj => by rw [← hsz1]; exact hj)), tk ht (.inr rfl) hl, tk ht (.inl rfl) hk⟩)
      ?_ ⟨hI1, hL1, hK1, Nat.le_of_eq hsz1.symm⟩).mono ?_
    · rintro k W hkm ⟨hi, hl, hk, hsz⟩
      have hlt : w.heap.size + 1 < W.heap.size := (Array.getElem?_eq_some_iff.1 hl).1
      have hy := run_yield (P := P) (args := args k) hl (by rw [hrec]; exact hps k)
      rw [hrec] at hy
      obtain ⟨a', hassign, hbody⟩ := hround (w.heap.size + 1) k W hkm
      refine ⟨fn, _, assign, body, hy, roundIn_of_wpIn hfn (hassign _ ⟨_, run_beginRound hl (by rw [hrec]), ?_⟩)⟩
      obtain ⟨WB, hWB⟩ : ∃ WB, W.putObj (w.heap.size + 1) (.loop { rec .ready none with state := .busy }) = WB := ⟨_, rfl⟩
      have hl2 : WB.heap[w.heap.size + 1]? = some (.loop { rec .ready none with state := .busy }) := by rw [← hWB]; exact World.putObj_heap_same hlt
      have hk2 : WB.heap[w.heap.size]? = some (.deferred (some [])) := by rw [← hWB]; exact (World.putObj_heap_other (by omega)).trans hk
      have hw2 : CK W WB := by rw [← hWB]; exact CK.putObj hl rfl
      have hi2 : I k WB := by rw [← hWB]; exact hI _ _ _ hi (CS.putObj (by omega) hl rfl)
      have hsz2 : w.heap.size + 2 ≤ WB.heap.size := by rw [← hWB]; simpa using hsz
      have hh := hbody WB hi2 hsz2 ⟨_, hk2, rfl⟩ ⟨_, hl2, rfl⟩
      show Code.wpIn _ _ _ _ _ _ (W.putObj (w.heap.size + 1) (.loop { rec .ready none with state := .busy }))
      rw [hWB]
      refine wpIn_mono hh ?_
      have fin : ∀ (jump : Option Code) (W3 : World), RK w.heap.size WB W3 →
          (Instr.endRound (w.heap.size + 1) jump).run P W3 = .ok (.bool jump.isNone) (W3.putObj (w.heap.size + 1) (.loop (rec (if jump.isNone then .ready else .done) jump))) ∧
          W3.heap[w.heap.size + 1]? = some (.loop { rec .ready none with state := .busy }) ∧
          (W3.putObj (w.heap.size + 1) (.loop (rec (if jump.isNone then .ready else .done) jump))).heap[w.heap.size + 1]? = some (.loop (rec (if jump.isNone then .ready else .done) jump)) ∧
          (W3.putObj (w.heap.size + 1) (.loop (rec (if jump.isNone then .ready else .done) jump))).heap[w.heap.size]? = some (.deferred (some [])) := fun jump W3 hk3 => by
        have hl3 := hk3.2.trans hl2
        have := run_endRound (P := P) jump hl3
        rw [hrec] at this ⊢
        exact ⟨this, by rw [hrec] at hl3; exact hl3, World.putObj_heap_same (Array.getElem?_eq_some_iff.1 hl3).1, (World.putObj_heap_other (by omega)).trans (hk3.1.trans hk2)⟩
      rintro e a3 W3 hp
      cases e with
      | normal =>
        obtain ⟨hk3, hkp3, hi3⟩ := hp
        obtain ⟨hr, hl3, hl4, hk4⟩ := fin none W3 hk3
        refine ⟨_, _, hr, .inl ⟨rfl, ⟨hI _ _ _ hi3 (CS.putObj (by omega) hl3 rfl), hl4, hk4, by simpa using Nat.le_trans hsz2 hkp3.size⟩, (hw2.trans hkp3).trans (CK.putObj hl3 rfl)⟩⟩
      | ret =>
        obtain ⟨hk3, hi3⟩ := hp
        obtain ⟨hr, hl3, hl4, hk4⟩ := fin (some .ret) W3 hk3
        exact ⟨_, _, hr, .inr ⟨rfl, .ret, hIx _ _ _ _ hi3 (CS.putObj (by omega) hl3 rfl), hl4, hk4⟩⟩
      | exit id =>
        obtain ⟨hk3, hi3⟩ := hp
        obtain ⟨hr, hl3, hl4, hk4⟩ := fin (some (.exit id)) W3 hk3
        exact ⟨_, _, hr, .inr ⟨rfl, .exit id, hIx _ _ _ _ hi3 (CS.putObj (by omega) hl3 rfl), hl4, hk4⟩⟩
      | goto t =>
        obtain ⟨hk3, hi3⟩ := hp
        obtain ⟨hr, hl3, hl4, hk4⟩ := fin (some (.goto t)) W3 hk3
        exact ⟨_, _, hr, .inr ⟨rfl, .goto t, hIx _ _ _ _ hi3 (CS.putObj (by omega) hl3 rfl), hl4, hk4⟩⟩
      | panic _ => exact hp.elim
      | outgrown => exact hp.elim
    · rintro e W2 ⟨⟨v, rfl⟩, h⟩
      rcases h with ⟨hi, hl, hk, _⟩ | ⟨k, hkm, c, hi, hl, hk⟩
      · exact ⟨none, _, by have := run_endLoop (P := P) hl (by rw [hrec]; simp); rw [hrec] at this; exact this, hdone _ _ rfl (hI _ _ _ hi (CS.putObj (by omega) hl rfl)) ((World.putObj_heap_other (by omega)).trans hk)⟩
      · exact ⟨some c, _, by have := run_endLoop (P := P) hl (by rw [hrec]; simp); rw [hrec] at this; exact this, hstop _ _ _ _ rfl hkm (hIx _ _ _ _ hi (CS.putObj (by omega) hl rfl)) ((World.putObj_heap_other (by omega)).trans hk)⟩
end Go.Proofs.YteigplfldhdakaaGreatDoor
/- train: the iterator over one document's tokens. -/
namespace Go.Proofs.YteigplfldhdakaaGreatDoor
open Go.RowKit Go.Shelf
attribute [local go_sem] Oper.semAt_some
theorem TtS.at1 {w : World} {A : Option Addr} {c : Nat} {L : List ByteArray} (h : TtS w (.slice A L.length c) L) {k : Nat} (hk : k < L.length) :
    ∃ g off, A = some ⟨g, off, none⟩ ∧ g < w.heap.size ∧ w.cell? ⟨g, off + k, none⟩ = some (.string L[k]) := by
  obtain ⟨g, off, cap, hv, _, _, _, h2⟩ := SL.open_ h (by omega)
  obtain ⟨rfl, -, rfl⟩ := Value.slice.inj hv
  have := SL.cellsK (enc := fun s : ByteArray => [Value.string s]) (k := 1) (fun _ => rfl) (L := L) (w := w) (e := 9) (g := g) (off := off) (cap := c) (by
    have e : L.flatMap (fun s : ByteArray => [Value.string s]) = txsC L := by unfold txsC; rw [List.map_eq_flatMap]
    rw [e]; exact h) k hk 0 (.string L[k]) (by rw [getElem!_pos L k hk]; rfl)
  rw [Nat.mul_one, Nat.add_zero] at this
  exact ⟨g, off, rfl, SL.lt h g rfl, this⟩
theorem TtS.ck {A B : World} {v : Value} {L : List ByteArray} (h : TtS A v L) (k : CK A B) : TtS B v L := SL.ck h k
def wAtArgs (L : List ByteArray) (k : Nat) : Array Value := #[.string (L.getD k ⟨#[]⟩), .int .i64 0]
theorem filt_step {T : List ByteArray} {i : Nat} (hi : i < T.length) : (T.drop i).filter (fun t => decide (Lib.runeCount t ≤ 64)) = if Lib.runeCount T[i] ≤ 64 then T[i] :: (T.drop (i + 1)).filter (fun t => decide (Lib.runeCount t ≤ 64)) else (T.drop (i + 1)).filter (fun t => decide (Lib.runeCount t ≤ 64)) := by
  rw [List.drop_eq_getElem_cons hi, List.filter_cons]
  by_cases h : Lib.runeCount T[i] ≤ 64
  · rw [if_pos h, if_pos (by simpa using h)]
  · rw [if_neg h, if_neg (by simpa using h)]
set_option maxRecDepth 100000 in
set_option maxHeartbeats 4000000 in
theorem words1_in (n : Nat) (hn : 1 ≤ n) (lp Bn : Nat) (s : ByteArray) (hs : s.size ≤ 1048576) (hv : Lib.validD (bys s) = true) (Al : Option Addr) (cl : Nat) (J Jx : Nat → World → Prop)
    (hJ : ∀ k X Y, J k X → Touch (fun _ => False) X Y → J k Y)
    (w0 W : World) (hT : Tab w0) (hW0 : Below w0.heap.size w0 W) (hY : ∀ k W1, k < (wdsF s).length → J k W1 → YieldAt Fence.wide (n - 1) Tryz.prog lp (wAtArgs (wdsF s) k) W1 fun e W' =>
      (e = .returned (.bool true) ∧ J (k + 1) W' ∧ CK W1 W') ∨ (e = .returned (.bool false) ∧ Jx (k + 1) W'))
    (hBn : w0.heap[Bn]? = some (.cells #[.slice Al 1 cl] 40 (0, 0))) (hS : TtS w0 (.slice Al 1 cl) [s]) (h0 : J 0 W) :
    CallsIn Fence.wide n Tryz.prog 101 #[.func (.yield lp) #[] #[], .pointer (some ⟨Bn, 0, none⟩)] W fun e W' => (∃ v, e = .returned v) ∧ (J (wdsF s).length W' ∨ ∃ k, k < (wdsF s).length ∧ Jx (k + 1) W') := by
  have hB := hW0.block Bn (blk_lt hBn)
  have hS2 := hS.below hW0
  rw [hBn] at hB
  obtain ⟨gA, oA, rfl, hgA, cA⟩ := TtS.at1 hS2 (k := 0) (by simp)
  have cA : W.cell? ⟨gA, oA, none⟩ = some (.string s) := cA
  have hTo := tokensT_c s hs hv W (hT.bel hW0)
  obtain ⟨T, hTT⟩ : ∃ T, toksF s = T := ⟨_, rfl⟩
  obtain ⟨R, hR⟩ : ∃ R, wdsF s = R := ⟨_, rfl⟩
  have hRT : R = T.filter (fun t => decide (Lib.runeCount t ≤ 64)) := by rw [← hR, ← hTT]; rfl
  have hTl : T.length ≤ 1048576 := by rw [← hTT]; exact Nat.le_trans (toksF_len s) hs
  have hTs : ∀ t ∈ T, t.size ≤ 1048576 := fun t ht => by
    rw [← hTT] at ht
    obtain ⟨x, hx, rfl⟩ := List.mem_map.1 ht
    obtain ⟨h1, h2, h3, h4⟩ := span_text hv (List.mem_filter.1 hx).1
    omega
  rw [hTT] at hTo
  rw [hR] at hY ⊢
  have HTO := hid hTo
  have HY := hid hY
  have HRT := hid hRT
  have HTS := hid hTs
  obtain ⟨b0, -⟩ := box_cell hB
  have hJT : ∀ k X Y, J k X → Below X.heap.size X Y → J k Y := fun k X Y h hb => hJ k X Y h (Touch.of_below hb (Nat.le_refl _))
  have HJT := hid hJT
  have HJ0 := hid h0
  clear hBn hS hW0 hB hS2 hY hR hTT hRT hTo hTs hJT hT h0
  refine callsIn_of_wp Tryz.func101 rfl trivial ?_ rfl
  simp only [Tryz.ntmps101, List.size_toArray, List.length_cons, List.length_nil, Nat.reduceAdd, Nat.reduceSub, Array.replicate_succ, Array.replicate_zero, List.push_toArray, List.append_toArray, List.nil_append, List.cons_append]
  gi_wp2
  refine wpIn_scope_straight ?_
  gi_wp2
  refine wpIn_label ?_
  gi_wp2
  gi_loopw [11] (fun iv wr => (iv = .int .i64 0 ∧ Hid (wr = W)) ∨ (iv = .int .i64 1 ∧ J R.length wr)) (fun iv _ => 1 - (intOf iv).toNat)
  case atStart => exact .inl ⟨rfl, hid rfl⟩
  case round =>
    rcases hrel with ⟨rfl, HW⟩ | ⟨rfl, hJe⟩
    · have hw : wr = W := HW.out
      subst hw
      gi_wp2_with (refine ⟨trivial, ?_⟩; gi_at_call 22; refine (callsIn_wide.2 HTO.out).mono ?_; rintro e w1 ⟨hb1, A1, c1, rfl, h1⟩; have HB1 := hid hb1; have H1 := hid h1; clear hb1 h1)
      have hJ1 := HJT.out 0 _ _ HJ0.out HB1.out
      gi_loopw [27] (fun jv wr => ∃ (j t : Nat), j ≤ T.length ∧ jv = .int .i64 (j : Int) ∧ t ≤ R.length ∧ Hid (R.drop t = (T.drop j).filter (fun t => decide (Lib.runeCount t ≤ 64))) ∧ J t wr ∧ Hid (TtS wr (.slice A1 T.length c1) T)) (fun jv _ => T.length - (intOf jv).toNat)
      case atStart => exact ⟨0, 0, Nat.zero_le _, rfl, Nat.zero_le _, hid (by rw [HRT.out]; rfl), hJ1, H1⟩
      case round =>
        obtain ⟨j, t, hj, rfl, htr, HD, hJt, HTt⟩ := hrel
        by_cases hjl : j < T.length
        · have hjl2 : (j : Int) < (T.length : Int) := by omega
          obtain ⟨g, off, rfl, hgl, k0⟩ := TtS.at1 HTt.out hjl
          have hst := filt_step hjl
          have hsz := HTS.out _ (List.getElem_mem hjl)
          obtain ⟨x, hx⟩ : ∃ x, T[j] = x := ⟨_, rfl⟩
          rw [hx] at k0 hst hsz
          have HRC := hid (rcnt_c x hsz)
          have hJb := fun w2 (hb : Below wr.heap.size wr w2) => HJT.out t _ _ hJt hb
          have HJb := hid hJb
          clear hJb hx hsz
          by_cases hr : Lib.runeCount x ≤ 64
          · have hri : ((Lib.runeCount x : Nat) : Int) ≤ 64 := by omega
            rw [if_pos hr] at hst
            have hD := HD.out
            rw [hst] at hD
            have htl : t < R.length := by
              rcases Nat.lt_or_ge t R.length with h | h
              · exact h
              · rw [List.drop_of_length_le h] at hD; cases hD
            rw [List.drop_eq_getElem_cons htl] at hD
            have hgt : R.getD t ⟨#[]⟩ = x := by simp [List.getD_eq_getElem?_getD, htl, (List.cons.inj hD).1]
            have HD2 := hid (List.cons.inj hD).2
            have hy0 := HY.out t
            rw [wAtArgs, hgt] at hy0
            have HY0 := hid hy0
            clear hD hgt hy0 hst hr
            gi_wp2_with (refine ⟨trivial, ?_⟩; gi_at_call 23; refine (callsIn_wide.2 (HRC.out _)).mono ?_; rintro e w2 ⟨rfl, hb2⟩; have HB2 := hid hb2; obtain ⟨fn, tmps, assign, body, hy, hR⟩ := HY0.out w2 htl (HJb.out _ hb2); clear hb2)
            refine hR.mono ?_
            rintro e W3 (⟨rfl, hJ3, hk3⟩ | ⟨rfl, hJx3⟩)
            · have HS3 : Hid (TtS W3 (.slice (some ⟨g, off, none⟩) T.length c1) T) := hid (TtS.ck (HTt.out.below HB2.out) hk3)
              clear hy hR hk3
              gi_wp2
              exact ⟨⟨j + 1, t + 1, by omega, by simp, by omega, HD2, hJ3, HS3⟩, by simp [intOf]; omega⟩
            · clear hy hR
              gi_wp2
              simp only [Exit.noGoto]
              go_end0
              exact ⟨⟨_, rfl⟩, .inr ⟨t, htl, hJx3⟩⟩
          · have hri : ¬ ((Lib.runeCount x : Nat) : Int) ≤ 64 := by omega
            rw [if_neg hr] at hst
            have HD2 : Hid (R.drop t = (T.drop (j + 1)).filter (fun t => decide (Lib.runeCount t ≤ 64))) := hid (by rw [HD.out, hst])
            clear hst hr
            gi_wp2
            refine ⟨trivial, ?_⟩
            gi_at_call 23
            refine (callsIn_wide.2 (HRC.out _)).mono ?_
            rintro e w2 ⟨rfl, hb2⟩
            have HB2 := hid hb2; have hJ2 := HJb.out _ hb2; clear hb2
            gi_wp2
            refine ⟨fun f hf => (by cases hf), ?_⟩
            gi_wp2
            exact ⟨⟨j + 1, t, by omega, by simp, htr, HD2, hJ2, hid (HTt.out.below HB2.out)⟩, by simp [intOf]; omega⟩
        · obtain rfl : j = T.length := by omega
          have hjl2 : ¬ (T.length : Int) < (T.length : Int) := by omega
          have ht : t = R.length := by
            have h1 := HD.out
            rw [List.drop_length] at h1
            have h2 : R.length ≤ t := List.drop_eq_nil_iff.1 h1
            omega
          subst ht
          gi_wp2
          exact ⟨.inr ⟨by simp, hJt⟩, by simp [intOf]⟩
    · gi_wp2
      simp only [Exit.noGoto]
      go_end0
      exact ⟨⟨_, rfl⟩, .inl hJe⟩
set_option maxRecDepth 100000 in
set_option maxHeartbeats 4000000 in
theorem wordsE_in (n : Nat) (hn : 1 ≤ n) (lp Bn : Nat) (s : ByteArray) (hs : s.size ≤ 1048576) (hv : Lib.validD (bys s) = false) (Al : Option Addr) (cl : Nat) (J Jx : Nat → World → Prop)
    (hJ : ∀ k X Y, J k X → Touch (fun _ => False) X Y → J k Y)
    (w0 W : World) (hT : Tab w0) (hW0 : Below w0.heap.size w0 W) (hY : ∀ k W1, k < 1 → J k W1 → YieldAt Fence.wide (n - 1) Tryz.prog lp #[.string ⟨#[]⟩, .int .i64 3] W1 fun e W' =>
      (e = .returned (.bool true) ∧ J (k + 1) W' ∧ CK W1 W') ∨ (e = .returned (.bool false) ∧ Jx (k + 1) W'))
    (hBn : w0.heap[Bn]? = some (.cells #[.slice Al 1 cl] 40 (0, 0))) (hS : TtS w0 (.slice Al 1 cl) [s]) (h0 : J 0 W) :
    CallsIn Fence.wide n Tryz.prog 101 #[.func (.yield lp) #[] #[], .pointer (some ⟨Bn, 0, none⟩)] W fun e W' => (∃ v, e = .returned v) ∧ (J 1 W' ∨ ∃ k, k < 1 ∧ Jx (k + 1) W') := by
  have hB := hW0.block Bn (blk_lt hBn)
  have hS2 := hS.below hW0
  rw [hBn] at hB
  obtain ⟨gA, oA, rfl, hgA, cA⟩ := TtS.at1 hS2 (k := 0) (by simp)
  have cA : W.cell? ⟨gA, oA, none⟩ = some (.string s) := cA
  have HTO := hid (tokensE_c s hs hv W (hT.bel hW0))
  have HY := hid hY
  obtain ⟨b0, -⟩ := box_cell hB
  have hJT : ∀ k X Y, J k X → Below X.heap.size X Y → J k Y := fun k X Y h hb => hJ k X Y h (Touch.of_below hb (Nat.le_refl _))
  have HJT := hid hJT
  have HJ0 := hid h0
  clear hBn hS hW0 hB hS2 hY hJT hT h0
  refine callsIn_of_wp Tryz.func101 rfl trivial ?_ rfl
  simp only [Tryz.ntmps101, List.size_toArray, List.length_cons, List.length_nil, Nat.reduceAdd, Nat.reduceSub, Array.replicate_succ, Array.replicate_zero, List.push_toArray, List.append_toArray, List.nil_append, List.cons_append]
  gi_wp2
  refine wpIn_scope_straight ?_
  gi_wp2
  refine wpIn_label ?_
  gi_wp2
  gi_loopw [11] (fun iv wr => iv = .int .i64 0 ∧ Hid (wr = W)) (fun iv _ => 1 - (intOf iv).toNat)
  case atStart => exact ⟨rfl, hid rfl⟩
  case round =>
    obtain ⟨rfl, HW⟩ := hrel
    have hw : wr = W := HW.out
    subst hw
    gi_wp2_with (refine ⟨trivial, ?_⟩; gi_at_call 22; refine (callsIn_wide.2 HTO.out).mono ?_; rintro e w1 ⟨hb1, A1, c1, rfl⟩; have HB1 := hid hb1; obtain ⟨fn, tmps, assign, body, hy, hR⟩ := HY.out 0 w1 (by omega) (HJT.out 0 _ _ HJ0.out hb1); clear hb1)
    refine hR.mono ?_
    rintro e W3 (⟨rfl, hJ3, hk3⟩ | ⟨rfl, hJx3⟩)
    · clear hy hR hk3
      gi_wp2
      simp only [Exit.noGoto]
      go_end0
      exact ⟨⟨_, rfl⟩, .inl hJ3⟩
    · clear hy hR
      gi_wp2
      simp only [Exit.noGoto]
      go_end0
      exact ⟨⟨_, rfl⟩, .inr ⟨0, by omega, hJx3⟩⟩
end Go.Proofs.YteigplfldhdakaaGreatDoor
