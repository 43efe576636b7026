/- A map's entries in turn. -/
import Derived.Test.YteigplfldhdakaaGreatDoorM03
import Derived.AtR
import Derived.RangeFuncIn
import Derived.Below
namespace Go.Proofs.YteigplfldhdakaaGreatDoor.Ev
set_option linter.unusedVariables false
set_option linter.unusedSimpArgs false
open Go Go.RowKit
section
variable {P : Program} {γ : Pl} {s : AS} {w : World}
def rangeA (P : Program) (s : AS) (t : Nat) (x : AV) : Option (AV × AS) :=
  match x, mapTy P t with
  | .sc (.mp b), some _ => match fnd s.H b with
    | some (.map es) => some (.sc (.pt s.nx 0), ⟨(s.nx, .mit b es.length [] es.length) :: s.H, s.nx + 1⟩)
    | _ => none
  | _, _ => none
theorem range_ok {t : Nat} {x : AV} {u : Value} {r : AV × AS} (h : HR γ s w) (hx : RA γ x u) (hr : rangeA P s t x = some r) : ∃ u' w', (Instr.range t u).run P w = .ok u' w' ∧ Done γ s w r.1 r.2 u' w' := by
  unfold rangeA at hr
  split at hr
  · rename_i b ke hmt
    have hu := mapTy_some (k := ke.1) (e := ke.2) hmt
    split at hr
    · rename_i es hf
      cases hr
      obtain ⟨B, d, S, hb, rfl⟩ := hx
      obtain ⟨B', d', S', cs, h1, h2, h3⟩ := h.obj _ _ (fnd_mem hf)
      rw [hb] at h1
      cases h1
      have hsub := ext_sub (x := (w.heap.size, 0, 0)) (h.nxt _ (Nat.le_refl _))
      obtain ⟨k1, k2⟩ := HR.new (p := .mapIter (some B) es.length #[] es.length) (o := .mit b es.length [] es.length) (S := 0) h
        ⟨w.heap.size, 0, 0, B, d, S, ext_at _ _ _, hsub _ _ hb, rfl, by show (w.heap.push _)[w.heap.size]? = _; simp⟩
      refine ⟨_, _, ?_, _, k1, k2, w.heap.size, 0, 0, ext_at _ _ _, rfl⟩
      simp [Instr.range, run_underlying hu, MapKept.run_getObj_map h2, Result.andThen]
    · cases hr
  · cases hr
def leftA (n : Nat) (seen : List Nat) : List Nat := (List.range n).filter fun i => !seen.contains i
def keyE (k : Bool × List FV) : Bool × List SV := (k.1, k.2.map .f)
theorem all_f {γ : Pl} : ∀ (xs : List FV), All2 (RS γ) (xs.map .f) (xs.map FV.val)
  | [] => trivial
  | x :: xs => ⟨rfl, all_f xs⟩
def keyFit : Bool × List FV → Bool
  | (true, _) => true
  | (false, [_]) => true
  | _ => false
theorem keyE_rel {γ : Pl} {k : Bool × List FV} (hk : keyFit k = true) : RE γ (keyE k) (keyVal k) := by
  obtain ⟨b, xs⟩ := k
  cases b
  · cases xs with
    | nil => cases hk
    | cons x r => cases r with
      | nil => exact ⟨_, rfl, rfl⟩
      | cons y r => cases hk
  · exact ⟨xs.map FV.val, rfl, all_f xs⟩
def nextA (s : AS) (x : AV) : Option (List (AV × AS)) :=
  match x with
  | .sc (.pt b 0) => match fnd s.H b with
    | some (.mit m since seen stepped) => match fnd s.H m with
      | some (.map es) =>
        if since = es.length ∧ stepped = es.length then
          match leftA es.length seen with
          | [] => some [(.tu [(false, [.f (.bool false)])], s)]
          | ls => some (ls.filterMap fun i => match es[i]? with
            | some e => if keyFit e.1 then some (.tu [(false, [.f (.bool true)]), keyE e.1, e.2], ⟨(b, .mit m since (seen ++ [i]) stepped) :: ers s.H b, s.nx⟩) else none
            | none => none)
        else none
      | _ => none
    | _ => none
  | _ => none
def keysFit (s : AS) (x : AV) : Bool :=
  match x with
  | .sc (.pt b 0) => match fnd s.H b with
    | some (.mit m since seen stepped) => match fnd s.H m with
      | some (.map es) => es.all fun e => keyFit e.1
      | _ => true
    | _ => true
  | _ => true
theorem entsR_all {γ : Pl} : ∀ {n : Nat} {es : List Ent} {cs : List MapEntry}, entsR γ n es cs → ∀ c ∈ cs, ∃ i e, es[i]? = some e ∧ c.key = keyVal e.1 ∧ RE γ e.2 c.val ∧ c.born = n + i
  | _, [], [], _, c, hc => by cases hc
  | n, e :: es, c :: cs, h, c', hc => by
    rcases List.mem_cons.1 hc with rfl | h1
    · exact ⟨0, e, rfl, h.1.1, h.1.2.1, h.1.2.2⟩
    · obtain ⟨i, e', k1, k2, k3, k4⟩ := entsR_all h.2 c' h1
      exact ⟨i + 1, e', by simpa using k1, k2, k3, by omega⟩
  | _, [], _ :: _, h, _, _ => h.elim
  | _, _ :: _, [], h, _, _ => h.elim
theorem next_ok {ty : Nat} {x : AV} {u : Value} {outs : List (AV × AS)} (h : HR γ s w) (hx : RA γ x u) (hkf : keysFit s x = true) (hr : nextA s x = some outs) :
    ∃ v s' u' w', (v, s') ∈ outs ∧ (Instr.next u false ty).run P w = .ok u' w' ∧ Done γ s w v s' u' w' := by
  unfold nextA at hr
  unfold keysFit at hkf
  split at hr
  · rename_i b
    simp only at hkf
    split at hr
    · rename_i m since seen stepped hf
      rw [hf] at hkf
      simp only at hkf
      split at hr
      · rename_i es hfm
        rw [hfm] at hkf
        simp only at hkf
        split at hr
        · rename_i hc
          obtain ⟨rfl, rfl⟩ := hc
          obtain ⟨B, d, S, hb, rfl⟩ := hx
          obtain ⟨B', d', S', M, md, MS, g1, g2, g3, g4⟩ := h.obj _ _ (fnd_mem hf)
          rw [hb] at g1
          cases g1
          subst g3
          obtain ⟨M', md', MS', cs, k1, k2, k3⟩ := h.obj _ _ (fnd_mem hfm)
          rw [g2] at k1
          cases k1
          have hlen := entsR_len k3
          have hcsz : cs.size = es.length := by
            have : cs.toList.length = cs.size := Array.length_toList
            omega
          have hBl : B < w.heap.size := (Array.getElem?_eq_some_iff.1 g4).1
          -- nothing is new
          have hall := entsR_all k3
          have hborn : ∀ c ∈ cs.toList, c.born < es.length := fun c hc => by
            obtain ⟨i, e, q1, _, _, q4⟩ := hall c hc
            have := (List.getElem?_eq_some_iff.1 q1).1
            omega
          have hno : (!seen.toArray.isEmpty && !cs.isEmpty && cs.all (fun e => decide (e.born ≥ es.length))) = false := by
            cases hal : cs.all (fun e => decide (e.born ≥ es.length)) with
            | false => simp
            | true =>
              cases hce : cs.isEmpty with
              | true => simp
              | false =>
                exfalso
                have hpos : 0 < cs.size := by
                  rcases Nat.eq_zero_or_pos cs.size with h0 | h0
                  · rw [Array.isEmpty_iff_size_eq_zero.2 h0] at hce; cases hce
                  · exact h0
                have h1 := of_decide_eq_true (Array.all_eq_true.1 hal 0 hpos)
                have h2 := hborn cs[0] (by simp)
                omega
          obtain ⟨L, hL⟩ : ∃ L, cs.filter (fun e => !seen.toArray.contains e.born) = L := ⟨_, rfl⟩
          have hLm : ∀ c ∈ L, ∃ i e, es[i]? = some e ∧ c.key = keyVal e.1 ∧ RE γ e.2 c.val ∧ c.born = i ∧ i ∈ leftA es.length seen := fun c hc => by
            rw [← hL, Array.mem_filter] at hc
            obtain ⟨i, e, q1, q2, q3, q4⟩ := hall c (by simpa using hc.1)
            have hi := (List.getElem?_eq_some_iff.1 q1).1
            refine ⟨i, e, q1, q2, q3, by omega, ?_⟩
            unfold leftA
            rw [List.mem_filter]
            refine ⟨by simpa using hi, ?_⟩
            have h5 := hc.2
            rw [q4] at h5
            simpa using h5
          have hLe : ∀ i ∈ leftA es.length seen, ∃ c, c ∈ L := fun i hi => by
            unfold leftA at hi
            rw [List.mem_filter] at hi
            have hil : i < es.length := by simpa using hi.1
            obtain ⟨c, q1, q2, q3, q4⟩ := entsR_get k3 (List.getElem?_eq_getElem hil)
            refine ⟨c, ?_⟩
            rw [← hL, Array.mem_filter]
            refine ⟨by have := List.mem_of_getElem? q1; simpa using this, ?_⟩
            rw [q4]
            simpa using hi.2
          have hold : L.filter (fun e => decide (e.born < es.length)) = L := by
            rw [Array.filter_eq_self]
            intro c hc
            obtain ⟨i, e, q1, q2, q3, q4, q5⟩ := hLm c hc
            have hi := (List.getElem?_eq_some_iff.1 q1).1
            exact decide_eq_true (by omega)
          have hnew : L.filter (fun e => decide (e.born ≥ es.length)) = #[] := by
            rw [Array.filter_eq_empty_iff]
            intro c hc
            obtain ⟨i, e, q1, q2, q3, q4, q5⟩ := hLm c hc
            have hi := (List.getElem?_eq_some_iff.1 q1).1
            simp
            omega
          have e1 : (getObj B).run P w = .ok (.mapIter (some M) es.length seen.toArray es.length) w := by simp [getObj, Sem.run, g4]
          have e2 : (getObj M).run P w = .ok (.map cs es.length) w := MapKept.run_getObj_map k2
          have hrun : ∃ k w1, k < ((if L.isEmpty then #[none] else #[]) ++ L.map some).size ∧ (w1 = w ∨ w1 = w.drew) ∧ (Instr.next (.pointer (some ⟨B, 0, none⟩)) false ty).run P w = (match ((if L.isEmpty then #[none] else #[]) ++ L.map some)[k]? with
              | some (some e) => .ok (.tuple #[.bool true, e.key, e.val]) (w1.putObj B (.mapIter (some M) es.length (seen.toArray.push e.born) es.length))
              | some none => .ok (.tuple #[.bool false]) w1
              | none => .halt (.stuck "Next: no such candidate") w1) := by
            simp only [Instr.next, Sem.run_bind, e1, Result.andThen_ok, e2]
            rw [hL, hold, hnew, Array.append_empty]
            simp only [hno, Bool.false_eq_true, if_false]
            have hpos : 0 < ((if L.isEmpty then #[none] else #[]) ++ L.map some).size := by
              cases hLi : L.isEmpty with
              | true =>
                show 0 < ((#[none] : Array (Option MapEntry)) ++ L.map some).size
                rw [Array.size_append]
                show 0 < 1 + _
                omega
              | false =>
                rcases Nat.eq_zero_or_pos L.size with h0 | h0
                · rw [Array.isEmpty_iff_size_eq_zero.2 h0] at hLi; cases hLi
                · simp; exact h0
            generalize ((if L.isEmpty then #[none] else #[]) ++ L.map some) = cd at hpos ⊢
            obtain ⟨k, w1, hk, hw1, hch⟩ : ∃ k w1, k < cd.size ∧ (w1 = w ∨ w1 = w.drew) ∧ (choose (.mapNext cd.size)).run P w = .ok k w1 := by
              by_cases hf1 : cd.size ≤ 1
              · exact ⟨0, w, hpos, .inl rfl, by simp [choose, Sem.run, Question.forced, hf1]⟩
              · exact ⟨w.tape w.drawn (.mapNext cd.size) % cd.size, w.drew, Nat.mod_lt _ hpos, .inr rfl, by simp [choose, Sem.run, Question.forced, hf1, Question.cut]⟩
            refine ⟨k, w1, hk, hw1, ?_⟩
            have hw1B : w1.heap[B]? = some (.mapIter (some M) es.length seen.toArray es.length) := by rcases hw1 with rfl | rfl <;> exact g4
            simp only [Sem.run_bind, hch, Result.andThen_ok]
            generalize cd[k]? = q
            rcases q with _ | _ | e
            · rfl
            · rfl
            · simp [setObj, Sem.run, hw1B, World.putObj]
          obtain ⟨k, w1, hk, hw1, hrn⟩ := hrun
          rw [hrn]
          have hh1 : HR γ s w1 := by rcases hw1 with rfl | rfl; exact h; exact h.drew
          have hfr : ∀ {γ' s' w'}, Fr γ s w1 γ' s' w' → Fr γ s w γ' s' w' := by rcases hw1 with rfl | rfl; exact fun h => h; exact fun h => Fr.of_drew h
          cases hLi : L.isEmpty with
          | true =>
            have hL0 : L = #[] := Array.isEmpty_iff.1 hLi
            subst hL0
            have hk0 : k = 0 := by rw [hLi] at hk; simpa using hk
            subst hk0
            have hle : leftA es.length seen = [] := by
              cases hq : leftA es.length seen with
              | nil => rfl
              | cons i r => obtain ⟨c, hc⟩ := hLe i (by rw [hq]; exact List.mem_cons_self ..); simp at hc
            rw [hle] at hr
            cases hr
            exact ⟨_, _, .tuple #[.bool false], w1, List.mem_cons_self .., by simp, ⟨γ, hh1, hfr (Fr.refl _ _ _), [.bool false], rfl, ⟨_, rfl, rfl⟩, trivial⟩⟩
          | false =>
            rw [hLi] at hk
            simp only [Bool.false_eq_true, if_false, Array.empty_append, Array.size_map] at hk
            have hget : (L.map some)[k]? = some (some L[k]) := by simp [hk]
            simp only [Bool.false_eq_true, if_false, Array.empty_append, hget]
            obtain ⟨i, e, q1, q2, q3, q4, q5⟩ := hLm L[k] (by simp)
            have hfe := List.all_eq_true.1 hkf e (List.mem_of_getElem? q1)
            rw [q4]
            obtain ⟨c1, c2⟩ := HR.upd (o' := .mit m es.length (seen ++ [i]) es.length) (w' := w1.putObj B (.mapIter (some M) es.length (seen.toArray.push i) es.length)) hh1 (fnd_mem hf) hb (Sub.refl _) hb (.inl rfl) (by simp [World.putObj]) (fun k hk => World.putObj_heap_other hk)
              ⟨B, _, S, M, _, _, hb, g2, rfl, by rw [World.putObj_heap_same (by rcases hw1 with rfl | rfl <;> exact hBl)]; simp⟩ h.nxt ⟨rfl, rfl, rfl⟩ (fun _ _ h => .inl h) (Nat.le_refl _)
            refine ⟨.tu [(false, [.f (.bool true)]), keyE e.1, e.2], _, _, _, ?_, rfl, ⟨γ, c1, hfr c2, [.bool true, L[k].key, L[k].val], rfl, ⟨_, rfl, rfl⟩, by rw [q2]; exact keyE_rel hfe, q3, trivial⟩⟩
            revert hr
            cases hq : leftA es.length seen with
            | nil => rw [hq] at q5; cases q5
            | cons a r =>
              intro hr
              cases hr
              rw [hq] at q5
              rw [List.mem_filterMap]
              exact ⟨i, q5, by simp [q1, hfe]⟩
        · cases hr
      · cases hr
    · cases hr
  · cases hr
def entryA (s : AS) (x : AV) : Option AV :=
  match x with
  | .sc (.pt b 0) => match fnd s.H b with
    | some (.mit m since seen stepped) => match fnd s.H m with
      | some (.map es) =>
        if stepped = es.length then
          match seen.getLast? with
          | some i => match es[i]? with
            | some e => if keyFit e.1 then some (.tu [keyE e.1, e.2]) else none
            | none => none
          | none => none
        else none
      | _ => none
    | _ => none
  | _ => none
theorem entry_ok {x r : AV} {u : Value} (h : HR γ s w) (hx : RA γ x u) (hr : entryA s x = some r) : ∃ u', (Instr.entry u).run P w = .ok u' w ∧ RA γ r u' := by
  unfold entryA at hr
  split at hr
  · rename_i b
    split at hr
    · rename_i m since seen stepped hf
      split at hr
      · rename_i es hfm
        split at hr
        · rename_i hc
          subst hc
          split at hr
          · rename_i i hi
            split at hr
            · rename_i e he
              split at hr
              · rename_i hk
                cases hr
                obtain ⟨B, d, S, hb, rfl⟩ := hx
                obtain ⟨B', d', S', M, md, MS, g1, g2, g3, g4⟩ := h.obj _ _ (fnd_mem hf)
                rw [hb] at g1
                cases g1
                subst g3
                obtain ⟨M', md', MS', cs, k1, k2, k3⟩ := h.obj _ _ (fnd_mem hfm)
                rw [g2] at k1
                cases k1
                obtain ⟨c, q1, q2, q3, q4⟩ := entsR_get k3 he
                have hall := entsR_all k3
                have e1 : (getObj B).run P w = .ok (.mapIter (some M) since seen.toArray es.length) w := by simp [getObj, Sem.run, g4]
                have e2 : (getObj M).run P w = .ok (.map cs es.length) w := MapKept.run_getObj_map k2
                have e3 : seen.toArray.back? = some i := by rw [List.back?_toArray]; exact hi
                have e4 : cs.find? (fun e => e.born == i) = some c := by
                  rw [← Array.find?_toList]
                  have hborn : ∀ (j : Nat) (c' : MapEntry), cs.toList[j]? = some c' → c'.born = j := fun j c' hj => by
                    have hjl := (List.getElem?_eq_some_iff.1 hj).1
                    rw [entsR_len k3] at hjl
                    obtain ⟨c2, p1, _, _, p4⟩ := entsR_get k3 (List.getElem?_eq_getElem hjl)
                    rw [hj] at p1
                    cases p1
                    omega
                  rw [List.find?_eq_some_iff_getElem]
                  obtain ⟨hl, hce⟩ := List.getElem?_eq_some_iff.1 q1
                  refine ⟨by simp; omega, i, hl, hce, fun j hj => ?_⟩
                  have := hborn j _ (List.getElem?_eq_getElem (by omega))
                  rw [this]
                  simp
                  omega
                refine ⟨.tuple #[c.key, c.val], ?_, [c.key, c.val], rfl, by rw [q2]; exact keyE_rel hk, q3, trivial⟩
                simp [Instr.entry, e1, e2, hi, e4]
              · cases hr
            · cases hr
          · cases hr
        · cases hr
      · cases hr
    · cases hr
  · cases hr
end
end Go.Proofs.YteigplfldhdakaaGreatDoor.Ev
/- Any operation but a call of a function. -/
namespace Go.Proofs.YteigplfldhdakaaGreatDoor.Ev
set_option linter.unusedVariables false
set_option linter.unusedSimpArgs false
open Go Go.RowKit
def partsA (ρ : Operand → Option AV) : List (Nat × Operand) → Option (List (Nat × AV))
  | [] => some []
  | (i, x) :: r => match ρ x, partsA ρ r with
    | some v, some vs => some ((i, v) :: vs)
    | _, _ => none
def capsA (ρ : Operand → Option AV) : List Operand → Option (List Nat)
  | [] => some []
  | x :: r => match ρ x, capsA ρ r with
    | some (.sc (.pt b 0)), some bs => some (b :: bs)
    | _, _ => none
def fvsA (ρ : Operand → Option AV) : List Operand → Option (List Value)
  | [] => some []
  | x :: r => match (ρ x).bind AV.fv, fvsA ρ r with
    | some v, some vs => some (v :: vs)
    | _, _ => none
def isAMap (P : Program) (t : Nat) : Bool := match P.underlying t with | some (.map _ _) => true | _ => false
def lenA (P : Program) (s : AS) (t : Nat) (a : AV) : Option AV :=
  match a with
  | .sc (.sl _ _ n _ _) => if isSl P t then some (.sc (.f (.int .i64 n))) else none
  | .sc (.se _ _) => if isSl P t then some (.sc (.f (.int .i64 0))) else none
  | .sc (.f (.str l)) => match P.underlying t with | some .string => some (.sc (.f (.int .i64 l.length))) | _ => none
  | .sc (.f .nils) => if isSl P t then some (.sc (.f (.int .i64 0))) else none
  | .sc (.mp b) => match fnd s.H b with
    | some (.map es) => if isAMap P t then some (.sc (.f (.int .i64 es.length))) else none
    | _ => none
  | _ => none
def bltA (P : Program) (ρ : Operand → Option AV) (s : AS) (b : Builtin) (ty : Nat) (args : List Operand) (ats : List Nat) : Option (AV × AS) :=
  match b, args, ats with
  | .append, [a, x], [t, tx] => match ρ a, ρ x with
    | some a, some x => appA P s t tx a x
    | _, _ => none
  | .len, [x], [t] => match ρ x with
    | some a => (lenA P s t a).map fun v => (v, s)
    | none => none
  | .min, xs, ts => match fvsA ρ xs with
    | some vs => ((flatS P (Builtin.min_ ts.toArray ty vs.toArray)).bind absV).map fun v => (v, s)
    | none => none
  | .max, xs, ts => match fvsA ρ xs with
    | some vs => ((flatS P (Builtin.max_ ts.toArray ty vs.toArray)).bind absV).map fun v => (v, s)
    | none => none
  | _, _, _ => none
def q1 (s : AS) (v : Option AV) : Option (List (AV × AS)) := v.map fun v => [(v, s)]
def w1 (r : Option (AV × AS)) : Option (List (AV × AS)) := r.map fun r => [r]
def u1 (r : Option AS) : Option (List (AV × AS)) := r.map fun s' => [(undA, s')]
def aop (P : Program) (ks : Nat → Bool × List FV → Bool) (o : Oper) (ρ : Operand → Option AV) (s : AS) : Option (List (AV × AS)) :=
  match o.op with
  | .move x => q1 s (ρ x)
  | .assign x => q1 s (ρ x)
  | .pick c a b => match ρ c with
    | some (.sc (.f (.bool true))) => q1 s (ρ a)
    | some (.sc (.f (.bool false))) => q1 s (ρ b)
    | _ => none
  | .alloc t => w1 ((zL P t).map fun L => (.sc (.pt s.nx 0), newA s t L))
  | .box t x => w1 (((ρ x).bind AV.cells).map fun L => (.sc (.pt s.nx 0), newA s t L))
  | .build t ps => q1 s ((partsA ρ ps.toList).bind (buildA P t))
  | .buildSlice t n ps => w1 ((partsA ρ ps.toList).bind (bsliceA P s t n))
  | .load t x => match ρ x with
    | some (.sc (.pt b o)) => match fnd s.H b with
      | some (.cells _ L) => q1 s (loadA P t L o)
      | _ => none
    | _ => none
  | .store t a x => match ρ a, ρ x with
    | some a, some v => u1 (storeA P s t a v)
    | _, _ => none
  | .nilCheck x => match ρ x with
    | some (.sc (.pt b o)) => q1 s (some (.sc (.pt b o)))
    | _ => none
  | .binOp op t x y _ => match ρ x, ρ y with
    | some a, some b => q1 s (binA P op t x y a b)
    | _, _ => none
  | .unOp op t x => match (ρ x).bind AV.fv with
    | some v => q1 s ((flatS P (Op.unary op v)).bind absV)
    | none => none
  | .convert a b x => match ρ x with
    | some v => q1 s (convA P s a b v)
    | none => none
  | .makeFunc (.func f) first caps => if first.isEmpty then (capsA ρ caps.toList).map fun cs => [(.sc (.cl f cs), s)] else none
  | .makeMap t none => some [(.sc (.mp s.nx), ⟨(s.nx, .map []) :: s.H, s.nx + 1⟩)]
  | .makeSlice t l c => match ρ l, ρ c with
    | some l, some c => w1 (mslA P s t l c)
    | _, _ => none
  | .slice t x lo hi mx => match ρ x, bnd ρ lo, bnd ρ hi, bnd ρ mx with
    | some (.sc v), some l, some h, some m => q1 s ((sliceR P t v l h m).map .sc)
    | _, _, _, _ => none
  | .fieldAddr t x f => match ρ x, fieldOff P t f with
    | some (.sc (.pt b o)), some k => q1 s (some (.sc (.pt b (o + k))))
    | _, _ => none
  | .indexAddr t x i => match ρ x, ρ i, elemP P t with
    | some (.sc (.sl b o n c z)), some (.sc (.f (.int k j))), some e => if sizeP P e = some z ∧ 0 ≤ j ∧ j < (n : Int) then q1 s (some (.sc (.pt b (o + j.toNat * z)))) else none
    | _, _, _ => none
  | .index t x i => match (ρ x).bind AV.fv, (ρ i).bind AV.fv with
    | some v, some j => q1 s ((flatS P (Instr.index t v j)).bind absV)
    | _, _ => none
  | .lookup t m k ok => match ρ m, ρ k with
    | some m, some k => q1 s (lookA P ks s t m k ok)
    | _, _ => none
  | .mapUpdate t m k v => match ρ m, ρ k, ρ v with
    | some m, some k, some v => u1 (updA P ks s t m k v)
    | _, _, _ => none
  | .range t x => match ρ x with
    | some x => w1 (rangeA P s t x)
    | none => none
  | .next it false => match ρ it with
    | some x => if keysFit s x then nextA s x else none
    | none => none
  | .entry it => match ρ it with
    | some x => q1 s (entryA s x)
    | none => none
  | .extract x i => match ρ x with
    | some (.tu ys) => q1 s ((ys[i]?).map AE.av)
    | _ => none
  | .call { callee := .builtin b, args, argTypes } => w1 (bltA P ρ s b o.type args.toList argTypes.toList)
  | _ => none
/-- an operation's run, as it comes out -/
def Ran (P : Program) (e : Sem Next) (γ : Pl) (s : AS) (w : World) (outs : List (AV × AS)) : Prop :=
  ∃ v s' u w', (v, s') ∈ outs ∧ (e.run P w = .ok (.value u) w' ∨ (e.run P w = .ok .skip w' ∧ u = undef)) ∧ Done γ s w v s' u w'
section
variable {P : Program} {γ : Pl} {s : AS} {w : World} {ρa : Operand → Option AV} {ρ : Operand → Value}
theorem q1_ok {v : Option AV} {outs : List (AV × AS)} {e : Sem Value} (h : HR γ s w) (hv : q1 s v = some outs) (he : ∀ a, v = some a → ∃ u, e.run P w = .ok u w ∧ RA γ a u) : Ran P (do pure (.value (← e))) γ s w outs := by
  obtain ⟨a, ha, rfl⟩ := Option.map_eq_some_iff.1 hv
  obtain ⟨u, h1, h2⟩ := he a ha
  exact ⟨a, s, u, w, List.mem_cons_self .., .inl (by simp only [Sem.run_bind, h1, Result.andThen_ok, Sem.run_pure]), Done.quiet h h2⟩
theorem w1_ok {r : Option (AV × AS)} {outs : List (AV × AS)} {e : Sem Value} (hv : w1 r = some outs) (he : ∀ a, r = some a → ∃ u w', e.run P w = .ok u w' ∧ Done γ s w a.1 a.2 u w') : Ran P (do pure (.value (← e))) γ s w outs := by
  obtain ⟨a, ha, rfl⟩ := Option.map_eq_some_iff.1 hv
  obtain ⟨u, w', h1, h2⟩ := he a ha
  exact ⟨a.1, a.2, u, w', List.mem_cons_self .., .inl (by simp only [Sem.run_bind, h1, Result.andThen_ok, Sem.run_pure]), h2⟩
theorem u1_ok {r : Option AS} {outs : List (AV × AS)} {e : Sem Unit} (hv : u1 r = some outs) (he : ∀ a, r = some a → ∃ w', e.run P w = .ok () w' ∧ HR γ a w' ∧ Fr γ s w γ a w') : Ran P (do e; pure .skip) γ s w outs := by
  obtain ⟨a, ha, rfl⟩ := Option.map_eq_some_iff.1 hv
  obtain ⟨w', h1, h2, h3⟩ := he a ha
  exact ⟨undA, a, undef, w', List.mem_cons_self .., .inr ⟨by simp only [Sem.run_bind, h1, Result.andThen_ok, Sem.run_pure], rfl⟩, ⟨γ, h2, h3, und_rel γ⟩⟩
theorem parts_ok (hr : Op2 γ ρa ρ) : ∀ {ps : List (Nat × Operand)} {qs : List (Nat × AV)}, partsA ρa ps = some qs → All2 (fun p q => p.1 = q.1 ∧ RA γ p.2 q.2) qs (ps.map fun (i, x) => (i, ρ x))
  | [], _, h => by cases h; trivial
  | (i, x) :: r, _, h => by
    unfold partsA at h
    split at h
    · rename_i v vs h1 h2
      cases h
      exact ⟨⟨rfl, hr _ _ h1⟩, parts_ok hr h2⟩
    · cases h
theorem caps_ok (hr : Op2 γ ρa ρ) : ∀ {ps : List Operand} {qs : List Nat}, capsA ρa ps = some qs → All2 (RP γ) qs (ps.map ρ)
  | [], _, h => by cases h; trivial
  | x :: r, _, h => by
    unfold capsA at h
    split at h
    · rename_i v vs h1 h2
      cases h
      obtain ⟨B, d, S, k1, k2⟩ := hr _ _ h1
      exact ⟨⟨B, d, S, k1, k2⟩, caps_ok hr h2⟩
    · cases h
theorem fvs_ok (hr : Op2 γ ρa ρ) : ∀ {ps : List Operand} {qs : List Value}, fvsA ρa ps = some qs → ps.map ρ = qs
  | [], _, h => by cases h; rfl
  | x :: r, _, h => by
    unfold fvsA at h
    split at h
    · rename_i v vs h1 h2
      cases h
      obtain ⟨a, ha, hav⟩ := Option.bind_eq_some_iff.1 h1
      rw [List.map_cons, fvs_ok hr h2, fv_eq hav (hr _ _ ha)]
    · cases h
theorem isSl_some {t : Nat} (h : isSl P t = true) : ∃ e, P.underlying t = some (.slice e) := by
  unfold isSl at h
  split at h
  · rename_i e he; exact ⟨e, he⟩
  · cases h
theorem lenA_ok {t ty : Nat} {a r : AV} {u : Value} (h : HR γ s w) (ha : RA γ a u) (hr : lenA P s t a = some r) : ∃ u', (Builtin.len_ #[t] ty #[u]).run P w = .ok u' w ∧ RA γ r u' := by
  unfold lenA at hr
  split at hr
  · split at hr
    · rename_i hs
      obtain ⟨e, hu⟩ := isSl_some hs
      cases hr
      obtain ⟨B, d, S, c', _, rfl, _⟩ := ha
      exact ⟨_, by simp [Builtin.len_, run_underlying hu]; rfl, rfl⟩
    · cases hr
  · split at hr
    · rename_i hs
      obtain ⟨e, hu⟩ := isSl_some hs
      cases hr
      obtain ⟨B, d, S, o', c', _, rfl, _⟩ := ha
      exact ⟨_, by simp [Builtin.len_, run_underlying hu]; rfl, rfl⟩
    · cases hr
  · rename_i l
    split at hr
    · rename_i hu
      cases hr
      have : u = .string ⟨⟨l⟩⟩ := ha
      subst this
      exact ⟨_, by simp [Builtin.len_, run_underlying hu]; rfl, rfl⟩
    · cases hr
  · split at hr
    · rename_i hs
      obtain ⟨e, hu⟩ := isSl_some hs
      cases hr
      have : u = .slice none 0 0 := ha
      subst this
      exact ⟨_, by simp [Builtin.len_, run_underlying hu]; rfl, rfl⟩
    · cases hr
  · rename_i b
    split at hr
    · rename_i es hf
      split at hr
      · rename_i hm
        have hu : ∃ k e, P.underlying t = some (.map k e) := by
          unfold isAMap at hm
          split at hm
          · rename_i k e he; exact ⟨k, e, he⟩
          · cases hm
        obtain ⟨k, e, hu⟩ := hu
        cases hr
        obtain ⟨B, d, S, hb, rfl⟩ := ha
        obtain ⟨B', d', S', cs, h1, h2, h3⟩ := h.obj _ _ (fnd_mem hf)
        rw [hb] at h1
        cases h1
        have hl : cs.size = es.length := by
          have := entsR_len h3
          have e : cs.toList.length = cs.size := Array.length_toList
          omega
        exact ⟨.int .i64 es.length, by simp [Builtin.len_, run_underlying hu, MapKept.run_getObj_map h2, hl, goInt], rfl⟩
      · cases hr
    · cases hr
  · cases hr
theorem blt_ok {b : Builtin} {ty : Nat} {args : List Operand} {ats : List Nat} {consts : Array Bool} {r : AV × AS} (h : HR γ s w) (hr : Op2 γ ρa ρ) (hb : bltA P ρa s b ty args ats = some r) :
    ∃ u w', (builtin b ats.toArray ty consts (args.map ρ).toArray).run P w = .ok (.value u) w' ∧ Done γ s w r.1 r.2 u w' := by
  unfold bltA at hb
  split at hb
  · split at hb
    · rename_i a x ha hx
      obtain ⟨u, w', k1, k2⟩ := app_ok (ty := ty) h (hr _ _ ha) (hr _ _ hx) hb
      refine ⟨u, w', ?_, k2⟩
      simp only [builtin, List.map_cons, List.map_nil, Sem.run_bind, k1, Result.andThen_ok, Sem.run_pure]
    · cases hb
  · split at hb
    · rename_i a ha
      obtain ⟨v, hv, rfl⟩ := Option.map_eq_some_iff.1 hb
      obtain ⟨u, k1, k2⟩ := lenA_ok (ty := ty) h (hr _ _ ha) hv
      refine ⟨u, w, ?_, Done.quiet h k2⟩
      simp only [builtin, List.map_cons, List.map_nil, Sem.run_bind, k1, Result.andThen_ok, Sem.run_pure]
    · cases hb
  · split at hb
    · rename_i vs hvs
      obtain ⟨v, hv, rfl⟩ := Option.map_eq_some_iff.1 hb
      obtain ⟨z, hz, hr2⟩ := Option.bind_eq_some_iff.1 hv
      have k1 := flatS_run hz w
      rw [← fvs_ok hr hvs] at k1
      refine ⟨z, w, ?_, Done.quiet h (absV_rel hr2)⟩
      simp only [builtin, Sem.run_bind, k1, Result.andThen_ok, Sem.run_pure]
    · cases hb
  · split at hb
    · rename_i vs hvs
      obtain ⟨v, hv, rfl⟩ := Option.map_eq_some_iff.1 hb
      obtain ⟨z, hz, hr2⟩ := Option.bind_eq_some_iff.1 hv
      have k1 := flatS_run hz w
      rw [← fvs_ok hr hvs] at k1
      refine ⟨z, w, ?_, Done.quiet h (absV_rel hr2)⟩
      simp only [builtin, Sem.run_bind, k1, Result.andThen_ok, Sem.run_pure]
    · cases hb
  · cases hb
end
end Go.Proofs.YteigplfldhdakaaGreatDoor.Ev
/- Any operation but a call of a function: it runs as it was reckoned. -/
namespace Go.Proofs.YteigplfldhdakaaGreatDoor.Ev
set_option linter.unusedVariables false
set_option linter.unusedSimpArgs false
open Go Go.RowKit
section
variable {P : Program} {ks : Nat → Bool × List FV → Bool} {γ : Pl} {s : AS} {w : World} {ρa : Operand → Option AV} {ρ : Operand → Value}
theorem execOp_move {o : Oper} {x : Operand} (h : o.op = .move x ∨ o.op = .assign x) : execOp ρ o = (do pure (.value (← (pure (ρ x) : Sem Value))) : Sem Next) := by
  rcases h with h | h <;> (unfold execOp; rw [h]; rfl)
set_option maxHeartbeats 4000000 in
theorem aop_ok (hK : KeyLaw P ks) {o : Oper} {outs : List (AV × AS)} (h : HR γ s w) (hr : Op2 γ ρa ρ) (ha : aop P ks o ρa s = some outs) : Ran P (execOp ρ o) γ s w outs := by
  unfold aop at ha
  split at ha
  · rename_i x ho
    rw [execOp_move (.inl ho)]
    exact q1_ok h ha fun a e => ⟨_, rfl, hr _ _ e⟩
  · rename_i x ho
    rw [execOp_move (.inr ho)]
    exact q1_ok h ha fun a e => ⟨_, rfl, hr _ _ e⟩
  · rename_i c a b ho
    have hx : ∀ t : Bool, ρa c = some (.sc (.f (.bool t))) → execOp ρ o = (do pure (.value (← (pure (if t then ρ a else ρ b) : Sem Value))) : Sem Next) := fun t ht => by
      have : ρ c = .bool t := hr _ _ ht
      unfold execOp
      rw [ho]
      simp only [this, asBool]
      rfl
    split at ha
    · rename_i hc
      rw [hx _ hc]
      exact q1_ok h ha fun a e => ⟨_, rfl, hr _ _ e⟩
    · rename_i hc
      rw [hx _ hc]
      exact q1_ok h ha fun a e => ⟨_, rfl, hr _ _ e⟩
    · cases ha
  · rename_i t ho
    unfold execOp
    rw [ho]
    refine w1_ok ha fun a e => ?_
    obtain ⟨L, hL, rfl⟩ := Option.map_eq_some_iff.1 e
    exact alloc_ok h hL
  · rename_i t x ho
    unfold execOp
    rw [ho]
    refine w1_ok ha fun a e => ?_
    obtain ⟨L, hL, rfl⟩ := Option.map_eq_some_iff.1 e
    obtain ⟨v, hv, hl⟩ := Option.bind_eq_some_iff.1 hL
    exact box_ok h (hr _ _ hv) hl
  · rename_i t ps ho
    unfold execOp
    rw [ho]
    refine q1_ok h ha fun a e => ?_
    obtain ⟨qs, hq, hb⟩ := Option.bind_eq_some_iff.1 e
    exact build_ok (by simpa using parts_ok hr hq) hb
  · rename_i t n ps ho
    unfold execOp
    rw [ho]
    refine w1_ok ha fun a e => ?_
    obtain ⟨qs, hq, hb⟩ := Option.bind_eq_some_iff.1 e
    exact bslice_ok h (by simpa using parts_ok hr hq) hb
  · rename_i t x ho
    split at ha
    · rename_i b off hx
      split at ha
      · rename_i ty L hf
        unfold execOp
        rw [ho]
        obtain ⟨B, d, S, hb, hv⟩ := hr _ _ hx
        dsimp only
        rw [hv]
        exact q1_ok h ha fun a e => load_ok (h.obj _ _ (fnd_mem hf)) hb e
      · cases ha
    · cases ha
  · rename_i t a x ho
    split at ha
    · rename_i av xv h1 h2
      unfold execOp
      rw [ho]
      exact u1_ok ha fun s' e => store_ok h (hr _ _ h1) (hr _ _ h2) e
    · cases ha
  · rename_i x ho
    split at ha
    · rename_i b off hx
      have hv := hr _ _ hx
      obtain ⟨B, d, S, hb, hv'⟩ := hv
      have he : execOp ρ o = (do pure (.value (← (pure (ρ x) : Sem Value))) : Sem Next) := by
        unfold execOp
        rw [ho]
        simp only [hv']
        rfl
      rw [he]
      exact q1_ok h ha fun a e => ⟨_, rfl, by cases e; exact hr _ _ hx⟩
    · cases ha
  · rename_i op t x y yt ho
    split at ha
    · rename_i av bv h1 h2
      unfold execOp
      rw [ho]
      exact q1_ok h ha fun a e => binA_ok (hr _ _ h1) (hr _ _ h2) e
    · cases ha
  · rename_i op t x ho
    split at ha
    · rename_i v hv
      obtain ⟨av, h1, h2⟩ := Option.bind_eq_some_iff.1 hv
      have hx := fv_eq h2 (hr _ _ h1)
      unfold execOp
      rw [ho]
      dsimp only
      rw [hx]
      refine q1_ok h ha fun a e => ?_
      obtain ⟨z, hz, hr2⟩ := Option.bind_eq_some_iff.1 e
      exact ⟨z, flatS_run hz w, absV_rel hr2⟩
    · cases ha
  · rename_i a b x ho
    split at ha
    · rename_i v hv
      unfold execOp
      rw [ho]
      exact q1_ok h ha fun a e => convA_ok h (hr _ _ hv) e
    · cases ha
  · rename_i f first caps ho
    split at ha
    · rename_i hfi
      have hfe : first = #[] := by simpa using hfi
      subst hfe
      obtain ⟨cs, hcs, rfl⟩ := Option.map_eq_some_iff.1 ha
      refine ⟨_, s, .func (.func f) #[] (caps.map ρ), w, List.mem_cons_self .., .inl ?_, Done.quiet h ⟨caps.toList.map ρ, ?_, caps_ok hr hcs⟩⟩
      · unfold execOp
        rw [ho]
        simp [Instr.makeFunc]
      · congr 1
        apply Array.ext'
        simp
    · cases ha
  · rename_i t ho
    cases ha
    obtain ⟨u, w', h1, h2⟩ := makeMap_ok (P := P) (t := t) h
    refine ⟨_, _, u, w', List.mem_cons_self .., .inl ?_, h2⟩
    unfold execOp
    rw [ho]
    simp only [Option.map_none, Sem.run_bind, h1, Result.andThen_ok, Sem.run_pure]
  · rename_i t l c ho
    split at ha
    · rename_i lv cv h1 h2
      unfold execOp
      rw [ho]
      exact w1_ok ha fun r e => msl_ok h (hr _ _ h1) (hr _ _ h2) e
    · cases ha
  · rename_i t x lo hi mx ho
    split at ha
    · rename_i v l hh m h1 h2 h3 h4
      unfold execOp
      rw [ho]
      refine q1_ok h ha fun a e => ?_
      obtain ⟨y, hy, rfl⟩ := Option.map_eq_some_iff.1 e
      exact slice_ok (hr _ _ h1) (bnd_ok hr h2) (bnd_ok hr h3) (bnd_ok hr h4) hy
    · cases ha
  · rename_i t x f ho
    split at ha
    · rename_i b off k hx hk
      obtain ⟨B, d, S, hb, hv⟩ := hr _ _ hx
      unfold execOp
      rw [ho]
      dsimp only
      rw [hv]
      exact q1_ok h ha fun a e => ⟨_, fieldAt_ok hk, by cases e; exact ⟨B, d, S, hb, by rw [Nat.add_assoc]⟩⟩
    · cases ha
  · rename_i t x i ho
    split at ha
    · rename_i b off n c z k j e hx hi he
      split at ha
      · rename_i hc
        obtain ⟨B, d, S, c', hb, hv, hn, hcc⟩ := hr _ _ hx
        have hj : ρ i = .int k j := hr _ _ hi
        unfold execOp
        rw [ho]
        dsimp only
        rw [hv, hj]
        exact q1_ok h ha fun a e2 => ⟨_, indexAt_ok he hc.1 hc.2.1 hc.2.2, by cases e2; exact ⟨B, d, S, hb, by rw [Nat.add_assoc]⟩⟩
      · cases ha
    · cases ha
  · rename_i t x i ho
    split at ha
    · rename_i v j h1 h2
      obtain ⟨av, k1, k2⟩ := Option.bind_eq_some_iff.1 h1
      obtain ⟨jv, k3, k4⟩ := Option.bind_eq_some_iff.1 h2
      have hx := fv_eq k2 (hr _ _ k1)
      have hi := fv_eq k4 (hr _ _ k3)
      unfold execOp
      rw [ho]
      dsimp only
      rw [hx, hi]
      refine q1_ok h ha fun a e => ?_
      obtain ⟨z, hz, hr2⟩ := Option.bind_eq_some_iff.1 e
      exact ⟨z, flatS_run hz w, absV_rel hr2⟩
    · cases ha
  · rename_i t m k ok ho
    split at ha
    · rename_i mv kv h1 h2
      unfold execOp
      rw [ho]
      exact q1_ok h ha fun a e => lookA_ok hK h (hr _ _ h1) (hr _ _ h2) e
    · cases ha
  · rename_i t m k v ho
    split at ha
    · rename_i mv kv vv h1 h2 h3
      unfold execOp
      rw [ho]
      exact u1_ok ha fun s' e => updA_ok hK h (hr _ _ h1) (hr _ _ h2) (hr _ _ h3) e
    · cases ha
  · rename_i t x ho
    split at ha
    · rename_i xv hx
      unfold execOp
      rw [ho]
      exact w1_ok ha fun r e => range_ok h (hr _ _ hx) e
    · cases ha
  · rename_i it ho
    split at ha
    · rename_i xv hx
      split at ha
      · rename_i hkf
        obtain ⟨v, s', u', w', k1, k2, k3⟩ := next_ok (P := P) (ty := o.type) h (hr _ _ hx) hkf ha
        refine ⟨v, s', u', w', k1, .inl ?_, k3⟩
        unfold execOp
        rw [ho]
        simp only [Sem.run_bind, k2, Result.andThen_ok, Sem.run_pure]
      · cases ha
    · cases ha
  · rename_i it ho
    split at ha
    · rename_i xv hx
      unfold execOp
      rw [ho]
      exact q1_ok h ha fun a e => entry_ok h (hr _ _ hx) e
    · cases ha
  · rename_i x i ho
    split at ha
    · rename_i ys hx
      obtain ⟨us, hv, h2⟩ := hr _ _ hx
      unfold execOp
      rw [ho]
      dsimp only
      rw [hv]
      refine q1_ok h ha fun a e => ?_
      obtain ⟨y, hy, rfl⟩ := Option.map_eq_some_iff.1 e
      obtain ⟨u, k1, k2⟩ := All2.get i h2 hy
      exact ⟨u, by simp [Instr.extract, k1], AE.av_rel k2⟩
    · cases ha
  · rename_i b args ats ho
    obtain ⟨r, hr2, rfl⟩ := Option.map_eq_some_iff.1 ha
    obtain ⟨u, w', k1, k2⟩ := blt_ok (consts := args.map fun | .const _ => true | _ => false) h hr hr2
    refine ⟨r.1, r.2, u, w', List.mem_cons_self .., .inl ?_, k2⟩
    unfold execOp
    rw [ho]
    have e1 : (args.toList.map ρ).toArray = args.map ρ := by apply Array.ext'; simp
    have e2 : ats.toList.toArray = ats := by simp
    rw [e1, e2] at k1
    simp only [resolve, Sem.run_bind, Sem.run_pure, Result.andThen_ok, invoke]
    exact k1
  · cases ha
end
end Go.Proofs.YteigplfldhdakaaGreatDoor.Ev
/- A region's operations, calls among them, in the text's order. -/
namespace Go.Proofs.YteigplfldhdakaaGreatDoor.Ev
set_option linter.unusedVariables false
set_option linter.unusedSimpArgs false
open Go Go.RowKit
inductive Cal where
  | fn (f : Nat) | yl (l : Nat)
abbrev CF := Cal → List AV → AS → Option (List (AV × AS))
/-- what stands for all that the run began with -/
structure Inv (w0 : World) (γ : Pl) (s : AS) (w : World) : Prop where
  hr : HR γ s w
  im : ∀ k, Im γ s k → w0.heap.size ≤ k
  bel : Below w0.heap.size w0 w
theorem Inv.step {w0 : World} {γ γ' : Pl} {s s' : AS} {w w' : World} (h : Inv w0 γ s w) (hr : HR γ' s' w') (hf : Fr γ s w γ' s' w') : Inv w0 γ' s' w' := by
  refine ⟨hr, fun k hk => ?_, ⟨hf.same.1.trans h.bel.os, hf.same.2.1.trans h.bel.tape, hf.same.2.2.trans h.bel.output, Nat.le_trans h.bel.size hf.size, fun k hk => ?_⟩⟩
  · rcases hf.im k hk with h1 | h1
    · exact h.im k h1
    · exact Nat.le_trans h.bel.size h1
  · exact (hf.keep k (Nat.lt_of_lt_of_le hk h.bel.size) fun hi => by have := h.im k hi; omega).trans (h.bel.block k hk)
def aeval (tm : List AV) : Operand → Option AV
  | .tmp t => tm[t]?
  | .const v => absV v
  | .func f => some (.sc (.f (.fn f)))
  | .global _ => none
abbrev TR (γ : Pl) (tm : List AV) (a : Act) : Prop := All2 (RA γ) tm a.tmps.toList
theorem aeval_ok {γ : Pl} {tm : List AV} {a : Act} (h : TR γ tm a) : Op2 γ (aeval tm) a.eval := fun x v hx => by
  cases x with
  | tmp t =>
    obtain ⟨u, h1, h2⟩ := All2.get t h hx
    have e : a.eval (.tmp t) = u := by
      show a.tmps.getD t undef = u
      rw [Array.getElem?_toList] at h1
      rw [Array.getD_eq_getD_getElem?, h1]
      rfl
    rw [e]
    exact h2
  | const v => exact absV_rel hx
  | func f => cases hx; exact rfl
  | global g => cases hx
def putA (dst : Option Nat) (v : AV) (tm : List AV) : List AV := match dst with | some d => tm.set d v | none => tm
theorem putA_ok {γ : Pl} {tm : List AV} {a : Act} {dst : Option Nat} {v : AV} {u : Value} (h : TR γ tm a) (hv : RA γ v u) : TR γ (putA dst v tm) (a.put dst u) := by
  cases dst with
  | none => exact h
  | some d =>
    show All2 (RA γ) (tm.set d v) (a.tmps.setIfInBounds d u).toList
    rw [Array.toList_setIfInBounds]
    exact All2.set d h hv
theorem put_defers (a : Act) (dst : Option Nat) (u : Value) : (a.put dst u).defers = a.defers := by cases dst <;> rfl
def wantA (ops : Array Oper) (o : Oper) (tm : List AV) : Option Bool :=
  match o.guard with
  | none => some true
  | some (j, want) => match (ops[j]?).bind (·.dst) with
    | some d => match tm[d]? with
      | some (.sc (.f (.bool b))) => some (b == want)
      | _ => none
    | none => none
theorem wantA_ok {γ : Pl} {tm : List AV} {a : Act} {ops : Array Oper} {o : Oper} {b : Bool} (h : TR γ tm a) (hw : wantA ops o tm = some b) : Region.wanted o (yielded ops a.tmps) = b := by
  unfold wantA at hw
  unfold Region.wanted
  split at hw
  · rename_i hg
    rw [hg]
    cases hw
    rfl
  · rename_i j want hg
    rw [hg]
    split at hw
    · rename_i d hd
      split at hw
      · rename_i v hv
        cases hw
        obtain ⟨u, h1, h2⟩ := All2.get d h hv
        have hu : u = .bool v := h2
        rw [Array.getElem?_toList] at h1
        simp only [yielded, hd, Option.bind_some, h1, hu]
        cases v <;> cases want <;> rfl
      · cases hw
    · cases hw
def argsA (tm : List AV) : List Operand → Option (List AV)
  | [] => some []
  | x :: r => match aeval tm x, argsA tm r with
    | some v, some vs => some (v :: vs)
    | _, _ => none
theorem argsA_ok {γ : Pl} {tm : List AV} {a : Act} (h : TR γ tm a) : ∀ {xs : List Operand} {vs : List AV}, argsA tm xs = some vs → All2 (RA γ) vs (xs.map a.eval)
  | [], _, e => by cases e; trivial
  | x :: r, _, e => by
    unfold argsA at e
    split at e
    · rename_i v vs h1 h2
      cases e
      exact ⟨aeval_ok h _ _ h1, argsA_ok h h2⟩
    · cases e
def capV (cs : List Nat) : List AV := cs.map fun b => .sc (.pt b 0)
theorem capV_ok {γ : Pl} : ∀ {cs : List Nat} {us : List Value}, All2 (RP γ) cs us → All2 (RA γ) (capV cs) us
  | [], [], _ => trivial
  | _ :: _, _ :: _, h => ⟨by obtain ⟨B, d, S, h1, h2⟩ := h.1; exact ⟨B, d, S, h1, h2⟩, capV_ok h.2⟩
  | [], _ :: _, h => h.elim
  | _ :: _, [], h => h.elim
def evO (P : Program) (ks : Nat → Bool × List FV → Bool) (cf : CF) (o : Oper) (tm : List AV) (s : AS) : Option (List (AV × AS)) :=
  match o.op with
  | .call { callee := .value f, args, argTypes } => match aeval tm f, argsA tm args.toList with
    | some (.sc (.f (.fn g))), some xs => cf (.fn g) xs s
    | some (.sc (.cl g cs)), some xs => cf (.fn g) (xs ++ capV cs) s
    | some (.sc (.yl l)), some xs => cf (.yl l) xs s
    | _, _ => none
  | _ => aop P ks o (aeval tm) s
/-- what a call of a function, of a round, is reckoned to do -/
structure SoundC (P : Program) (w0 : World) (cf : CF) : Prop where
  fn : ∀ f args s outs γ w us, Inv w0 γ s w → All2 (RA γ) args us → cf (.fn f) args s = some outs →
    (callFunc f us.toArray).run P w = .ok (.enter f us.toArray) w ∧ Calls P f us.toArray w fun e w' => ∃ v s' u, (v, s') ∈ outs ∧ e = .returned u ∧ Done γ s w v s' u w'
  yl : ∀ l args s outs γ w us, Inv w0 γ s w → All2 (RA γ) args us → cf (.yl l) args s = some outs → ∀ B d S, γ l = some (B, d, S) →
    ∃ fn tmps assign body, (Instr.yield B us.toArray).run P w = .ok (.round B fn tmps assign body) w ∧ ∀ cfr cs, ∃ v s' u w', (v, s') ∈ outs ∧ Done γ s w v s' u w' ∧
      Steps P (lone (Frame.round B fn tmps assign body .normal) (cfr :: cs) w) (lone (cfr.finish u) cs w')
section
variable {P : Program} {ks : Nat → Bool × List FV → Bool} {w0 : World} {cf : CF} {γ : Pl} {s : AS} {w : World}
theorem arr_app (xs ys : List Value) : #[] ++ xs.toArray ++ ys.toArray = (xs ++ ys).toArray := by simp
/-- one operation, where it stands in its region -/
theorem evO_ok (hK : KeyLaw P ks) (hC : SoundC P w0 cf) {b : Frame} {a : Act} {k : List Item} {cs : List Frame} {ops : Array Oper} {i : Nat} {rest : List Nat} {o : Oper} {tm : List AV} {outs : List (AV × AS)}
    (h : Inv w0 γ s w) (ht : TR γ tm a) (ho : ops[i]? = some o) (hw : Region.wanted o (yielded ops a.tmps) = true) (he : evO P ks cf o tm s = some outs) :
    ∃ v s' u w', (v, s') ∈ outs ∧ Done γ s w v s' u w' ∧ Steps P (lone (b.atR a (.inRegion ops (i :: rest) :: k)) cs w) (lone (b.atR (a.put o.dst u) (.inRegion ops rest :: k)) cs w') := by
  have hfin : ∀ v, (b.atR a (.inRegion ops (i :: rest) :: k)).finish v = b.atR (a.put o.dst v) (.inRegion ops rest :: k) := by
    intro v; rw [Frame.finish_atR, ho]; rfl
  have hg := stepGR_op (P := P) (b := b) (k := k) (cs := cs) (w := w) (rest := rest) ho hw
  have henter : ∀ {f args}, (execOp a.eval o).run P w = .ok (.enter f args) w → (∀ c, o.op ≠ .defer c) →
      step P (lone (b.atR a (.inRegion ops (i :: rest) :: k)) cs w) = .next (lone (Frame.enter P f args .normal) (b.atR a (.inRegion ops (i :: rest) :: k) :: cs) w) := fun hr hd =>
    step_lone_go (by rw [hg, Oper.semAt_eq _ _ _ hd]; simp [stepG.apply, hr, Frame.atR])
  have hcall : ∀ {f : Nat} {args : Array Value} {vs : List (AV × AS)}, (execOp a.eval o).run P w = .ok (.enter f args) w → (∀ c, o.op ≠ .defer c) → Calls P f args w (fun e w' => ∃ v s' u, (v, s') ∈ vs ∧ e = .returned u ∧ Done γ s w v s' u w') →
      ∃ v s' u w', (v, s') ∈ vs ∧ Done γ s w v s' u w' ∧ Steps P (lone (b.atR a (.inRegion ops (i :: rest) :: k)) cs w) (lone (b.atR (a.put o.dst u) (.inRegion ops rest :: k)) cs w') := fun hr hd hc => by
    obtain ⟨e, w', fr, ⟨v, s', u, h1, rfl, h2⟩, hcomes, hfn, hleave⟩ := hc (b.atR a (.inRegion ops (i :: rest) :: k) :: cs)
    refine ⟨v, s', u, w', h1, h2, .head (henter hr hd) (Steps.trans hcomes (.one ?_))⟩
    rw [← hfin]
    exact step_leave_returned hleave
  unfold evO at he
  split at he
  · rename_i f args ats hop
    have hd : ∀ c, o.op ≠ .defer c := fun c e => by rw [hop] at e; cases e
    have hrun : ∀ {fn first captured}, a.eval f = .func fn first captured → (execOp a.eval o).run P w = (invoke (.fn fn captured) (first ++ args.map a.eval)).run P w := fun hf => by
      unfold execOp
      rw [hop]
      simp only [resolve, hf, Deferred.ofValue, Sem.run_bind, Sem.run_pure, Result.andThen_ok]
    split at he
    · rename_i g xs h1 h2
      have hf : a.eval f = .func (.func g) #[] #[] := aeval_ok ht _ _ h1
      have hargs := argsA_ok ht h2
      obtain ⟨k1, k2⟩ := hC.fn g xs s outs γ w _ h hargs he
      refine hcall ?_ hd k2
      rw [hrun hf]
      have e1 : (#[] : Array Value) ++ args.map a.eval ++ #[] = (args.toList.map a.eval).toArray := by apply Array.ext'; simp
      show (callFunc g ((#[] : Array Value) ++ args.map a.eval ++ #[])).run P w = _
      rw [e1]
      exact k1
    · rename_i g cps xs h1 h2
      obtain ⟨us, hf, hus⟩ := aeval_ok ht _ _ h1
      have hargs := All2.app (argsA_ok ht h2) (capV_ok hus)
      obtain ⟨k1, k2⟩ := hC.fn g _ s outs γ w _ h hargs he
      refine hcall ?_ hd k2
      rw [hrun hf]
      have e1 : (#[] : Array Value) ++ args.map a.eval ++ us.toArray = (args.toList.map a.eval ++ us).toArray := by apply Array.ext'; simp
      show (callFunc g ((#[] : Array Value) ++ args.map a.eval ++ us.toArray)).run P w = _
      rw [e1]
      exact k1
    · rename_i l xs h1 h2
      obtain ⟨B, d, S, hb, hf⟩ := aeval_ok ht _ _ h1
      have hargs := argsA_ok ht h2
      obtain ⟨fn, tmps, assign, body, k1, k2⟩ := hC.yl l xs s outs γ w _ h hargs he B d S hb
      obtain ⟨v, s', u, w', q1, q2, q3⟩ := k2 (b.atR a (.inRegion ops (i :: rest) :: k)) cs
      refine ⟨v, s', u, w', q1, q2, ?_⟩
      rw [← hfin]
      refine .head ?_ q3
      refine step_lone_go ?_
      have e1 : (#[] : Array Value) ++ args.map a.eval = (args.toList.map a.eval).toArray := by apply Array.ext'; simp
      have hrn : (execOp a.eval o).run P w = .ok (.round B fn tmps assign body) w := by
        rw [hrun hf]
        show (Instr.yield B ((#[] : Array Value) ++ args.map a.eval)).run P w = _
        rw [e1]
        exact k1
      rw [hg, Oper.semAt_eq _ _ _ hd]
      simp [stepG.apply, hrn, Frame.atR]
    · cases he
  · rename_i hnot
    have hd : ∀ c, o.op ≠ .defer c := fun c e => by
      unfold aop at he
      rw [e] at he
      cases he
    obtain ⟨v, s', u, w', q1, q2, q3⟩ := aop_ok hK h.hr (aeval_ok ht) he
    refine ⟨v, s', u, w', q1, q3, .one (step_lone_go ?_)⟩
    rw [hg, Oper.semAt_eq _ _ _ hd, ← hfin]
    rcases q2 with q2 | ⟨q2, rfl⟩
    · simp [stepG.apply, q2]
    · simp [stepG.apply, q2]
def bindL {α β : Type} : List α → (α → Option (List β)) → Option (List β)
  | [], _ => some []
  | x :: r, f => match f x, bindL r f with
    | some ys, some zs => some (ys ++ zs)
    | _, _ => none
theorem bindL_mem {α β : Type} {f : α → Option (List β)} : ∀ {l : List α} {zs : List β} {x : α}, bindL l f = some zs → x ∈ l → ∃ ys, f x = some ys ∧ ∀ y ∈ ys, y ∈ zs
  | a :: r, zs, x, h, hx => by
    unfold bindL at h
    split at h
    · rename_i ys qs h1 h2
      cases h
      rcases List.mem_cons.1 hx with rfl | hx
      · exact ⟨ys, h1, fun y hy => List.mem_append_left _ hy⟩
      · obtain ⟨ys', k1, k2⟩ := bindL_mem h2 hx
        exact ⟨ys', k1, fun y hy => List.mem_append_right _ (k2 y hy)⟩
    · cases h
/-- a region's operations in the text's order -/
def evOps (P : Program) (ks : Nat → Bool × List FV → Bool) (cf : CF) (ops : Array Oper) : List Nat → List AV → AS → Option (List (List AV × AS))
  | [], tm, s => some [(tm, s)]
  | i :: rest, tm, s => match ops[i]? with
    | none => none
    | some o => match wantA ops o tm with
      | some true => match evO P ks cf o tm s with
        | some outs => bindL outs fun r => evOps P ks cf ops rest (putA o.dst r.1 tm) r.2
        | none => none
      | some false => evOps P ks cf ops rest (putA o.dst undA tm) s
      | none => none
theorem evOps_ok (hK : KeyLaw P ks) (hC : SoundC P w0 cf) {b : Frame} {k : List Item} {cs : List Frame} {ops : Array Oper} : ∀ (l : List Nat) {γ : Pl} {s : AS} {w : World} {a : Act} {tm : List AV} {outs : List (List AV × AS)},
    Inv w0 γ s w → TR γ tm a → evOps P ks cf ops l tm s = some outs →
    ∃ tm' s' γ' w' a', (tm', s') ∈ outs ∧ HR γ' s' w' ∧ Fr γ s w γ' s' w' ∧ TR γ' tm' a' ∧ a'.defers = a.defers ∧ Steps P (lone (b.atR a (.inRegion ops l :: k)) cs w) (lone (b.atR a' k) cs w')
  | [], γ, s, w, a, tm, outs, h, ht, he => by
    cases he
    exact ⟨tm, s, γ, w, a, List.mem_cons_self .., h.hr, Fr.refl _ _ _, ht, rfl, .one stepR_region_end⟩
  | i :: rest, γ, s, w, a, tm, outs, h, ht, he => by
    unfold evOps at he
    split at he
    · cases he
    · rename_i o ho
      split at he
      · rename_i hw
        split at he
        · rename_i outs1 he1
          obtain ⟨v, s1, u, w1, q1, ⟨γ1, k1, k2, k3⟩, q3⟩ := evO_ok hK hC (b := b) (k := k) (cs := cs) (rest := rest) h ht ho (wantA_ok ht hw) he1
          obtain ⟨ys, e1, e2⟩ := bindL_mem he q1
          have hi := h.step k1 k2
          obtain ⟨tm', s', γ', w', a', r1, r2, r3, r4, r5, r6⟩ := evOps_ok hK hC (b := b) (k := k) (cs := cs) rest hi (putA_ok (All2.mono (fun _ _ x => RA.mono k2.sub x) ht) k3) e1
          exact ⟨tm', s', γ', w', a', e2 _ r1, r2, k2.trans r3, r4, r5.trans (put_defers _ _ _), q3.trans r6⟩
        · cases he
      · rename_i hw
        have hwc := wantA_ok ht hw
        have hs := stepR_op_skip (P := P) (b := b) (a := a) (k := k) (cs := cs) (w := w) (ops := ops) (i := i) (rest := rest) (by simp [ho, hwc])
        simp only [ho, Option.bind_some] at hs
        obtain ⟨tm', s', γ', w', a', r1, r2, r3, r4, r5, r6⟩ := evOps_ok hK hC (b := b) (k := k) (cs := cs) rest h (putA_ok ht (und_rel γ)) he
        exact ⟨tm', s', γ', w', a', r1, r2, r3, r4, r5.trans (put_defers _ _ _), .head hs r6⟩
      · cases he
end
end Go.Proofs.YteigplfldhdakaaGreatDoor.Ev
