/- append, all ways. -/
import Derived.Test.YteigplfldhdakaaGreatDoorB15
import Derived.Test.YteigplfldhdakaaGreatDoorB14
import Derived.Test.YteigplfldhdakaaGreatDoorB13
namespace Go.Proofs.YteigplfldhdakaaGreatDoor.Ev
set_option linter.unusedVariables false
set_option linter.unusedSimpArgs false
open Go Go.RowKit
section
variable {P : Program} {γ : Pl} {s : AS} {w : World}
/-- in place, but the old slice is given up: a new number for the same cells -/
theorem move_done {b B d S q c fe : Nat} {L : List SV} {C : Array Value} {all : List SV} {av : List Value} {C' : Array Value} {z n : Nat} (hfe : fe ≠ 121) (h : HR γ s w) (hf : fnd s.H b = some (.cells fe L)) (hb : γ b = some (B, d, S)) (hB : w.heap[B]? = some (.cells C fe (0, 0)))
    (hC : C'.size = S) (hq : q + all.length ≤ S) (hav : All2 (RS γ) all av) (hin : ∀ i u, av[i]? = some u → C'[q + i]? = some u) (hn : n ≤ c) (hc : q + c * z = S) :
    Done γ s w (.sc (.sl s.nx 0 n none z)) ⟨(s.nx, .cells fe all) :: ers s.H b, s.nx + 1⟩ (.slice (some ⟨B, q, none⟩) n c) (w.setRow B C') := by
  have hsub := ext_sub (x := (B, q, S)) (h.nxt _ (Nat.le_refl _))
  obtain ⟨k1, k2⟩ := row_upd (γ' := ext γ s.nx (B, q, S)) (b' := s.nx) (nx' := s.nx + 1) (L' := all) h hf hb hB hsub (ext_at _ _ _) (.inr h.fresh) hC ⟨hq, fun h => absurd h hfe⟩ (fun i x hx => by
    obtain ⟨u, h1, h2⟩ := All2.get i hav hx
    exact ⟨u, hin i u h1, h2⟩) (ext_nx h.nxt) ext_ids (Nat.le_succ _)
  exact ⟨_, k1, k2, B, q, S, c, ext_at _ _ _, by simp, hn, by simpa using hc⟩
/-- a new row, the old slice given up -/
theorem Done.forget {b : Nat} {v : AV} {s' : AS} {u : Value} {w' : World} (h : Done γ ⟨ers s.H b, s.nx⟩ w v s' u w') : Done γ s w v s' u w' := by
  obtain ⟨γ', h1, h2, h3⟩ := h
  exact ⟨γ', h1, Fr.of_forget h2, h3⟩
set_option maxHeartbeats 1000000 in
theorem app_ok {t tx ty : Nat} {a x : AV} {ua ux : Value} {r : AV × AS} (h : HR γ s w) (ha : RA γ a ua) (hx : RA γ x ux) (hr : appA P s t tx a x = some r) :
    ∃ u w', (Builtin.append_ #[t, tx] ty #[ua, ux]).run P w = .ok u w' ∧ Done γ s w r.1 r.2 u w' := by
  unfold appA at hr
  split at hr
  · rename_i e he
    have ht := elemP_some he
    split at hr
    · rename_i z Lz by_ hz hLz hby
      split at hr
      · rename_i hcz
        obtain ⟨hcz1, hcz2, hne⟩ := hcz
        obtain ⟨i, hi, his⟩ := Option.map_eq_some_iff.1 hz
        obtain ⟨zv, hz1, hz2⟩ := zL_rel hLz γ
        obtain ⟨i', hi', hz3⟩ := Option.bind_eq_some_iff.1 hz1
        obtain ⟨i'', hi'', hb2⟩ := Option.map_eq_some_iff.1 hby
        rw [hi] at hi' hi''
        cases hi'
        cases hi''
        subst his
        subst hb2
        have hzs : zv.cells.size = i.size := by rw [All2.size hz2]; exact hcz1
        split at hr
        · rename_i m news hsrc
          obtain ⟨nv, hnv, hS⟩ := src_ok (P := P) h hx hsrc
          have hnl := hS.newsLen
          have hnn := All2.len hnv
          split at hr
          · have hua : ua = .slice none 0 0 := ha
            subst hua
            split at hr
            · rename_i hm
              subst hm
              cases hr
              have : nv = [] := List.eq_nil_of_length_eq_zero (by omega)
              subst this
              exact ⟨_, _, run_append_nothing (P := P) w t tx ty e i ht hi none 0 0 (Nat.le_refl _) ux hS, Done.quiet h rfl⟩
            · rename_i hm
              split at hr
              · rename_i hc
                cases hr
                have := grow_done (P := P) (ty := ty) (base := none) (n := 0) (c := 0) (olds := []) (ov := []) hne h ht hi hz3 hzs (run_firstCells_none w.drew i.size 0 0 0) trivial (by simp) hS hnv (by omega) (by simpa using hc.1) (by omega)
                simpa using this
              · cases hr
          · rename_i b o n c z'
            split at hr
            · rename_i fe L hf
              split at hr
              · rename_i hcn
                obtain ⟨rfl, hb1, hb2, hol⟩ := hcn
                obtain ⟨B, d, S, c', hb, rfl, hn, hc⟩ := ha
                obtain ⟨B', d', S', C, g1, g2, g3, g4, g5⟩ := h.obj _ _ (fnd_mem hf)
                rw [hb] at g1
                cases g1
                obtain ⟨ov, o1, o2, o3⟩ := OR.range (h.obj _ _ (fnd_mem hf)) hb hol
                have hoL : ((L.drop o).take (n * i.size)).length = n * i.size := by rw [List.length_take, List.length_drop]; omega
                have hfirst : (Builtin.firstCells i.size n (.slice (some ⟨B, d + o, none⟩) n c')).run P w.drew = .ok ov.toArray w.drew := run_firstCells_some (P := P) w.drew i.size n _ n c' ov o1 (fun j v hv => by rw [Addr.add_mid]; exact o3 j v hv)
                have hnm : (n + m) * i.size = n * i.size + m * i.size := Nat.add_mul ..
                have hcS : d + o + c' * i.size ≤ S := by
                  cases c with
                  | none => simp only at hc; omega
                  | some c0 => obtain ⟨rfl, hc2⟩ := hc; exact hc2
                split at hr
                · rename_i hroom
                  obtain ⟨hr1, hr2⟩ := hroom
                  cases hr
                  have hmc : n + m ≤ c' := by
                    cases c with
                    | none =>
                      simp only at hc
                      have h2 : (n + m) * i.size ≤ c' * i.size := by omega
                      exact Nat.le_of_mul_le_mul_right h2 hcz2
                    | some c0 => obtain ⟨rfl, hc2⟩ := hc; simpa using hr2
                  obtain ⟨hrun, _⟩ := room_run (P := P) (ty := ty) ht hi g2 hS hmc g3 hcS
                  have hl2 : o + n * i.size + news.length ≤ L.length := by omega
                  obtain ⟨C2, q1, q2, q3, q4⟩ := row_done h hf hb hl2 hnv
                  rw [g2] at q1
                  cases q1
                  rw [Nat.add_assoc d o] at hrun
                  refine ⟨_, _, hrun, γ, q4.1, q4.2, B, d, S, c', hb, rfl, hmc, hc⟩
                · rename_i hroom
                  split at hr
                  · rename_i c0
                    obtain ⟨rfl, hc2⟩ := hc
                    split at hr
                    · rename_i hlt
                      cases hr
                      exact grow_done (P := P) (ty := ty) hne h ht hi hz3 hzs hfirst o2 hoL hS hnv hlt hb1 hb2
                    · cases hr
                  · split at hr
                    case isFalse => cases hr
                    rename_i hte
                    subst hte
                    cases hr
                    simp only at hc
                    by_cases hmc : n + m ≤ c'
                    · obtain ⟨hrun, hfit⟩ := room_run (P := P) (ty := ty) ht hi g2 hS hmc g3 hcS
                      refine ⟨_, _, hrun, ?_⟩
                      have hCl : C.toList.length = C.size := Array.length_toList
                      have hovl : ov.length = n * i.size := o1
                      refine move_done (av := ov ++ nv) hne h hf hb g2 ?_ ?_ (All2.app o2 hnv) (fun j u hj => ?_) hmc hc
                      · simp only [List.size_toArray, List.length_append, List.length_take, List.length_drop]; omega
                      · rw [List.length_append]; omega
                      · have hg : ∀ k : Nat, (C.toList.take (d + o + n * i.size) ++ nv ++ C.toList.drop (d + o + n * i.size + nv.length)).toArray[k]? = (C.toList.take (d + o + n * i.size) ++ nv ++ C.toList.drop (d + o + n * i.size + nv.length))[k]? := fun k => by simp
                        rw [hg, List.append_assoc]
                        rw [List.getElem?_append] at hj ⊢
                        simp only [List.length_take] at hj ⊢
                        have hmin : min (d + o + n * i.size) C.toList.length = d + o + n * i.size := by omega
                        rw [hmin]
                        by_cases hjo : j < ov.length
                        · rw [if_pos hjo] at hj
                          rw [if_pos (by omega), List.getElem?_take, if_pos (by omega), Array.getElem?_toList]
                          have := o3 j u hj
                          simp only [World.cell?, g2] at this
                          simpa using this
                        · rw [if_neg hjo] at hj
                          have hjn := (List.getElem?_eq_some_iff.1 hj).1
                          rw [if_neg (by omega), List.getElem?_append_left (by omega), ← hj]
                          congr 1
                          omega
                    · have hfg := h.forget b
                      have hsrc' : Src P i.size tx ux m nv w := hS
                      have := grow_done (P := P) (ty := ty) (s := ⟨ers s.H b, s.nx⟩) hne hfg ht hi hz3 hzs hfirst o2 hoL hS hnv (by omega) hb1 hb2
                      obtain ⟨u, w', k1, k2⟩ := this
                      exact ⟨u, w', k1, Done.forget k2⟩
              · cases hr
            · cases hr
          · rename_i b z'
            split at hr
            · rename_i fe L hf
              split at hr
              · rename_i hcn
                obtain ⟨rfl, hb1, hb2, hm0, rfl⟩ := hcn
                cases hr
                obtain ⟨B, d, S, o', c', hb, rfl, hc⟩ := ha
                obtain ⟨B', d', S', C, g1, g2, g3, g4, g5⟩ := h.obj _ _ (fnd_mem hf)
                rw [hb] at g1
                cases g1
                have hfirst : (Builtin.firstCells i.size 0 (.slice (some ⟨B, o', none⟩) 0 c')).run P w.drew = .ok ([] : List Value).toArray w.drew := run_firstCells_some (P := P) w.drew i.size 0 _ 0 c' [] (by simp) (fun j v hv => by simp at hv)
                by_cases hmc : m ≤ c'
                · have hcS : o' + c' * i.size = S := hc.resolve_left (by omega)
                  have hrr := room_run (P := P) (ty := ty) (o := o') (n := 0) (c := c') (m := m) (S := S) ht hi g2 hS (by omega) g3 (by omega)
                  rw [Nat.zero_add, Nat.zero_mul, Nat.add_zero] at hrr
                  obtain ⟨hrun, hfit⟩ := hrr
                  have hCl : C.toList.length = C.size := Array.length_toList
                  refine ⟨_, _, hrun, ?_⟩
                  refine move_done (av := nv) hne h hf hb g2 ?_ ?_ hnv (fun j u hj => ?_) hmc hcS
                  · simp only [List.size_toArray, List.length_append, List.length_take, List.length_drop]; omega
                  · omega
                  · have hg : ∀ k : Nat, (C.toList.take o' ++ nv ++ C.toList.drop (o' + nv.length)).toArray[k]? = (C.toList.take o' ++ nv ++ C.toList.drop (o' + nv.length))[k]? := fun k => by simp
                    have hjn := (List.getElem?_eq_some_iff.1 hj).1
                    rw [hg, List.append_assoc, List.getElem?_append_right (by simp; omega), List.getElem?_append_left (by simp; omega), ← hj]
                    congr 1
                    simp
                    omega
                · have hfg := h.forget b
                  have := grow_done (P := P) (ty := ty) (s := ⟨ers s.H b, s.nx⟩) (n := 0) (m := m) (c := c') (olds := []) (ov := []) hne hfg ht hi hz3 hzs hfirst trivial (by simp) hS hnv (by omega) (by simpa using hb1) (by omega)
                  obtain ⟨u, w', k1, k2⟩ := this
                  refine ⟨u, w', k1, ?_⟩
                  have k3 := Done.forget k2
                  simpa [newA] using k3
              · cases hr
            · cases hr
          · cases hr
        · cases hr
      · cases hr
    · cases hr
  · cases hr
end
end Go.Proofs.YteigplfldhdakaaGreatDoor.Ev
/- A map's entries in turn. -/
namespace Go.Proofs.YteigplfldhdakaaGreatDoor.Ev
set_option linter.unusedVariables false
set_option linter.unusedSimpArgs false
open Go Go.RowKit
section
variable {P : Program} {γ : Pl} {s : AS} {w : World}
def rangeA (P : Program) (s : AS) (t : Nat) (x : AV) : Option (AV × AS) :=
  match x, mapTy P t with
  | .sc (.mp b), some _ => match fnd s.H b with
    | some (.map es) => some (.sc (.pt s.nx 0), ⟨(s.nx, .mit b es.length [] es.length) :: s.H, s.nx + 1⟩)
    | _ => none
  | _, _ => none
theorem range_ok {t : Nat} {x : AV} {u : Value} {r : AV × AS} (h : HR γ s w) (hx : RA γ x u) (hr : rangeA P s t x = some r) : ∃ u' w', (Instr.range t u).run P w = .ok u' w' ∧ Done γ s w r.1 r.2 u' w' := by
  unfold rangeA at hr
  split at hr
  · rename_i b ke hmt
    have hu := mapTy_some (k := ke.1) (e := ke.2) hmt
    split at hr
    · rename_i es hf
      cases hr
      obtain ⟨B, d, S, hb, rfl⟩ := hx
      obtain ⟨B', d', S', cs, h1, h2, h3⟩ := h.obj _ _ (fnd_mem hf)
      rw [hb] at h1
      cases h1
      have hsub := ext_sub (x := (w.heap.size, 0, 0)) (h.nxt _ (Nat.le_refl _))
      obtain ⟨k1, k2⟩ := HR.new (p := .mapIter (some B) es.length #[] es.length) (o := .mit b es.length [] es.length) (S := 0) h
        ⟨w.heap.size, 0, 0, B, d, S, ext_at _ _ _, hsub _ _ hb, rfl, by show (w.heap.push _)[w.heap.size]? = _; simp⟩
      refine ⟨_, _, ?_, _, k1, k2, w.heap.size, 0, 0, ext_at _ _ _, rfl⟩
      simp [Instr.range, run_underlying hu, MapKept.run_getObj_map h2, Result.andThen]
    · cases hr
  · cases hr
def leftA (n : Nat) (seen : List Nat) : List Nat := (List.range n).filter fun i => !seen.contains i
def keyE (k : Bool × List FV) : Bool × List SV := (k.1, k.2.map .f)
theorem all_f {γ : Pl} : ∀ (xs : List FV), All2 (RS γ) (xs.map .f) (xs.map FV.val)
  | [] => trivial
  | x :: xs => ⟨rfl, all_f xs⟩
def keyFit : Bool × List FV → Bool
  | (true, _) => true
  | (false, [_]) => true
  | _ => false
theorem keyE_rel {γ : Pl} {k : Bool × List FV} (hk : keyFit k = true) : RE γ (keyE k) (keyVal k) := by
  obtain ⟨b, xs⟩ := k
  cases b
  · cases xs with
    | nil => cases hk
    | cons x r => cases r with
      | nil => exact ⟨_, rfl, rfl⟩
      | cons y r => cases hk
  · exact ⟨xs.map FV.val, rfl, all_f xs⟩
def nextA (s : AS) (x : AV) : Option (List (AV × AS)) :=
  match x with
  | .sc (.pt b 0) => match fnd s.H b with
    | some (.mit m since seen stepped) => match fnd s.H m with
      | some (.map es) =>
        if since = es.length ∧ stepped = es.length then
          match leftA es.length seen with
          | [] => some [(.tu [(false, [.f (.bool false)])], s)]
          | ls => some (ls.filterMap fun i => match es[i]? with
            | some e => if keyFit e.1 then some (.tu [(false, [.f (.bool true)]), keyE e.1, e.2], ⟨(b, .mit m since (seen ++ [i]) stepped) :: ers s.H b, s.nx⟩) else none
            | none => none)
        else none
      | _ => none
    | _ => none
  | _ => none
def keysFit (s : AS) (x : AV) : Bool :=
  match x with
  | .sc (.pt b 0) => match fnd s.H b with
    | some (.mit m since seen stepped) => match fnd s.H m with
      | some (.map es) => es.all fun e => keyFit e.1
      | _ => true
    | _ => true
  | _ => true
theorem entsR_all {γ : Pl} : ∀ {n : Nat} {es : List Ent} {cs : List MapEntry}, entsR γ n es cs → ∀ c ∈ cs, ∃ i e, es[i]? = some e ∧ c.key = keyVal e.1 ∧ RE γ e.2 c.val ∧ c.born = n + i
  | _, [], [], _, c, hc => by cases hc
  | n, e :: es, c :: cs, h, c', hc => by
    rcases List.mem_cons.1 hc with rfl | h1
    · exact ⟨0, e, rfl, h.1.1, h.1.2.1, h.1.2.2⟩
    · obtain ⟨i, e', k1, k2, k3, k4⟩ := entsR_all h.2 c' h1
      exact ⟨i + 1, e', by simpa using k1, k2, k3, by omega⟩
  | _, [], _ :: _, h, _, _ => h.elim
  | _, _ :: _, [], h, _, _ => h.elim
theorem next_ok {ty : Nat} {x : AV} {u : Value} {outs : List (AV × AS)} (h : HR γ s w) (hx : RA γ x u) (hkf : keysFit s x = true) (hr : nextA s x = some outs) :
    ∃ v s' u' w', (v, s') ∈ outs ∧ (Instr.next u false ty).run P w = .ok u' w' ∧ Done γ s w v s' u' w' := by
  unfold nextA at hr
  unfold keysFit at hkf
  split at hr
  · rename_i b
    simp only at hkf
    split at hr
    · rename_i m since seen stepped hf
      rw [hf] at hkf
      simp only at hkf
      split at hr
      · rename_i es hfm
        rw [hfm] at hkf
        simp only at hkf
        split at hr
        · rename_i hc
          obtain ⟨rfl, rfl⟩ := hc
          obtain ⟨B, d, S, hb, rfl⟩ := hx
          obtain ⟨B', d', S', M, md, MS, g1, g2, g3, g4⟩ := h.obj _ _ (fnd_mem hf)
          rw [hb] at g1
          cases g1
          subst g3
          obtain ⟨M', md', MS', cs, k1, k2, k3⟩ := h.obj _ _ (fnd_mem hfm)
          rw [g2] at k1
          cases k1
          have hlen := entsR_len k3
          have hcsz : cs.size = es.length := by
            have : cs.toList.length = cs.size := Array.length_toList
            omega
          have hBl : B < w.heap.size := (Array.getElem?_eq_some_iff.1 g4).1
          -- nothing is new
          have hall := entsR_all k3
          have hborn : ∀ c ∈ cs.toList, c.born < es.length := fun c hc => by
            obtain ⟨i, e, q1, _, _, q4⟩ := hall c hc
            have := (List.getElem?_eq_some_iff.1 q1).1
            omega
          have hno : (!seen.toArray.isEmpty && !cs.isEmpty && cs.all (fun e => decide (e.born ≥ es.length))) = false := by
            cases hal : cs.all (fun e => decide (e.born ≥ es.length)) with
            | false => simp
            | true =>
              cases hce : cs.isEmpty with
              | true => simp
              | false =>
                exfalso
                have hpos : 0 < cs.size := by
                  rcases Nat.eq_zero_or_pos cs.size with h0 | h0
                  · rw [Array.isEmpty_iff_size_eq_zero.2 h0] at hce; cases hce
                  · exact h0
                have h1 := of_decide_eq_true (Array.all_eq_true.1 hal 0 hpos)
                have h2 := hborn cs[0] (by simp)
                omega
          obtain ⟨L, hL⟩ : ∃ L, cs.filter (fun e => !seen.toArray.contains e.born) = L := ⟨_, rfl⟩
          have hLm : ∀ c ∈ L, ∃ i e, es[i]? = some e ∧ c.key = keyVal e.1 ∧ RE γ e.2 c.val ∧ c.born = i ∧ i ∈ leftA es.length seen := fun c hc => by
            rw [← hL, Array.mem_filter] at hc
            obtain ⟨i, e, q1, q2, q3, q4⟩ := hall c (by simpa using hc.1)
            have hi := (List.getElem?_eq_some_iff.1 q1).1
            refine ⟨i, e, q1, q2, q3, by omega, ?_⟩
            unfold leftA
            rw [List.mem_filter]
            refine ⟨by simpa using hi, ?_⟩
            have h5 := hc.2
            rw [q4] at h5
            simpa using h5
          have hLe : ∀ i ∈ leftA es.length seen, ∃ c, c ∈ L := fun i hi => by
            unfold leftA at hi
            rw [List.mem_filter] at hi
            have hil : i < es.length := by simpa using hi.1
            obtain ⟨c, q1, q2, q3, q4⟩ := entsR_get k3 (List.getElem?_eq_getElem hil)
            refine ⟨c, ?_⟩
            rw [← hL, Array.mem_filter]
            refine ⟨by have := List.mem_of_getElem? q1; simpa using this, ?_⟩
            rw [q4]
            simpa using hi.2
          have hold : L.filter (fun e => decide (e.born < es.length)) = L := by
            rw [Array.filter_eq_self]
            intro c hc
            obtain ⟨i, e, q1, q2, q3, q4, q5⟩ := hLm c hc
            have hi := (List.getElem?_eq_some_iff.1 q1).1
            exact decide_eq_true (by omega)
          have hnew : L.filter (fun e => decide (e.born ≥ es.length)) = #[] := by
            rw [Array.filter_eq_empty_iff]
            intro c hc
            obtain ⟨i, e, q1, q2, q3, q4, q5⟩ := hLm c hc
            have hi := (List.getElem?_eq_some_iff.1 q1).1
            simp
            omega
          have e1 : (getObj B).run P w = .ok (.mapIter (some M) es.length seen.toArray es.length) w := by simp [getObj, Sem.run, g4]
          have e2 : (getObj M).run P w = .ok (.map cs es.length) w := MapKept.run_getObj_map k2
          have hrun : ∃ k w1, k < ((if L.isEmpty then #[none] else #[]) ++ L.map some).size ∧ (w1 = w ∨ w1 = w.drew) ∧ (Instr.next (.pointer (some ⟨B, 0, none⟩)) false ty).run P w = (match ((if L.isEmpty then #[none] else #[]) ++ L.map some)[k]? with
              | some (some e) => .ok (.tuple #[.bool true, e.key, e.val]) (w1.putObj B (.mapIter (some M) es.length (seen.toArray.push e.born) es.length))
              | some none => .ok (.tuple #[.bool false]) w1
              | none => .halt (.stuck "Next: no such candidate") w1) := by
            simp only [Instr.next, Sem.run_bind, e1, Result.andThen_ok, e2]
            rw [hL, hold, hnew, Array.append_empty]
            simp only [hno, Bool.false_eq_true, if_false]
            have hpos : 0 < ((if L.isEmpty then #[none] else #[]) ++ L.map some).size := by
              cases hLi : L.isEmpty with
              | true =>
                show 0 < ((#[none] : Array (Option MapEntry)) ++ L.map some).size
                rw [Array.size_append]
                show 0 < 1 + _
                omega
              | false =>
                rcases Nat.eq_zero_or_pos L.size with h0 | h0
                · rw [Array.isEmpty_iff_size_eq_zero.2 h0] at hLi; cases hLi
                · simp; exact h0
            generalize ((if L.isEmpty then #[none] else #[]) ++ L.map some) = cd at hpos ⊢
            obtain ⟨k, w1, hk, hw1, hch⟩ : ∃ k w1, k < cd.size ∧ (w1 = w ∨ w1 = w.drew) ∧ (choose (.mapNext cd.size)).run P w = .ok k w1 := by
              by_cases hf1 : cd.size ≤ 1
              · exact ⟨0, w, hpos, .inl rfl, by simp [choose, Sem.run, Question.forced, hf1]⟩
              · exact ⟨w.tape w.drawn (.mapNext cd.size) % cd.size, w.drew, Nat.mod_lt _ hpos, .inr rfl, by simp [choose, Sem.run, Question.forced, hf1, Question.cut]⟩
            refine ⟨k, w1, hk, hw1, ?_⟩
            have hw1B : w1.heap[B]? = some (.mapIter (some M) es.length seen.toArray es.length) := by rcases hw1 with rfl | rfl <;> exact g4
            simp only [Sem.run_bind, hch, Result.andThen_ok]
            generalize cd[k]? = q
            rcases q with _ | _ | e
            · rfl
            · rfl
            · simp [setObj, Sem.run, hw1B, World.putObj]
          obtain ⟨k, w1, hk, hw1, hrn⟩ := hrun
          rw [hrn]
          have hh1 : HR γ s w1 := by rcases hw1 with rfl | rfl; exact h; exact h.drew
          have hfr : ∀ {γ' s' w'}, Fr γ s w1 γ' s' w' → Fr γ s w γ' s' w' := by rcases hw1 with rfl | rfl; exact fun h => h; exact fun h => Fr.of_drew h
          cases hLi : L.isEmpty with
          | true =>
            have hL0 : L = #[] := Array.isEmpty_iff.1 hLi
            subst hL0
            have hk0 : k = 0 := by rw [hLi] at hk; simpa using hk
            subst hk0
            have hle : leftA es.length seen = [] := by
              cases hq : leftA es.length seen with
              | nil => rfl
              | cons i r => obtain ⟨c, hc⟩ := hLe i (by rw [hq]; exact List.mem_cons_self ..); simp at hc
            rw [hle] at hr
            cases hr
            exact ⟨_, _, .tuple #[.bool false], w1, List.mem_cons_self .., by simp, ⟨γ, hh1, hfr (Fr.refl _ _ _), [.bool false], rfl, ⟨_, rfl, rfl⟩, trivial⟩⟩
          | false =>
            rw [hLi] at hk
            simp only [Bool.false_eq_true, if_false, Array.empty_append, Array.size_map] at hk
            have hget : (L.map some)[k]? = some (some L[k]) := by simp [hk]
            simp only [Bool.false_eq_true, if_false, Array.empty_append, hget]
            obtain ⟨i, e, q1, q2, q3, q4, q5⟩ := hLm L[k] (by simp)
            have hfe := List.all_eq_true.1 hkf e (List.mem_of_getElem? q1)
            rw [q4]
            obtain ⟨c1, c2⟩ := HR.upd (o' := .mit m es.length (seen ++ [i]) es.length) (w' := w1.putObj B (.mapIter (some M) es.length (seen.toArray.push i) es.length)) hh1 (fnd_mem hf) hb (Sub.refl _) hb (.inl rfl) (by simp [World.putObj]) (fun k hk => World.putObj_heap_other hk)
              ⟨B, _, S, M, _, _, hb, g2, rfl, by rw [World.putObj_heap_same (by rcases hw1 with rfl | rfl <;> exact hBl)]; simp⟩ h.nxt ⟨rfl, rfl, rfl⟩ (fun _ _ h => .inl h) (Nat.le_refl _)
            refine ⟨.tu [(false, [.f (.bool true)]), keyE e.1, e.2], _, _, _, ?_, rfl, ⟨γ, c1, hfr c2, [.bool true, L[k].key, L[k].val], rfl, ⟨_, rfl, rfl⟩, by rw [q2]; exact keyE_rel hfe, q3, trivial⟩⟩
            revert hr
            cases hq : leftA es.length seen with
            | nil => rw [hq] at q5; cases q5
            | cons a r =>
              intro hr
              cases hr
              rw [hq] at q5
              rw [List.mem_filterMap]
              exact ⟨i, q5, by simp [q1, hfe]⟩
        · cases hr
      · cases hr
    · cases hr
  · cases hr
def entryA (s : AS) (x : AV) : Option AV :=
  match x with
  | .sc (.pt b 0) => match fnd s.H b with
    | some (.mit m since seen stepped) => match fnd s.H m with
      | some (.map es) =>
        if stepped = es.length then
          match seen.getLast? with
          | some i => match es[i]? with
            | some e => if keyFit e.1 then some (.tu [keyE e.1, e.2]) else none
            | none => none
          | none => none
        else none
      | _ => none
    | _ => none
  | _ => none
theorem entry_ok {x r : AV} {u : Value} (h : HR γ s w) (hx : RA γ x u) (hr : entryA s x = some r) : ∃ u', (Instr.entry u).run P w = .ok u' w ∧ RA γ r u' := by
  unfold entryA at hr
  split at hr
  · rename_i b
    split at hr
    · rename_i m since seen stepped hf
      split at hr
      · rename_i es hfm
        split at hr
        · rename_i hc
          subst hc
          split at hr
          · rename_i i hi
            split at hr
            · rename_i e he
              split at hr
              · rename_i hk
                cases hr
                obtain ⟨B, d, S, hb, rfl⟩ := hx
                obtain ⟨B', d', S', M, md, MS, g1, g2, g3, g4⟩ := h.obj _ _ (fnd_mem hf)
                rw [hb] at g1
                cases g1
                subst g3
                obtain ⟨M', md', MS', cs, k1, k2, k3⟩ := h.obj _ _ (fnd_mem hfm)
                rw [g2] at k1
                cases k1
                obtain ⟨c, q1, q2, q3, q4⟩ := entsR_get k3 he
                have hall := entsR_all k3
                have e1 : (getObj B).run P w = .ok (.mapIter (some M) since seen.toArray es.length) w := by simp [getObj, Sem.run, g4]
                have e2 : (getObj M).run P w = .ok (.map cs es.length) w := MapKept.run_getObj_map k2
                have e3 : seen.toArray.back? = some i := by rw [List.back?_toArray]; exact hi
                have e4 : cs.find? (fun e => e.born == i) = some c := by
                  rw [← Array.find?_toList]
                  have hborn : ∀ (j : Nat) (c' : MapEntry), cs.toList[j]? = some c' → c'.born = j := fun j c' hj => by
                    have hjl := (List.getElem?_eq_some_iff.1 hj).1
                    rw [entsR_len k3] at hjl
                    obtain ⟨c2, p1, _, _, p4⟩ := entsR_get k3 (List.getElem?_eq_getElem hjl)
                    rw [hj] at p1
                    cases p1
                    omega
                  rw [List.find?_eq_some_iff_getElem]
                  obtain ⟨hl, hce⟩ := List.getElem?_eq_some_iff.1 q1
                  refine ⟨by simp; omega, i, hl, hce, fun j hj => ?_⟩
                  have := hborn j _ (List.getElem?_eq_getElem (by omega))
                  rw [this]
                  simp
                  omega
                refine ⟨.tuple #[c.key, c.val], ?_, [c.key, c.val], rfl, by rw [q2]; exact keyE_rel hk, q3, trivial⟩
                simp [Instr.entry, e1, e2, hi, e4]
              · cases hr
            · cases hr
          · cases hr
        · cases hr
      · cases hr
    · cases hr
  · cases hr
end
end Go.Proofs.YteigplfldhdakaaGreatDoor.Ev
/- Such a map's entries in turn, whatever the order. -/
namespace Go.Proofs.YteigplfldhdakaaGreatDoor
set_option linter.unusedVariables false
set_option linter.unusedSimpArgs false
open Go Go.RowKit Go.Proofs.YteigplfldhdakaaGreatDoor.Ev
def MIt (W : World) (It Bm n : Nat) (seen : List Nat) : Prop := W.heap[It]? = some (.mapIter (some Bm) n seen.toArray n)
def entB (b : Blk) : Ent := ((true, [.str b.1.data.toList, .str b.2.1.data.toList]), (false, [.f (.int .i64 b.2.2)]))
theorem ents_rel (γ : Pl) : ∀ (T : List Blk) (n : Nat), entsR γ n (T.map entB) (entsF n T)
  | [], n => trivial
  | b :: r, n => ⟨⟨rfl, ⟨_, rfl, rfl⟩, rfl⟩, ents_rel γ r (n + 1)⟩
theorem ents_eq {γ : Pl} : ∀ {T : List Blk} {n : Nat} {cs : List MapEntry}, entsR γ n (T.map entB) cs → cs = entsF n T
  | [], n, [], _ => rfl
  | b :: r, n, c :: cs, h => by
    have h2 := ents_eq h.2
    obtain ⟨⟨h3, ⟨x, hx, h4⟩, h5⟩, _⟩ := h
    obtain ⟨ck, cv, cb⟩ := c
    cases hx
    have h4 : cv = .int .i64 b.2.2 := h4
    have h3 : ck = twoS b.1 b.2.1 := h3
    have h5 : cb = n := h5
    rw [entsF, h2, h3, h4, h5]
    rfl
  | [], n, _ :: _, h => h.elim
  | _ :: _, n, [], h => h.elim
def pl2 (It Bm : Nat) : Pl := fun k => if k = 0 then some (It, 0, 0) else if k = 1 then some (Bm, 0, 0) else none
def as2 (T : List Blk) (seen : List Nat) : AS := ⟨[(0, .mit 1 T.length seen T.length), (1, .map (T.map entB))], 2⟩
theorem hr2 {W : World} {It Bm : Nat} {T : List Blk} {seen : List Nat} (hM : MapAt W Bm T) (hI : MIt W It Bm T.length seen) (hne : It ≠ Bm) : HR (pl2 It Bm) (as2 T seen) W := by
  refine ⟨fun b o hb => ?_, by simp [as2], fun b b' x y h1 h2 h3 h4 h5 => ?_, fun k hk => ?_⟩
  · rcases List.mem_cons.1 hb with h | h
    · cases h
      exact ⟨It, 0, 0, Bm, 0, 0, rfl, rfl, rfl, hI⟩
    · rcases List.mem_cons.1 h with h | h
      · cases h
        refine ⟨Bm, 0, 0, (entsF 0 T).toArray, rfl, ?_, ents_rel _ T 0⟩
        rw [List.length_map]
        exact hM
      · cases h
  · have hk : ∀ b, b ∈ (as2 T seen).H.map (·.1) → b = 0 ∨ b = 1 := fun b hb => by simpa [as2] using hb
    rcases hk b h1 with rfl | rfl <;> rcases hk b' h2 with rfl | rfl
    · exact absurd rfl h3
    · cases h4; cases h5; exact hne
    · cases h4; cases h5; exact fun e => hne e.symm
    · exact absurd rfl h3
  · have hk : 2 ≤ k := hk
    unfold pl2
    rw [if_neg (by omega), if_neg (by omega)]
/-- what a step leaves alone -/
structure StepK (It Bm : Nat) (T : List Blk) (W w' : World) : Prop where
  same : w'.os = W.os ∧ w'.tape = W.tape ∧ w'.output = W.output
  size : W.heap.size ≤ w'.heap.size
  keep : ∀ k, k < W.heap.size → k ≠ It → k ≠ Bm → w'.heap[k]? = W.heap[k]?
  map : MapAt w' Bm T
theorem next_m {W : World} {It Bm : Nat} {T : List Blk} {seen : List Nat} (hM : MapAt W Bm T) (hI : MIt W It Bm T.length seen) (hne : It ≠ Bm) (ty : Nat) :
    ∃ u w', (Instr.next (.pointer (some ⟨It, 0, none⟩)) false ty).run Tryz.prog W = .ok u w' ∧ StepK It Bm T W w' ∧
      (((∀ i, i < T.length → i ∈ seen) ∧ u = .tuple #[.bool false] ∧ MIt w' It Bm T.length seen) ∨
       (∃ (i : Nat) (hi : i < T.length), i ∉ seen ∧ u = .tuple #[.bool true, twoS T[i].1 T[i].2.1, .int .i64 T[i].2.2] ∧ MIt w' It Bm T.length (seen ++ [i]))) := by
  have hH := hr2 hM hI hne
  have hkf : keysFit (as2 T seen) (.sc (.pt 0 0)) = true := by
    show (T.map entB).all (fun e => keyFit e.1) = true
    rw [List.all_map]
    exact List.all_eq_true.2 fun b _ => rfl
  have hpos : ∃ outs, nextA (as2 T seen) (.sc (.pt 0 0)) = some outs ∧ ∀ v s', (v, s') ∈ outs → (leftA T.length seen = [] ∧ v = .tu [(false, [.f (.bool false)])] ∧ s' = as2 T seen) ∨
      (∃ (i : Nat) (hi : i < T.length), i ∈ leftA T.length seen ∧ v = .tu [(false, [.f (.bool true)]), keyE (entB T[i]).1, (entB T[i]).2] ∧ s' = as2 T (seen ++ [i])) := by
    unfold nextA
    simp only [as2, fnd, beq_self_eq_true, if_true, show ((0 : Nat) == 1) = false from rfl, Bool.false_eq_true, if_false, List.length_map, and_self]
    cases hq : leftA T.length seen with
    | nil => exact ⟨_, rfl, fun v s' h => by
        rcases List.mem_cons.1 h with h | h
        · cases h; exact .inl ⟨rfl, rfl, rfl⟩
        · cases h⟩
    | cons a r =>
      refine ⟨_, rfl, fun v s' h => ?_⟩
      obtain ⟨i, hi, he⟩ := List.mem_filterMap.1 h
      rw [List.getElem?_map] at he
      by_cases hil : i < T.length
      · rw [List.getElem?_eq_getElem hil] at he
        simp only [Option.map_some] at he
        rw [if_pos (show keyFit (entB T[i]).1 = true from rfl)] at he
        cases he
        exact .inr ⟨i, hil, hi, rfl, rfl⟩
      · rw [List.getElem?_eq_none (by omega)] at he
        cases he
  obtain ⟨outs, ho, hall⟩ := hpos
  obtain ⟨v, s', u, w', h1, h2, h3⟩ := next_ok (P := Tryz.prog) (ty := ty) (u := .pointer (some ⟨It, 0, none⟩)) hH (x := .sc (.pt 0 0)) ⟨It, 0, 0, rfl, rfl⟩ hkf ho
  obtain ⟨γ', k1, k2, k3⟩ := h3
  have g0 : γ' 0 = some (It, 0, 0) := k2.sub 0 _ rfl
  have g1 : γ' 1 = some (Bm, 0, 0) := k2.sub 1 _ rfl
  have hkeep : ∀ k, k < W.heap.size → k ≠ It → k ≠ Bm → w'.heap[k]? = W.heap[k]? := fun k hk h4 h5 => k2.keep k hk fun ⟨q, d, z, q1, q2⟩ => by
    have : q = 0 ∨ q = 1 := by simpa [as2] using q1
    rcases this with rfl | rfl
    · cases q2; exact h4 rfl
    · cases q2; exact h5 rfl
  have hst : ∀ seen', s' = as2 T seen' → StepK It Bm T W w' ∧ MIt w' It Bm T.length seen' := fun seen' e => by
    subst e
    obtain ⟨B, d, S, M, d', S', q1, q2, q3, q4⟩ := k1.obj 0 (.mit 1 T.length seen' T.length) (List.mem_cons_self ..)
    rw [g0] at q1
    rw [g1] at q2
    cases q1
    cases q2
    obtain ⟨B, d, S, es, p1, p2, p3⟩ := k1.obj 1 (.map (T.map entB)) (List.mem_cons_of_mem _ (List.mem_cons_self ..))
    rw [g1] at p1
    cases p1
    have e2 := ents_eq p3
    refine ⟨⟨k2.same, k2.size, hkeep, ?_⟩, q4⟩
    unfold MapAt
    rw [p2, List.length_map]
    congr 2
    rw [← e2]
  refine ⟨u, w', h2, ?_⟩
  rcases hall v s' h1 with ⟨hl, rfl, rfl⟩ | ⟨i, hi, him, rfl, rfl⟩
  · obtain ⟨c1, c2⟩ := hst seen rfl
    refine ⟨c1, .inl ⟨fun i hi => ?_, ?_, c2⟩⟩
    · by_cases hs : i ∈ seen
      · exact hs
      · exfalso
        have : i ∈ leftA T.length seen := by
          unfold leftA
          rw [List.mem_filter]
          exact ⟨by simpa using hi, by simpa using hs⟩
        rw [hl] at this
        cases this
    · obtain ⟨us, rfl, hr⟩ := k3
      match us, hr with
      | [u0], hr =>
        obtain ⟨x, hx, h4⟩ := hr.1
        cases hx
        have h4 : u0 = .bool false := h4
        rw [h4]
      | [], hr => exact hr.elim
      | _ :: _ :: _, hr => exact hr.2.elim
  · obtain ⟨c1, c2⟩ := hst (seen ++ [i]) rfl
    refine ⟨c1, .inr ⟨i, hi, ?_, ?_, c2⟩⟩
    · unfold leftA at him
      rw [List.mem_filter] at him
      simpa using him.2
    · obtain ⟨us, rfl, hr⟩ := k3
      match us, hr with
      | [u0, u1, u2], hr =>
        obtain ⟨x, hx, h4⟩ := hr.1
        cases hx
        obtain ⟨ks, rfl, hks⟩ := hr.2.1
        obtain ⟨y, hy, h6⟩ := hr.2.2.1
        cases hy
        have h4 : u0 = .bool true := h4
        have h6 : u2 = .int .i64 T[i].2.2 := h6
        match ks, hks with
        | [a, b], hks =>
          have e1 : a = .string T[i].1 := hks.1
          have e2 : b = .string T[i].2.1 := hks.2.1
          rw [h4, h6, e1, e2]
          rfl
        | [], hks => exact hks.elim
        | [_], hks => exact hks.2.elim
        | _ :: _ :: _ :: _, hks => exact hks.2.2.elim
      | [], hr => exact hr.elim
      | [_], hr => exact hr.2.elim
      | [_, _], hr => exact hr.2.2.elim
      | _ :: _ :: _ :: _ :: _, hr => exact hr.2.2.2.elim
theorem entry_m {W : World} {It Bm : Nat} {T : List Blk} {seen : List Nat} {i : Nat} (hM : MapAt W Bm T) (hI : MIt W It Bm T.length (seen ++ [i])) (hne : It ≠ Bm) (hi : i < T.length) :
    (Instr.entry (.pointer (some ⟨It, 0, none⟩))).run Tryz.prog W = .ok (.tuple #[twoS T[i].1 T[i].2.1, .int .i64 T[i].2.2]) W := by
  have hH := hr2 hM hI hne
  have he : entryA (as2 T (seen ++ [i])) (.sc (.pt 0 0)) = some (.tu [keyE (entB T[i]).1, (entB T[i]).2]) := by
    unfold entryA
    simp only [as2, fnd, beq_self_eq_true, if_true, show ((0 : Nat) == 1) = false from rfl, Bool.false_eq_true, if_false, List.length_map, List.getLast?_append, List.getLast?_singleton, Option.some_or, List.getElem?_map, List.getElem?_eq_getElem hi, Option.map_some]
    rw [if_pos (show keyFit (entB T[i]).1 = true from rfl)]
  obtain ⟨u, h1, h2⟩ := entry_ok (P := Tryz.prog) (u := .pointer (some ⟨It, 0, none⟩)) hH (x := .sc (.pt 0 0)) ⟨It, 0, 0, rfl, rfl⟩ he
  rw [h1]
  obtain ⟨us, rfl, hr⟩ := h2
  match us, hr with
  | [u1, u2], hr =>
    obtain ⟨ks, rfl, hks⟩ := hr.1
    obtain ⟨y, hy, h6⟩ := hr.2.1
    cases hy
    have h6 : u2 = .int .i64 T[i].2.2 := h6
    match ks, hks with
    | [a, b], hks =>
      have e1 : a = .string T[i].1 := hks.1
      have e2 : b = .string T[i].2.1 := hks.2.1
      rw [h6, e1, e2]
      rfl
    | [], hks => exact hks.elim
    | [_], hks => exact hks.2.elim
    | _ :: _ :: _ :: _, hks => exact hks.2.2.elim
  | [], hr => exact hr.elim
  | [_], hr => exact hr.2.elim
  | _ :: _ :: _ :: _, hr => exact hr.2.2.elim
theorem range_m {W : World} {Bm : Nat} {T : List Blk} (hM : MapAt W Bm T) : (Instr.range 67 (.map (some Bm))).run Tryz.prog W = .ok (.pointer (some ⟨W.heap.size, 0, none⟩)) (W.alloc (.mapIter (some Bm) T.length #[] T.length)) := by
  simp [Instr.range, run_underlying Tryz.underlying67, MapKept.run_getObj_map hM, Result.andThen]
end Go.Proofs.YteigplfldhdakaaGreatDoor
/- TopBlocks, plain: the rules of a table are its entries seen often enough. -/
namespace Go.Proofs.YteigplfldhdakaaGreatDoor
set_option linter.unusedVariables false
set_option linter.unusedSimpArgs false
theorem one_ofF {L : List Stp} {b : Blk} (h : b ∈ ofF L) : b.2.2 = 1 := by
  unfold ofF at h
  obtain ⟨x, _, hr⟩ := List.mem_filterMap.1 h
  unfold rowB at hr
  split at hr
  · cases hr; rfl
  · cases hr
theorem one_pairM {a t : ByteArray} {b : Blk} (h : b ∈ pairM a t) : b.2.2 = 1 := one_ofF h
theorem same_of_apart {T : List Blk} (h : T.Pairwise apart) {x y : Blk} (hx : x ∈ T) (hy : y ∈ T) (h1 : x.1 = y.1) (h2 : x.2.1 = y.2.1) : x = y := by
  obtain ⟨i, hi, rfl⟩ := List.mem_iff_getElem.1 hx
  obtain ⟨j, hj, rfl⟩ := List.mem_iff_getElem.1 hy
  rw [List.pairwise_iff_getElem] at h
  rcases Nat.lt_trichotomy i j with h3 | h3 | h3
  · exact absurd ⟨h1, h2⟩ (h i j hi hj h3)
  · subst h3; rfl
  · exact absurd ⟨h1.symm, h2.symm⟩ (h j i hj hi h3)
theorem tabL_apart (K : List Blk) : (tabL K).Pairwise apart := apart_fold K [] List.Pairwise.nil
/-- **a rule is there just if its block was seen often enough** -/
theorem hasR_iff {M K : List Blk} {n : Int} (hp : M.Perm (tabL K)) {x : Blk} (hx : x ∈ tabL K) : hasR (makeR M n) x.1 x.2.1 ↔ n ≤ x.2.2 := by
  constructor
  · rintro ⟨b, hb, h1, h2⟩
    obtain ⟨y, hy, hn, rfl⟩ := makeR_mem.1 hb
    have := same_of_apart (tabL_apart K) (hp.mem_iff.1 hy) hx h1 h2
    rw [← this]
    exact hn
  · intro hn
    exact ⟨_, makeR_mem.2 ⟨x, hp.mem_iff.2 hx, hn, rfl⟩, rfl, rfl⟩
theorem makeR_len {M T : List Blk} {n : Int} (hp : M.Perm T) : (makeR M n).length = (T.filter fun b => decide (n ≤ b.2.2)).length := by
  unfold makeR makeG
  rw [List.length_map]
  exact (hp.filter _).length_eq
/-- entry i counts -/
def oft (T : List Blk) (n : Int) (i : Nat) : Bool := decide (n ≤ (T.getD i blk0).2.2)
def seenN (T : List Blk) (n : Int) (seen : List Nat) : Nat := (seen.filter (oft T n)).length
theorem seenN_snoc (T : List Blk) (n : Int) (seen : List Nat) (i : Nat) : seenN T n (seen ++ [i]) = seenN T n seen + if oft T n i = true then 1 else 0 := by
  unfold seenN
  rw [List.filter_append, List.length_append]
  congr 1
  by_cases h : oft T n i = true
  · rw [if_pos h]; simp [h]
  · rw [if_neg h]; simp [h]
theorem range_map (T : List Blk) : (List.range T.length).map (fun i => T.getD i blk0) = T := by
  apply List.ext_getElem
  · simp
  · intro i h1 h2
    simp [List.getD_eq_getElem?_getD, h2]
theorem seenN_all {T : List Blk} {n : Int} {seen : List Nat} (hn : seen.Nodup) (hl : ∀ i ∈ seen, i < T.length) (hall : ∀ i, i < T.length → i ∈ seen) : seenN T n seen = (T.filter fun b => decide (n ≤ b.2.2)).length := by
  have hp : seen.Perm (List.range T.length) := (List.perm_ext_iff_of_nodup hn List.nodup_range).2 fun i => ⟨fun h => by simpa using hl i h, fun h => hall i (by simpa using h)⟩
  unfold seenN
  rw [(hp.filter _).length_eq]
  conv => rhs; rw [← range_map T]
  rw [List.filter_map, List.length_map]
  rfl
theorem seen_len {T : List Blk} {seen : List Nat} (hn : seen.Nodup) (hl : ∀ i ∈ seen, i < T.length) : seen.length ≤ T.length := by
  have hp : seen.Perm ((List.range T.length).filter fun i => decide (i ∈ seen)) := (List.perm_ext_iff_of_nodup hn (List.nodup_range.filter _)).2 fun i => ⟨fun h => List.mem_filter.2 ⟨by simpa using hl i h, by simpa using h⟩, fun h => by simpa using (List.mem_filter.1 h).2⟩
  rw [hp.length_eq]
  exact Nat.le_trans (List.length_filter_le _ _) (by simp)
theorem seenN_le (T : List Blk) (n : Int) (seen : List Nat) : seenN T n seen ≤ seen.length := List.length_filter_le _ _
end Go.Proofs.YteigplfldhdakaaGreatDoor
