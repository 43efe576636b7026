/- append, all ways. -/
import Derived.Test.YteigplfldhdakaaGreatDoorD16
import Derived.Test.YteigplfldhdakaaGreatDoorD15
import Derived.Lib.RuneBytes
import Derived.Test.YteigplfldhdakaaGreatDoorD10
import Derived.Shelf.SlSortCmp.PdqK
import Derived.Sort.LotA
set_option linter.unusedVariables false
set_option linter.unusedSimpArgs false
namespace Go.Proofs.YteigplfldhdakaaGreatDoor.Ev
open Go Go.RowKit
section
variable {P : Program} {γ : Pl} {s : AS} {w : World}
/-- in place, but the old slice is given up: a new number for the same cells -/
theorem move_done {b B d S q c fe : Nat} {L : List SV} {C : Array Value} {all : List SV} {av : List Value} {C' : Array Value} {z n : Nat} (hfe : fe ≠ 121) (h : HR γ s w) (hf : fnd s.H b = some (.cells fe L)) (hb : γ b = some (B, d, S)) (hB : w.heap[B]? = some (.cells C fe (0, 0)))
    (hC : C'.size = S) (hq : q + all.length ≤ S) (hav : All2 (RS γ) all av) (hin : ∀ i u, av[i]? = some u → C'[q + i]? = some u) (hn : n ≤ c) (hc : q + c * z = S) :
    Done γ s w (.sc (.sl s.nx 0 n none z)) ⟨(s.nx, .cells fe all) :: ers s.H b, s.nx + 1⟩ (.slice (some ⟨B, q, none⟩) n c) (w.setRow B C') := by
  have hsub := ext_sub (x := (B, q, S)) (h.nxt _ (Nat.le_refl _))
  obtain ⟨k1, k2⟩ := row_upd (γ' := ext γ s.nx (B, q, S)) (b' := s.nx) (nx' := s.nx + 1) (L' := all) h hf hb hB hsub (ext_at _ _ _) (.inr h.fresh) hC ⟨hq, fun h => absurd h hfe⟩ (fun i x hx => by
    obtain ⟨u, h1, h2⟩ := All2.get i hav hx
    exact ⟨u, hin i u h1, h2⟩) (ext_nx h.nxt) ext_ids (Nat.le_succ _)
  exact ⟨_, k1, k2, B, q, S, c, ext_at _ _ _, by simp, hn, by simpa using hc⟩
/-- a new row, the old slice given up -/
theorem Done.forget {b : Nat} {v : AV} {s' : AS} {u : Value} {w' : World} (h : Done γ ⟨ers s.H b, s.nx⟩ w v s' u w') : Done γ s w v s' u w' := by
  obtain ⟨γ', h1, h2, h3⟩ := h
  exact ⟨γ', h1, Fr.of_forget h2, h3⟩
set_option maxHeartbeats 1000000 in
theorem app_ok {t tx ty : Nat} {a x : AV} {ua ux : Value} {r : AV × AS} (h : HR γ s w) (ha : RA γ a ua) (hx : RA γ x ux) (hr : appA P s t tx a x = some r) :
    ∃ u w', (Builtin.append_ #[t, tx] ty #[ua, ux]).run P w = .ok u w' ∧ Done γ s w r.1 r.2 u w' := by
  unfold appA at hr
  split at hr
  · rename_i e he
    have ht := elemP_some he
    split at hr
    · rename_i z Lz by_ hz hLz hby
      split at hr
      · rename_i hcz
        obtain ⟨hcz1, hcz2, hne⟩ := hcz
        obtain ⟨i, hi, his⟩ := Option.map_eq_some_iff.1 hz
        obtain ⟨zv, hz1, hz2⟩ := zL_rel hLz γ
        obtain ⟨i', hi', hz3⟩ := Option.bind_eq_some_iff.1 hz1
        obtain ⟨i'', hi'', hb2⟩ := Option.map_eq_some_iff.1 hby
        rw [hi] at hi' hi''
        cases hi'
        cases hi''
        subst his
        subst hb2
        have hzs : zv.cells.size = i.size := by rw [All2.size hz2]; exact hcz1
        split at hr
        · rename_i m news hsrc
          obtain ⟨nv, hnv, hS⟩ := src_ok (P := P) h hx hsrc
          have hnl := hS.newsLen
          have hnn := All2.len hnv
          split at hr
          · have hua : ua = .slice none 0 0 := ha
            subst hua
            split at hr
            · rename_i hm
              subst hm
              cases hr
              have : nv = [] := List.eq_nil_of_length_eq_zero (by omega)
              subst this
              exact ⟨_, _, run_append_nothing (P := P) w t tx ty e i ht hi none 0 0 (Nat.le_refl _) ux hS, Done.quiet h rfl⟩
            · rename_i hm
              split at hr
              · rename_i hc
                cases hr
                have := grow_done (P := P) (ty := ty) (base := none) (n := 0) (c := 0) (olds := []) (ov := []) hne h ht hi hz3 hzs (run_firstCells_none w.drew i.size 0 0 0) trivial (by simp) hS hnv (by omega) (by simpa using hc.1) (by omega)
                simpa using this
              · cases hr
          · rename_i b o n c z'
            split at hr
            · rename_i fe L hf
              split at hr
              · rename_i hcn
                obtain ⟨rfl, hb1, hb2, hol⟩ := hcn
                obtain ⟨B, d, S, c', hb, rfl, hn, hc⟩ := ha
                obtain ⟨B', d', S', C, g1, g2, g3, g4, g5⟩ := h.obj _ _ (fnd_mem hf)
                rw [hb] at g1
                cases g1
                obtain ⟨ov, o1, o2, o3⟩ := OR.range (h.obj _ _ (fnd_mem hf)) hb hol
                have hoL : ((L.drop o).take (n * i.size)).length = n * i.size := by rw [List.length_take, List.length_drop]; omega
                have hfirst : (Builtin.firstCells i.size n (.slice (some ⟨B, d + o, none⟩) n c')).run P w.drew = .ok ov.toArray w.drew := run_firstCells_some (P := P) w.drew i.size n _ n c' ov o1 (fun j v hv => by rw [Addr.add_mid]; exact o3 j v hv)
                have hnm : (n + m) * i.size = n * i.size + m * i.size := Nat.add_mul ..
                have hcS : d + o + c' * i.size ≤ S := by
                  cases c with
                  | none => simp only at hc; omega
                  | some c0 => obtain ⟨rfl, hc2⟩ := hc; exact hc2
                split at hr
                · rename_i hroom
                  obtain ⟨hr1, hr2⟩ := hroom
                  cases hr
                  have hmc : n + m ≤ c' := by
                    cases c with
                    | none =>
                      simp only at hc
                      have h2 : (n + m) * i.size ≤ c' * i.size := by omega
                      exact Nat.le_of_mul_le_mul_right h2 hcz2
                    | some c0 => obtain ⟨rfl, hc2⟩ := hc; simpa using hr2
                  obtain ⟨hrun, _⟩ := room_run (P := P) (ty := ty) ht hi g2 hS hmc g3 hcS
                  have hl2 : o + n * i.size + news.length ≤ L.length := by omega
                  obtain ⟨C2, q1, q2, q3, q4⟩ := row_done h hf hb hl2 hnv
                  rw [g2] at q1
                  cases q1
                  rw [Nat.add_assoc d o] at hrun
                  refine ⟨_, _, hrun, γ, q4.1, q4.2, B, d, S, c', hb, rfl, hmc, hc⟩
                · rename_i hroom
                  split at hr
                  · rename_i c0
                    obtain ⟨rfl, hc2⟩ := hc
                    split at hr
                    · rename_i hlt
                      cases hr
                      exact grow_done (P := P) (ty := ty) hne h ht hi hz3 hzs hfirst o2 hoL hS hnv hlt hb1 hb2
                    · cases hr
                  · split at hr
                    case isFalse => cases hr
                    rename_i hte
                    subst hte
                    cases hr
                    simp only at hc
                    by_cases hmc : n + m ≤ c'
                    · obtain ⟨hrun, hfit⟩ := room_run (P := P) (ty := ty) ht hi g2 hS hmc g3 hcS
                      refine ⟨_, _, hrun, ?_⟩
                      have hCl : C.toList.length = C.size := Array.length_toList
                      have hovl : ov.length = n * i.size := o1
                      refine move_done (av := ov ++ nv) hne h hf hb g2 ?_ ?_ (All2.app o2 hnv) (fun j u hj => ?_) hmc hc
                      · simp only [List.size_toArray, List.length_append, List.length_take, List.length_drop]; omega
                      · rw [List.length_append]; omega
                      · have hg : ∀ k : Nat, (C.toList.take (d + o + n * i.size) ++ nv ++ C.toList.drop (d + o + n * i.size + nv.length)).toArray[k]? = (C.toList.take (d + o + n * i.size) ++ nv ++ C.toList.drop (d + o + n * i.size + nv.length))[k]? := fun k => by simp
                        rw [hg, List.append_assoc]
                        rw [List.getElem?_append] at hj ⊢
                        simp only [List.length_take] at hj ⊢
                        have hmin : min (d + o + n * i.size) C.toList.length = d + o + n * i.size := by omega
                        rw [hmin]
                        by_cases hjo : j < ov.length
                        · rw [if_pos hjo] at hj
                          rw [if_pos (by omega), List.getElem?_take, if_pos (by omega), Array.getElem?_toList]
                          have := o3 j u hj
                          simp only [World.cell?, g2] at this
                          simpa using this
                        · rw [if_neg hjo] at hj
                          have hjn := (List.getElem?_eq_some_iff.1 hj).1
                          rw [if_neg (by omega), List.getElem?_append_left (by omega), ← hj]
                          congr 1
                          omega
                    · have hfg := h.forget b
                      have hsrc' : Src P i.size tx ux m nv w := hS
                      have := grow_done (P := P) (ty := ty) (s := ⟨ers s.H b, s.nx⟩) hne hfg ht hi hz3 hzs hfirst o2 hoL hS hnv (by omega) hb1 hb2
                      obtain ⟨u, w', k1, k2⟩ := this
                      exact ⟨u, w', k1, Done.forget k2⟩
              · cases hr
            · cases hr
          · rename_i b z'
            split at hr
            · rename_i fe L hf
              split at hr
              · rename_i hcn
                obtain ⟨rfl, hb1, hb2, hm0, rfl⟩ := hcn
                cases hr
                obtain ⟨B, d, S, o', c', hb, rfl, hc⟩ := ha
                obtain ⟨B', d', S', C, g1, g2, g3, g4, g5⟩ := h.obj _ _ (fnd_mem hf)
                rw [hb] at g1
                cases g1
                have hfirst : (Builtin.firstCells i.size 0 (.slice (some ⟨B, o', none⟩) 0 c')).run P w.drew = .ok ([] : List Value).toArray w.drew := run_firstCells_some (P := P) w.drew i.size 0 _ 0 c' [] (by simp) (fun j v hv => by simp at hv)
                by_cases hmc : m ≤ c'
                · have hcS : o' + c' * i.size = S := hc.resolve_left (by omega)
                  have hrr := room_run (P := P) (ty := ty) (o := o') (n := 0) (c := c') (m := m) (S := S) ht hi g2 hS (by omega) g3 (by omega)
                  rw [Nat.zero_add, Nat.zero_mul, Nat.add_zero] at hrr
                  obtain ⟨hrun, hfit⟩ := hrr
                  have hCl : C.toList.length = C.size := Array.length_toList
                  refine ⟨_, _, hrun, ?_⟩
                  refine move_done (av := nv) hne h hf hb g2 ?_ ?_ hnv (fun j u hj => ?_) hmc hcS
                  · simp only [List.size_toArray, List.length_append, List.length_take, List.length_drop]; omega
                  · omega
                  · have hg : ∀ k : Nat, (C.toList.take o' ++ nv ++ C.toList.drop (o' + nv.length)).toArray[k]? = (C.toList.take o' ++ nv ++ C.toList.drop (o' + nv.length))[k]? := fun k => by simp
                    have hjn := (List.getElem?_eq_some_iff.1 hj).1
                    rw [hg, List.append_assoc, List.getElem?_append_right (by simp; omega), List.getElem?_append_left (by simp; omega), ← hj]
                    congr 1
                    simp
                    omega
                · have hfg := h.forget b
                  have := grow_done (P := P) (ty := ty) (s := ⟨ers s.H b, s.nx⟩) (n := 0) (m := m) (c := c') (olds := []) (ov := []) hne hfg ht hi hz3 hzs hfirst trivial (by simp) hS hnv (by omega) (by simpa using hb1) (by omega)
                  obtain ⟨u, w', k1, k2⟩ := this
                  refine ⟨u, w', k1, ?_⟩
                  have k3 := Done.forget k2
                  simpa [newA] using k3
              · cases hr
            · cases hr
          · cases hr
        · cases hr
      · cases hr
    · cases hr
  · cases hr
end
end Go.Proofs.YteigplfldhdakaaGreatDoor.Ev
/- A map's entries in turn. -/
namespace Go.Proofs.YteigplfldhdakaaGreatDoor.Ev
open Go Go.RowKit
section
variable {P : Program} {γ : Pl} {s : AS} {w : World}
def rangeA (P : Program) (s : AS) (t : Nat) (x : AV) : Option (AV × AS) :=
  match x, mapTy P t with
  | .sc (.mp b), some _ => match fnd s.H b with
    | some (.map es) => some (.sc (.pt s.nx 0), ⟨(s.nx, .mit b es.length [] es.length) :: s.H, s.nx + 1⟩)
    | _ => none
  | _, _ => none
theorem range_ok {t : Nat} {x : AV} {u : Value} {r : AV × AS} (h : HR γ s w) (hx : RA γ x u) (hr : rangeA P s t x = some r) : ∃ u' w', (Instr.range t u).run P w = .ok u' w' ∧ Done γ s w r.1 r.2 u' w' := by
  unfold rangeA at hr
  split at hr
  · rename_i b ke hmt
    have hu := mapTy_some (k := ke.1) (e := ke.2) hmt
    split at hr
    · rename_i es hf
      cases hr
      obtain ⟨B, d, S, hb, rfl⟩ := hx
      obtain ⟨B', d', S', cs, h1, h2, h3⟩ := h.obj _ _ (fnd_mem hf)
      rw [hb] at h1
      cases h1
      have hsub := ext_sub (x := (w.heap.size, 0, 0)) (h.nxt _ (Nat.le_refl _))
      obtain ⟨k1, k2⟩ := HR.new (p := .mapIter (some B) es.length #[] es.length) (o := .mit b es.length [] es.length) (S := 0) h
        ⟨w.heap.size, 0, 0, B, d, S, ext_at _ _ _, hsub _ _ hb, rfl, by show (w.heap.push _)[w.heap.size]? = _; simp⟩
      refine ⟨_, _, ?_, _, k1, k2, w.heap.size, 0, 0, ext_at _ _ _, rfl⟩
      simp [Instr.range, run_underlying hu, MapKept.run_getObj_map h2, Result.andThen]
    · cases hr
  · cases hr
def leftA (n : Nat) (seen : List Nat) : List Nat := (List.range n).filter fun i => !seen.contains i
def keyE (k : Bool × List FV) : Bool × List SV := (k.1, k.2.map .f)
theorem all_f {γ : Pl} : ∀ (xs : List FV), All2 (RS γ) (xs.map .f) (xs.map FV.val)
  | [] => trivial
  | x :: xs => ⟨rfl, all_f xs⟩
def keyFit : Bool × List FV → Bool
  | (true, _) => true
  | (false, [_]) => true
  | _ => false
theorem keyE_rel {γ : Pl} {k : Bool × List FV} (hk : keyFit k = true) : RE γ (keyE k) (keyVal k) := by
  obtain ⟨b, xs⟩ := k
  cases b
  · cases xs with
    | nil => cases hk
    | cons x r => cases r with
      | nil => exact ⟨_, rfl, rfl⟩
      | cons y r => cases hk
  · exact ⟨xs.map FV.val, rfl, all_f xs⟩
def nextA (s : AS) (x : AV) : Option (List (AV × AS)) :=
  match x with
  | .sc (.pt b 0) => match fnd s.H b with
    | some (.mit m since seen stepped) => match fnd s.H m with
      | some (.map es) =>
        if since = es.length ∧ stepped = es.length then
          match leftA es.length seen with
          | [] => some [(.tu [(false, [.f (.bool false)])], s)]
          | ls => some (ls.filterMap fun i => match es[i]? with
            | some e => if keyFit e.1 then some (.tu [(false, [.f (.bool true)]), keyE e.1, e.2], ⟨(b, .mit m since (seen ++ [i]) stepped) :: ers s.H b, s.nx⟩) else none
            | none => none)
        else none
      | _ => none
    | _ => none
  | _ => none
def keysFit (s : AS) (x : AV) : Bool :=
  match x with
  | .sc (.pt b 0) => match fnd s.H b with
    | some (.mit m since seen stepped) => match fnd s.H m with
      | some (.map es) => es.all fun e => keyFit e.1
      | _ => true
    | _ => true
  | _ => true
theorem entsR_all {γ : Pl} : ∀ {n : Nat} {es : List Ent} {cs : List MapEntry}, entsR γ n es cs → ∀ c ∈ cs, ∃ i e, es[i]? = some e ∧ c.key = keyVal e.1 ∧ RE γ e.2 c.val ∧ c.born = n + i
  | _, [], [], _, c, hc => by cases hc
  | n, e :: es, c :: cs, h, c', hc => by
    rcases List.mem_cons.1 hc with rfl | h1
    · exact ⟨0, e, rfl, h.1.1, h.1.2.1, h.1.2.2⟩
    · obtain ⟨i, e', k1, k2, k3, k4⟩ := entsR_all h.2 c' h1
      exact ⟨i + 1, e', by simpa using k1, k2, k3, by omega⟩
  | _, [], _ :: _, h, _, _ => h.elim
  | _, _ :: _, [], h, _, _ => h.elim
theorem next_ok {ty : Nat} {x : AV} {u : Value} {outs : List (AV × AS)} (h : HR γ s w) (hx : RA γ x u) (hkf : keysFit s x = true) (hr : nextA s x = some outs) :
    ∃ v s' u' w', (v, s') ∈ outs ∧ (Instr.next u false ty).run P w = .ok u' w' ∧ Done γ s w v s' u' w' := by
  unfold nextA at hr
  unfold keysFit at hkf
  split at hr
  · rename_i b
    simp only at hkf
    split at hr
    · rename_i m since seen stepped hf
      rw [hf] at hkf
      simp only at hkf
      split at hr
      · rename_i es hfm
        rw [hfm] at hkf
        simp only at hkf
        split at hr
        · rename_i hc
          obtain ⟨rfl, rfl⟩ := hc
          obtain ⟨B, d, S, hb, rfl⟩ := hx
          obtain ⟨B', d', S', M, md, MS, g1, g2, g3, g4⟩ := h.obj _ _ (fnd_mem hf)
          rw [hb] at g1
          cases g1
          subst g3
          obtain ⟨M', md', MS', cs, k1, k2, k3⟩ := h.obj _ _ (fnd_mem hfm)
          rw [g2] at k1
          cases k1
          have hlen := entsR_len k3
          have hcsz : cs.size = es.length := by
            have : cs.toList.length = cs.size := Array.length_toList
            omega
          have hBl : B < w.heap.size := (Array.getElem?_eq_some_iff.1 g4).1
          -- nothing is new
          have hall := entsR_all k3
          have hborn : ∀ c ∈ cs.toList, c.born < es.length := fun c hc => by
            obtain ⟨i, e, q1, _, _, q4⟩ := hall c hc
            have := (List.getElem?_eq_some_iff.1 q1).1
            omega
          have hno : (!seen.toArray.isEmpty && !cs.isEmpty && cs.all (fun e => decide (e.born ≥ es.length))) = false := by
            cases hal : cs.all (fun e => decide (e.born ≥ es.length)) with
            | false => simp
            | true =>
              cases hce : cs.isEmpty with
              | true => simp
              | false =>
                exfalso
                have hpos : 0 < cs.size := by
                  rcases Nat.eq_zero_or_pos cs.size with h0 | h0
                  · rw [Array.isEmpty_iff_size_eq_zero.2 h0] at hce; cases hce
                  · exact h0
                have h1 := of_decide_eq_true (Array.all_eq_true.1 hal 0 hpos)
                have h2 := hborn cs[0] (by simp)
                omega
          obtain ⟨L, hL⟩ : ∃ L, cs.filter (fun e => !seen.toArray.contains e.born) = L := ⟨_, rfl⟩
          have hLm : ∀ c ∈ L, ∃ i e, es[i]? = some e ∧ c.key = keyVal e.1 ∧ RE γ e.2 c.val ∧ c.born = i ∧ i ∈ leftA es.length seen := fun c hc => by
            rw [← hL, Array.mem_filter] at hc
            obtain ⟨i, e, q1, q2, q3, q4⟩ := hall c (by simpa using hc.1)
            have hi := (List.getElem?_eq_some_iff.1 q1).1
            refine ⟨i, e, q1, q2, q3, by omega, ?_⟩
            unfold leftA
            rw [List.mem_filter]
            refine ⟨by simpa using hi, ?_⟩
            have h5 := hc.2
            rw [q4] at h5
            simpa using h5
          have hLe : ∀ i ∈ leftA es.length seen, ∃ c, c ∈ L := fun i hi => by
            unfold leftA at hi
            rw [List.mem_filter] at hi
            have hil : i < es.length := by simpa using hi.1
            obtain ⟨c, q1, q2, q3, q4⟩ := entsR_get k3 (List.getElem?_eq_getElem hil)
            refine ⟨c, ?_⟩
            rw [← hL, Array.mem_filter]
            refine ⟨by have := List.mem_of_getElem? q1; simpa using this, ?_⟩
            rw [q4]
            simpa using hi.2
          have hold : L.filter (fun e => decide (e.born < es.length)) = L := by
            rw [Array.filter_eq_self]
            intro c hc
            obtain ⟨i, e, q1, q2, q3, q4, q5⟩ := hLm c hc
            have hi := (List.getElem?_eq_some_iff.1 q1).1
            exact decide_eq_true (by omega)
          have hnew : L.filter (fun e => decide (e.born ≥ es.length)) = #[] := by
            rw [Array.filter_eq_empty_iff]
            intro c hc
            obtain ⟨i, e, q1, q2, q3, q4, q5⟩ := hLm c hc
            have hi := (List.getElem?_eq_some_iff.1 q1).1
            simp
            omega
          have e1 : (getObj B).run P w = .ok (.mapIter (some M) es.length seen.toArray es.length) w := by simp [getObj, Sem.run, g4]
          have e2 : (getObj M).run P w = .ok (.map cs es.length) w := MapKept.run_getObj_map k2
          have hrun : ∃ k w1, k < ((if L.isEmpty then #[none] else #[]) ++ L.map some).size ∧ (w1 = w ∨ w1 = w.drew) ∧ (Instr.next (.pointer (some ⟨B, 0, none⟩)) false ty).run P w = (match ((if L.isEmpty then #[none] else #[]) ++ L.map some)[k]? with
              | some (some e) => .ok (.tuple #[.bool true, e.key, e.val]) (w1.putObj B (.mapIter (some M) es.length (seen.toArray.push e.born) es.length))
              | some none => .ok (.tuple #[.bool false]) w1
              | none => .halt (.stuck "Next: no such candidate") w1) := by
            simp only [Instr.next, Sem.run_bind, e1, Result.andThen_ok, e2]
            rw [hL, hold, hnew, Array.append_empty]
            simp only [hno, Bool.false_eq_true, if_false]
            have hpos : 0 < ((if L.isEmpty then #[none] else #[]) ++ L.map some).size := by
              cases hLi : L.isEmpty with
              | true =>
                show 0 < ((#[none] : Array (Option MapEntry)) ++ L.map some).size
                rw [Array.size_append]
                show 0 < 1 + _
                omega
              | false =>
                rcases Nat.eq_zero_or_pos L.size with h0 | h0
                · rw [Array.isEmpty_iff_size_eq_zero.2 h0] at hLi; cases hLi
                · simp; exact h0
            generalize ((if L.isEmpty then #[none] else #[]) ++ L.map some) = cd at hpos ⊢
            obtain ⟨k, w1, hk, hw1, hch⟩ : ∃ k w1, k < cd.size ∧ (w1 = w ∨ w1 = w.drew) ∧ (choose (.mapNext cd.size)).run P w = .ok k w1 := by
              by_cases hf1 : cd.size ≤ 1
              · exact ⟨0, w, hpos, .inl rfl, by simp [choose, Sem.run, Question.forced, hf1]⟩
              · exact ⟨w.tape w.drawn (.mapNext cd.size) % cd.size, w.drew, Nat.mod_lt _ hpos, .inr rfl, by simp [choose, Sem.run, Question.forced, hf1, Question.cut]⟩
            refine ⟨k, w1, hk, hw1, ?_⟩
            have hw1B : w1.heap[B]? = some (.mapIter (some M) es.length seen.toArray es.length) := by rcases hw1 with rfl | rfl <;> exact g4
            simp only [Sem.run_bind, hch, Result.andThen_ok]
            generalize cd[k]? = q
            rcases q with _ | _ | e
            · rfl
            · rfl
            · simp [setObj, Sem.run, hw1B, World.putObj]
          obtain ⟨k, w1, hk, hw1, hrn⟩ := hrun
          rw [hrn]
          have hh1 : HR γ s w1 := by rcases hw1 with rfl | rfl; exact h; exact h.drew
          have hfr : ∀ {γ' s' w'}, Fr γ s w1 γ' s' w' → Fr γ s w γ' s' w' := by rcases hw1 with rfl | rfl; exact fun h => h; exact fun h => Fr.of_drew h
          cases hLi : L.isEmpty with
          | true =>
            have hL0 : L = #[] := Array.isEmpty_iff.1 hLi
            subst hL0
            have hk0 : k = 0 := by rw [hLi] at hk; simpa using hk
            subst hk0
            have hle : leftA es.length seen = [] := by
              cases hq : leftA es.length seen with
              | nil => rfl
              | cons i r => obtain ⟨c, hc⟩ := hLe i (by rw [hq]; exact List.mem_cons_self ..); simp at hc
            rw [hle] at hr
            cases hr
            exact ⟨_, _, .tuple #[.bool false], w1, List.mem_cons_self .., by simp, ⟨γ, hh1, hfr (Fr.refl _ _ _), [.bool false], rfl, ⟨_, rfl, rfl⟩, trivial⟩⟩
          | false =>
            rw [hLi] at hk
            simp only [Bool.false_eq_true, if_false, Array.empty_append, Array.size_map] at hk
            have hget : (L.map some)[k]? = some (some L[k]) := by simp [hk]
            simp only [Bool.false_eq_true, if_false, Array.empty_append, hget]
            obtain ⟨i, e, q1, q2, q3, q4, q5⟩ := hLm L[k] (by simp)
            have hfe := List.all_eq_true.1 hkf e (List.mem_of_getElem? q1)
            rw [q4]
            obtain ⟨c1, c2⟩ := HR.upd (o' := .mit m es.length (seen ++ [i]) es.length) (w' := w1.putObj B (.mapIter (some M) es.length (seen.toArray.push i) es.length)) hh1 (fnd_mem hf) hb (Sub.refl _) hb (.inl rfl) (by simp [World.putObj]) (fun k hk => World.putObj_heap_other hk)
              ⟨B, _, S, M, _, _, hb, g2, rfl, by rw [World.putObj_heap_same (by rcases hw1 with rfl | rfl <;> exact hBl)]; simp⟩ h.nxt ⟨rfl, rfl, rfl⟩ (fun _ _ h => .inl h) (Nat.le_refl _)
            refine ⟨.tu [(false, [.f (.bool true)]), keyE e.1, e.2], _, _, _, ?_, rfl, ⟨γ, c1, hfr c2, [.bool true, L[k].key, L[k].val], rfl, ⟨_, rfl, rfl⟩, by rw [q2]; exact keyE_rel hfe, q3, trivial⟩⟩
            revert hr
            cases hq : leftA es.length seen with
            | nil => rw [hq] at q5; cases q5
            | cons a r =>
              intro hr
              cases hr
              rw [hq] at q5
              rw [List.mem_filterMap]
              exact ⟨i, q5, by simp [q1, hfe]⟩
        · cases hr
      · cases hr
    · cases hr
  · cases hr
def entryA (s : AS) (x : AV) : Option AV :=
  match x with
  | .sc (.pt b 0) => match fnd s.H b with
    | some (.mit m since seen stepped) => match fnd s.H m with
      | some (.map es) =>
        if stepped = es.length then
          match seen.getLast? with
          | some i => match es[i]? with
            | some e => if keyFit e.1 then some (.tu [keyE e.1, e.2]) else none
            | none => none
          | none => none
        else none
      | _ => none
    | _ => none
  | _ => none
theorem entry_ok {x r : AV} {u : Value} (h : HR γ s w) (hx : RA γ x u) (hr : entryA s x = some r) : ∃ u', (Instr.entry u).run P w = .ok u' w ∧ RA γ r u' := by
  unfold entryA at hr
  split at hr
  · rename_i b
    split at hr
    · rename_i m since seen stepped hf
      split at hr
      · rename_i es hfm
        split at hr
        · rename_i hc
          subst hc
          split at hr
          · rename_i i hi
            split at hr
            · rename_i e he
              split at hr
              · rename_i hk
                cases hr
                obtain ⟨B, d, S, hb, rfl⟩ := hx
                obtain ⟨B', d', S', M, md, MS, g1, g2, g3, g4⟩ := h.obj _ _ (fnd_mem hf)
                rw [hb] at g1
                cases g1
                subst g3
                obtain ⟨M', md', MS', cs, k1, k2, k3⟩ := h.obj _ _ (fnd_mem hfm)
                rw [g2] at k1
                cases k1
                obtain ⟨c, q1, q2, q3, q4⟩ := entsR_get k3 he
                have hall := entsR_all k3
                have e1 : (getObj B).run P w = .ok (.mapIter (some M) since seen.toArray es.length) w := by simp [getObj, Sem.run, g4]
                have e2 : (getObj M).run P w = .ok (.map cs es.length) w := MapKept.run_getObj_map k2
                have e3 : seen.toArray.back? = some i := by rw [List.back?_toArray]; exact hi
                have e4 : cs.find? (fun e => e.born == i) = some c := by
                  rw [← Array.find?_toList]
                  have hborn : ∀ (j : Nat) (c' : MapEntry), cs.toList[j]? = some c' → c'.born = j := fun j c' hj => by
                    have hjl := (List.getElem?_eq_some_iff.1 hj).1
                    rw [entsR_len k3] at hjl
                    obtain ⟨c2, p1, _, _, p4⟩ := entsR_get k3 (List.getElem?_eq_getElem hjl)
                    rw [hj] at p1
                    cases p1
                    omega
                  rw [List.find?_eq_some_iff_getElem]
                  obtain ⟨hl, hce⟩ := List.getElem?_eq_some_iff.1 q1
                  refine ⟨by simp; omega, i, hl, hce, fun j hj => ?_⟩
                  have := hborn j _ (List.getElem?_eq_getElem (by omega))
                  rw [this]
                  simp
                  omega
                refine ⟨.tuple #[c.key, c.val], ?_, [c.key, c.val], rfl, by rw [q2]; exact keyE_rel hk, q3, trivial⟩
                simp [Instr.entry, e1, e2, hi, e4]
              · cases hr
            · cases hr
          · cases hr
        · cases hr
      · cases hr
    · cases hr
  · cases hr
end
end Go.Proofs.YteigplfldhdakaaGreatDoor.Ev
/- Such a map's entries in turn, whatever the order. -/
namespace Go.Proofs.YteigplfldhdakaaGreatDoor
open Go Go.RowKit Go.Proofs.YteigplfldhdakaaGreatDoor.Ev
def MIt (W : World) (It Bm n : Nat) (seen : List Nat) : Prop := W.heap[It]? = some (.mapIter (some Bm) n seen.toArray n)
def entB (b : Blk) : Ent := ((true, [.str b.1.data.toList, .str b.2.1.data.toList]), (false, [.f (.int .i64 b.2.2)]))
theorem ents_rel (γ : Pl) : ∀ (T : List Blk) (n : Nat), entsR γ n (T.map entB) (entsF n T)
  | [], n => trivial
  | b :: r, n => ⟨⟨rfl, ⟨_, rfl, rfl⟩, rfl⟩, ents_rel γ r (n + 1)⟩
def pl2 (It Bm : Nat) : Pl := fun k => if k = 0 then some (It, 0, 0) else if k = 1 then some (Bm, 0, 0) else none
def as2 (T : List Blk) (seen : List Nat) : AS := ⟨[(0, .mit 1 T.length seen T.length), (1, .map (T.map entB))], 2⟩
theorem hr2 {W : World} {It Bm : Nat} {T : List Blk} {seen : List Nat} (hM : MapAt W Bm T) (hI : MIt W It Bm T.length seen) (hne : It ≠ Bm) : HR (pl2 It Bm) (as2 T seen) W := by
  refine ⟨fun b o hb => ?_, by simp [as2], fun b b' x y h1 h2 h3 h4 h5 => ?_, fun k hk => ?_⟩
  · rcases List.mem_cons.1 hb with h | h
    · cases h
      exact ⟨It, 0, 0, Bm, 0, 0, rfl, rfl, rfl, hI⟩
    · rcases List.mem_cons.1 h with h | h
      · cases h
        refine ⟨Bm, 0, 0, (entsF 0 T).toArray, rfl, ?_, ents_rel _ T 0⟩
        rw [List.length_map]
        exact hM
      · cases h
  · have hk : ∀ b, b ∈ (as2 T seen).H.map (·.1) → b = 0 ∨ b = 1 := fun b hb => by simpa [as2] using hb
    rcases hk b h1 with rfl | rfl <;> rcases hk b' h2 with rfl | rfl
    · exact absurd rfl h3
    · cases h4; cases h5; exact hne
    · cases h4; cases h5; exact fun e => hne e.symm
    · exact absurd rfl h3
  · have hk : 2 ≤ k := hk
    unfold pl2
    rw [if_neg (by omega), if_neg (by omega)]
end Go.Proofs.YteigplfldhdakaaGreatDoor
/- maps from plain keys to numbers: laws said of the entries. -/
namespace Go.Proofs.YteigplfldhdakaaGreatDoor
open Go.RowKit Go.Shelf MapKept
/-- an entry: its key, its number -/
abbrev Ke := Value × Int
def entV (x : Ke) (born : Nat) : MapEntry := ⟨x.1, .int .i64 x.2, born⟩
def entsV : Nat → List Ke → List MapEntry
  | _, [] => []
  | n, x :: r => entV x n :: entsV (n + 1) r
open Classical in
/-- where key k stands -/
noncomputable def posV (k : Value) : List Ke → Option Nat
  | [] => none
  | x :: r => if k = x.1 then some 0 else (posV k r).map (· + 1)
def ke0 : Ke := (.bool false, 0)
noncomputable def cntV (k : Value) (l : List Ke) : Int := match posV k l with | some i => (l.getD i ke0).2 | none => 0
noncomputable def putV (k : Value) (v : Int) (l : List Ke) : List Ke := match posV k l with | some i => l.set i (k, v) | none => l ++ [(k, v)]
theorem posV_some {k : Value} : ∀ {l : List Ke} {i : Nat}, posV k l = some i → i < l.length ∧ (l.getD i ke0).1 = k
  | [], i, h => by simp [posV] at h
  | x :: r, i, h => by
    unfold posV at h
    by_cases hb : k = x.1
    · rw [if_pos hb] at h
      cases h
      exact ⟨by simp, hb.symm⟩
    · rw [if_neg hb] at h
      cases hq : posV k r with
      | none => rw [hq] at h; cases h
      | some q =>
        rw [hq] at h
        cases h
        obtain ⟨h1, h2⟩ := posV_some hq
        exact ⟨by simp; omega, by simpa using h2⟩
theorem posV_none {k : Value} : ∀ {l : List Ke}, posV k l = none → ∀ x ∈ l, x.1 ≠ k
  | [], _, x, hx => by simp at hx
  | a :: r, h, x, hx => by
    unfold posV at h
    by_cases ha : k = a.1
    · rw [if_pos ha] at h; cases h
    · rw [if_neg ha] at h
      rcases List.mem_cons.1 hx with rfl | hx
      · exact fun e => ha e.symm
      · refine posV_none ?_ x hx
        cases hq : posV k r with
        | none => rfl
        | some q => rw [hq] at h; cases h
theorem findV {d : TypeDesc} {k : Value} (hk : IsKey d k) : ∀ (l : List Ke) (n i : Nat), (∀ x ∈ l, IsKey d x.1) → Instr.findNow d k (entsV n l) i = some ((posV k l).map fun j => (i + j, Value.int .i64 (l.getD j ke0).2))
  | [], n, i, _ => by simp [entsV, Instr.findNow, posV]
  | x :: r, n, i, h => by
    obtain ⟨b, hr, hiff⟩ := sameNow_of_keys hk (h x (List.mem_cons_self ..))
    rw [entsV, Instr.findNow, posV]
    have hr2 : Instr.sameNow d k (entV x n).key = some b := hr
    rw [hr2]
    cases b with
    | true =>
      rw [if_pos (hiff.1 rfl)]
      rfl
    | false =>
      have hne : ¬ k = x.1 := fun q => by have := hiff.2 q; cases this
      rw [if_neg hne]
      dsimp only
      rw [findV hk r (n + 1) (i + 1) (fun y hy => h y (List.mem_cons_of_mem _ hy))]
      cases posV k r with
      | none => rfl
      | some q => simp; omega
/-- block b is such a map -/
def MapV (d : TypeDesc) (w : World) (b : Nat) (l : List Ke) : Prop := w.heap[b]? = some (.map (entsV 0 l).toArray l.length) ∧ ∀ x ∈ l, IsKey d x.1
theorem MapV.keep {d : TypeDesc} {w w' : World} {b : Nat} {l : List Ke} (h : MapV d w b l) (he : w'.heap[b]? = w.heap[b]?) : MapV d w' b l := ⟨he.trans h.1, h.2⟩
def mapPutV (w : World) (b : Nat) (l : List Ke) : World := w.putObj b (.map (entsV 0 l).toArray l.length)
theorem entsV_len : ∀ (l : List Ke) (n : Nat), (entsV n l).length = l.length
  | [], _ => rfl
  | x :: r, n => by simp [entsV, entsV_len r]
theorem entsV_get : ∀ (l : List Ke) (n k : Nat) (hk : k < l.length), (entsV n l)[k]? = some (entV l[k] (n + k))
  | x :: r, n, 0, _ => by simp [entsV]
  | x :: r, n, k + 1, hk => by
    have := entsV_get r (n + 1) k (by simpa using hk)
    simp only [entsV, List.getElem?_cons_succ, List.getElem_cons_succ]
    rw [this]
    congr 2
    omega
theorem entsV_set : ∀ (l : List Ke) (n k : Nat) (x : Ke), (entsV n l).set k (entV x (n + k)) = entsV n (l.set k x)
  | [], n, k, x => by simp [entsV]
  | a :: r, n, 0, x => by simp [entsV]
  | a :: r, n, k + 1, x => by
    have := entsV_set r (n + 1) k x
    simp only [entsV, List.set_cons_succ]
    rw [← this, show n + (k + 1) = n + 1 + k by omega]
theorem entsV_snoc : ∀ (l : List Ke) (n : Nat) (x : Ke), entsV n l ++ [entV x (n + l.length)] = entsV n (l ++ [x])
  | [], n, x => by simp [entsV]
  | a :: r, n, x => by
    have := entsV_snoc r (n + 1) x
    simp only [List.cons_append, entsV, List.length_cons]
    rw [← this, show n + (r.length + 1) = n + 1 + r.length by omega]
theorem entsV_modify (l : List Ke) (k : Nat) (hk : k < l.length) (g : MapEntry → MapEntry) (x : Ke) (hg : g (entV l[k] k) = entV x k) : (entsV 0 l).toArray.modify k g = (entsV 0 (l.set k x)).toArray := by
  have h1 := entsV_get l 0 k hk
  rw [Nat.zero_add] at h1
  have h2 := entsV_set l 0 k x
  rw [Nat.zero_add] at h2
  apply Array.ext'
  rw [Array.toList_modify, ← h2]
  apply List.ext_getElem?
  intro i
  rw [List.getElem?_modify, List.getElem?_set]
  by_cases hi : k = i
  · subst hi
    have hl : k < (entsV 0 l).length := by rw [entsV_len]; exact hk
    rw [if_pos rfl, if_pos hl]
    simp [h1, hg]
  · rw [if_neg hi]
    simp [hi]
section
variable {mt kt : TypeId} {d : TypeDesc} (hm : Tryz.prog.underlying mt = some (.map kt 3)) (hd : Tryz.prog.underlying kt = some d)
include hm hd
theorem lookV {w : World} {b : Nat} {l : List Ke} (h : MapV d w b l) {k : Value} (hk : IsKey d k) : (Instr.lookup mt (.map (some b)) k false).run Tryz.prog w = .ok (.int .i64 (cntV k l)) w := by
  have hz : (zeroValue 3).run Tryz.prog w = .ok (.int .i64 0) w := by kernel_rfl
  have hf := run_findKey (P := Tryz.prog) (w := w) hd (findV hk l 0 0 h.2)
  have hc := run_checkKey (P := Tryz.prog) (w := w) hd hk (entsV 0 l).isEmpty 9999
  unfold cntV
  cases hq : posV k l with
  | none => rw [hq] at hf; simp [Instr.lookup, run_underlying hm, MapKept.run_getObj_map h.1, hc, hf, hz, Result.andThen]
  | some x => rw [hq] at hf; simp [Instr.lookup, run_underlying hm, MapKept.run_getObj_map h.1, hc, hf, Result.andThen]
theorem lookV_ok {w : World} {b : Nat} {l : List Ke} (h : MapV d w b l) {k : Value} (hk : IsKey d k) : (Instr.lookup mt (.map (some b)) k true).run Tryz.prog w = .ok (match posV k l with
    | some i => .tuple #[.int .i64 (l.getD i ke0).2, .bool true]
    | none => .tuple #[.int .i64 0, .bool false]) w := by
  have hz : (zeroValue 3).run Tryz.prog w = .ok (.int .i64 0) w := by kernel_rfl
  have hf := run_findKey (P := Tryz.prog) (w := w) hd (findV hk l 0 0 h.2)
  have hc := run_checkKey (P := Tryz.prog) (w := w) hd hk (entsV 0 l).isEmpty 9999
  cases hq : posV k l with
  | none => rw [hq] at hf; simp [Instr.lookup, run_underlying hm, MapKept.run_getObj_map h.1, hc, hf, hz, Result.andThen]
  | some x => rw [hq] at hf; simp [Instr.lookup, run_underlying hm, MapKept.run_getObj_map h.1, hc, hf, Result.andThen]
theorem updV {w : World} {b : Nat} {l : List Ke} (h : MapV d w b l) {k : Value} (hk : IsKey d k) (v : Int) : (Instr.mapUpdate mt (.map (some b)) k (.int .i64 v)).run Tryz.prog w = .ok () (mapPutV w b (putV k v l)) := by
  have hf := run_findKey (P := Tryz.prog) (w := w) hd (findV hk l 0 0 h.2)
  have hc := run_checkKey (P := Tryz.prog) (w := w) hd hk false 9999
  unfold putV
  cases hq : posV k l with
  | none =>
    rw [hq] at hf
    have hs := entsV_snoc l 0 (k, v)
    simp [Instr.mapUpdate, run_underlying hm, MapKept.run_getObj_map h.1, hc, hf, MapKept.run_setObj_map _ h.1, Result.andThen, mapPutV, World.putObj]
    rw [← hs]
    simp [entV]
  | some i =>
    rw [hq] at hf
    obtain ⟨h1, h2⟩ := posV_some hq
    have hg := entsV_get l 0 i h1
    rw [Nat.zero_add] at hg
    have hgk : l[i].1 = k := by
      rw [List.getD_eq_getElem?_getD, List.getElem?_eq_getElem h1] at h2
      exact h2
    have hkey : ((entsV 0 l).toArray[i]?.map (·.key)).getD k = k := by
      rw [List.getElem?_toArray, hg]
      exact hgk
    have hm2 := entsV_modify l i h1 (fun e => { e with key := k, val := .int .i64 v }) (k, v) rfl
    simp only [Option.map_some, Nat.zero_add] at hf
    simp only [Instr.mapUpdate, Sem.run_bind, run_underlying hm, Result.andThen_ok, MapKept.run_getObj_map h.1, hc, hf, hkey, run_keyThatStays hk]
    rw [hm2]
    simp [MapKept.run_setObj_map _ h.1, Result.andThen, mapPutV, World.putObj]
end
theorem putV_keys {d : TypeDesc} {k : Value} {v : Int} {l : List Ke} (h : ∀ x ∈ l, IsKey d x.1) (hk : IsKey d k) : ∀ x ∈ putV k v l, IsKey d x.1 := fun x hx => by
  unfold putV at hx
  split at hx
  · rcases List.mem_or_eq_of_mem_set hx with hx | rfl
    · exact h x hx
    · exact hk
  · rcases List.mem_append.1 hx with hx | hx
    · exact h x hx
    · rw [List.mem_singleton] at hx; subst hx; exact hk
theorem mapPutV_at {d : TypeDesc} {w : World} {b : Nat} {l : List Ke} (h : MapV d w b l) {l' : List Ke} (h' : ∀ x ∈ l', IsKey d x.1) : MapV d (mapPutV w b l') b l' := ⟨World.putObj_heap_same (blk_lt h.1), h'⟩
theorem mapPutV_other {w : World} {b k : Nat} (l : List Ke) (h : k ≠ b) : (mapPutV w b l).heap[k]? = w.heap[k]? := World.putObj_heap_other h
theorem touch_putV {F : Nat → Prop} {a W : World} (h : Touch F a W) {b : Nat} (hb : F b ∨ a.heap.size ≤ b) (l : List Ke) : Touch F a (mapPutV W b l) :=
  ⟨h.os, h.tape, h.output, by unfold mapPutV World.putObj; simpa using h.size, fun k hk hF => (mapPutV_other l (by rintro rfl; rcases hb with h1 | h1; exact hF h1; omega)).trans (h.block k hk hF)⟩
/-- the keys -/
def keysV (l : List Ke) : List Value := l.map (·.1)
theorem putV_mem {k k' : Value} {v : Int} {l : List Ke} : k' ∈ keysV (putV k v l) ↔ k' ∈ keysV l ∨ k' = k := by
  unfold putV keysV
  cases hq : posV k l with
  | none => simp
  | some i =>
    obtain ⟨h1, h2⟩ := posV_some hq
    rw [List.getD_eq_getElem?_getD, List.getElem?_eq_getElem h1] at h2
    have h2 : l[i].1 = k := h2
    dsimp only
    rw [List.map_set, show k = (l.map (·.1))[i]'(by simpa using h1) by rw [List.getElem_map]; exact h2.symm]
    rw [List.set_getElem_self]
    constructor
    · exact .inl
    · rintro (h | h)
      · exact h
      · rw [h]; exact List.getElem_mem _
theorem putV_nodup {k : Value} {v : Int} {l : List Ke} (h : (keysV l).Nodup) : (keysV (putV k v l)).Nodup := by
  unfold putV keysV at *
  cases hq : posV k l with
  | none =>
    dsimp only
    rw [List.map_append]
    refine List.nodup_append.2 ⟨h, by simp, fun a ha b hb => ?_⟩
    obtain ⟨x, hx, rfl⟩ := List.mem_map.1 ha
    simp at hb
    subst hb
    exact posV_none hq x hx
  | some i =>
    obtain ⟨h1, h2⟩ := posV_some hq
    rw [List.getD_eq_getElem?_getD, List.getElem?_eq_getElem h1] at h2
    have h2 : l[i].1 = k := h2
    dsimp only
    rw [List.map_set, show k = (l.map (·.1))[i]'(by simpa using h1) by rw [List.getElem_map]; exact h2.symm, List.set_getElem_self]
    exact h
end Go.Proofs.YteigplfldhdakaaGreatDoor
/- two rows in order made one, plain: the search, the turn, the halves. -/
namespace Go.Proofs.YteigplfldhdakaaGreatDoor.Dw
/-- g is f, set in another order within a..b -/
def Rea {α : Type} (a b : Nat) (f g : Nat → α) : Prop :=
  ∃ σ τ : Nat → Nat, (∀ k, a ≤ k → k < b → a ≤ σ k ∧ σ k < b ∧ a ≤ τ k ∧ τ k < b) ∧ (∀ k, ¬ (a ≤ k ∧ k < b) → σ k = k ∧ τ k = k) ∧ (∀ k, τ (σ k) = k ∧ σ (τ k) = k) ∧ ∀ k, g k = f (σ k)
theorem Rea.refl {α : Type} (a b : Nat) (f : Nat → α) : Rea a b f f := ⟨id, id, fun k h1 h2 => ⟨h1, h2, h1, h2⟩, fun k _ => ⟨rfl, rfl⟩, fun k => ⟨rfl, rfl⟩, fun k => rfl⟩
theorem Rea.trans {α : Type} {a b : Nat} {f g h : Nat → α} (x : Rea a b f g) (y : Rea a b g h) : Rea a b f h := by
  obtain ⟨σ, τ, h1, h2, h3, h4⟩ := x
  obtain ⟨σ', τ', k1, k2, k3, k4⟩ := y
  refine ⟨fun k => σ (σ' k), fun k => τ' (τ k), fun k ha hb => ?_, fun k hk => ?_, fun k => ?_, fun k => by rw [k4, h4]⟩
  · have e1 := k1 k ha hb
    have e2 := h1 (σ' k) e1.1 e1.2.1
    have e3 := h1 k ha hb
    have e4 := k1 (τ k) e3.2.2.1 e3.2.2.2
    exact ⟨e2.1, e2.2.1, e4.2.2.1, e4.2.2.2⟩
  · have e1 := k2 k hk
    have e2 := h2 k hk
    dsimp only
    rw [e1.1, e2.2]
    exact ⟨e2.1, e1.2⟩
  · dsimp only
    rw [(h3 (σ' k)).1, (k3 k).1, (k3 (τ k)).2, (h3 k).2]
    exact ⟨rfl, rfl⟩
theorem Rea.wide {α : Type} {a b c d : Nat} {f g : Nat → α} (x : Rea a b f g) (hc : c ≤ a) (hd : b ≤ d) : Rea c d f g := by
  obtain ⟨σ, τ, h1, h2, h3, h4⟩ := x
  refine ⟨σ, τ, fun k ha hb => ?_, fun k hk => h2 k (by omega), h3, h4⟩
  by_cases hk : a ≤ k ∧ k < b
  · have := h1 k hk.1 hk.2; omega
  · have := h2 k hk; omega
theorem Rea.out {α : Type} {a b : Nat} {f g : Nat → α} (x : Rea a b f g) {k : Nat} (hk : ¬ (a ≤ k ∧ k < b)) : g k = f k := by
  obtain ⟨σ, τ, h1, h2, h3, h4⟩ := x
  rw [h4, (h2 k hk).1]
theorem Rea.back {α : Type} {a b : Nat} {f g : Nat → α} (x : Rea a b f g) {k : Nat} (h1 : a ≤ k) (h2 : k < b) : ∃ j, a ≤ j ∧ j < b ∧ f k = g j := by
  obtain ⟨σ, τ, e1, e2, e3, e4⟩ := x
  exact ⟨τ k, (e1 k h1 h2).2.2.1, (e1 k h1 h2).2.2.2, by rw [e4, (e3 k).2]⟩
/-- all apart -/
def apartF {α : Type} (n : Nat) (f : Nat → α) (R : α → α → Prop) : Prop := ∀ i j, i < n → j < n → i ≠ j → R (f i) (f j)
theorem Rea.apart {α : Type} {a b n : Nat} {f g : Nat → α} {R : α → α → Prop} (x : Rea a b f g) (hb : b ≤ n) (h : apartF n f R) : apartF n g R := by
  obtain ⟨σ, τ, e1, e2, e3, e4⟩ := x
  have hs : ∀ k, k < n → σ k < n := fun k hk => by
    by_cases h3 : a ≤ k ∧ k < b
    · have := e1 k h3.1 h3.2; omega
    · have := e2 k h3; omega
  intro i j hi hj hij
  rw [e4, e4]
  refine h _ _ (hs i hi) (hs j hj) fun hc => hij ?_
  rw [← (e3 i).1, hc, (e3 j).1]
def swapF {α : Type} (f : Nat → α) (i j : Nat) : Nat → α := fun k => if k = i then f j else if k = j then f i else f k
theorem Rea.swap {α : Type} (f : Nat → α) {a b i j : Nat} (hi : a ≤ i ∧ i < b) (hj : a ≤ j ∧ j < b) : Rea a b f (swapF f i j) := by
  refine ⟨fun k => if k = i then j else if k = j then i else k, fun k => if k = i then j else if k = j then i else k, fun k ha hb => ?_, fun k hk => ?_, fun k => ?_, fun k => ?_⟩
  · dsimp only; split
    · omega
    · split <;> omega
  · dsimp only
    rw [if_neg (by omega), if_neg (by omega)]
    exact ⟨rfl, rfl⟩
  · dsimp only
    split
    · split <;> (try split) <;> omega
    · split
      · split <;> (try split) <;> omega
      · exact ⟨rfl, rfl⟩
  · unfold swapF
    dsimp only
    by_cases h1 : k = i
    · rw [if_pos h1, if_pos h1]
    · rw [if_neg h1, if_neg h1]
      by_cases h2 : k = j
      · rw [if_pos h2, if_pos h2]
      · rw [if_neg h2, if_neg h2]
/-- two ranges exchanged -/
def swapR {α : Type} (f : Nat → α) (p q n : Nat) : Nat → α := fun k => if p ≤ k ∧ k < p + n then f (k - p + q) else if q ≤ k ∧ k < q + n then f (k - q + p) else f k
theorem swapR_zero {α : Type} (f : Nat → α) (p q : Nat) : swapR f p q 0 = f := by
  funext k
  unfold swapR
  rw [if_neg (by omega), if_neg (by omega)]
theorem swapR_succ {α : Type} (f : Nat → α) {p q n : Nat} (h : p + n < q) : swapF (swapR f p q n) (p + n) (q + n) = swapR f p q (n + 1) := by
  funext k
  unfold swapF swapR
  by_cases h1 : k = p + n
  · subst h1
    rw [if_pos rfl, if_neg (by omega), if_neg (by omega), if_pos (by omega)]
    congr 1; omega
  · rw [if_neg h1]
    by_cases h2 : k = q + n
    · subst h2
      rw [if_pos rfl, if_neg (by omega), if_neg (by omega), if_neg (by omega), if_pos (by omega)]
      congr 1; omega
    · rw [if_neg h2]
      by_cases h3 : p ≤ k ∧ k < p + n
      · rw [if_pos h3, if_pos (by omega)]
      · rw [if_neg h3, if_neg (by omega : ¬ (p ≤ k ∧ k < p + (n + 1)))]
        by_cases h4 : q ≤ k ∧ k < q + n
        · rw [if_pos h4, if_pos (by omega)]
        · rw [if_neg h4, if_neg (by omega)]
theorem Rea.swapR {α : Type} (f : Nat → α) {a b p q : Nat} : ∀ {n : Nat}, p + n ≤ q → a ≤ p → q + n ≤ b → Rea a b f (swapR f p q n)
  | 0, _, _, _ => by rw [swapR_zero]; exact Rea.refl _ _ _
  | n + 1, h1, h2, h3 => by
    rw [← swapR_succ f (by omega)]
    exact (Rea.swapR f (n := n) (by omega) h2 (by omega)).trans (Rea.swap _ (by omega) (by omega))
/-- a..m, m..b the other way round -/
def rotF {α : Type} (f : Nat → α) (a m b : Nat) : Nat → α := fun k => if a ≤ k ∧ k < b then (if k < a + (b - m) then f (k - a + m) else f (k - (b - m))) else f k
theorem rot_left {α : Type} (f : Nat → α) {m i j : Nat} (hm : i ≤ m) (hj : j < i) (h0 : 0 < j) : rotF (swapR f (m - i) m j) (m - (i - j)) m (m + j) = rotF f (m - i) m (m + j) := by
  funext k
  unfold rotF swapR
  repeat' split
  all_goals first | omega | (congr 1; omega) | rfl
theorem rot_right {α : Type} (f : Nat → α) {m i j : Nat} (hm : i ≤ m) (hj : i < j) (h0 : 0 < i) : rotF (swapR f (m - i) (m + j - i) i) (m - i) m (m + (j - i)) = rotF f (m - i) m (m + j) := by
  funext k
  unfold rotF swapR
  repeat' split
  all_goals first | omega | (congr 1; omega) | rfl
theorem rot_even {α : Type} (f : Nat → α) {m i : Nat} (hm : i ≤ m) : swapR f (m - i) m i = rotF f (m - i) m (m + i) := by
  funext k
  unfold rotF swapR
  repeat' split
  all_goals first | omega | (congr 1; omega) | rfl
section
variable {α : Type} {lt : α → α → Prop}
def srtF (lt : α → α → Prop) (f : Nat → α) (a b : Nat) : Prop := ∀ i j, a ≤ i → i < j → j < b → lt (f i) (f j)
theorem rot_same (f : Nat → α) (a b : Nat) : rotF f a a b = f := by
  funext k
  unfold rotF
  repeat' split
  all_goals first | omega | (congr 1; omega) | rfl
theorem rot_none (f : Nat → α) (a b : Nat) : rotF f a b b = f := by
  funext k
  unfold rotF
  repeat' split
  all_goals first | omega | (congr 1; omega) | rfl
/-- the halves of a search: what lies where after the turn -/
theorem cut_cross (ht : ∀ {x y z : α}, lt x y → lt y z → lt x z) {f : Nat → α} {a m b s lo up mid : Nat} (ham : a < m) (hmb : m < b) (hmid : mid = (a + b) / 2)
    (hA : srtF lt f a m) (hB : srtF lt f m b) (hlo : lo = if m > mid then mid + m - b else a) (hhi : up = if m > mid then mid else m) (hs1 : lo ≤ s) (hs2 : s ≤ up)
    (h1 : ∀ c, lo ≤ c → c < s → lt (f c) (f (mid + m - 1 - c))) (h2 : ∀ c, s ≤ c → c < up → lt (f (mid + m - 1 - c)) (f c)) :
    a ≤ s ∧ s ≤ m ∧ m ≤ mid + m - s ∧ mid + m - s ≤ b ∧ s ≤ mid ∧
    srtF lt (rotF f s m (mid + m - s)) a s ∧ srtF lt (rotF f s m (mid + m - s)) s mid ∧ srtF lt (rotF f s m (mid + m - s)) mid (mid + m - s) ∧ srtF lt (rotF f s m (mid + m - s)) (mid + m - s) b ∧
    ∀ i j, a ≤ i → i < mid → mid ≤ j → j < b → lt (rotF f s m (mid + m - s) i) (rotF f s m (mid + m - s) j) := by
  have hle : a ≤ s ∧ s ≤ m ∧ m ≤ mid + m - s ∧ mid + m - s ≤ b ∧ s ≤ mid := by
    split at hlo <;> split at hhi <;> omega
  obtain ⟨e1, e2, e3, e4, e5⟩ := hle
  have g1 : ∀ k, k < s → rotF f s m (mid + m - s) k = f k := fun k hk => by unfold rotF; rw [if_neg (by omega)]
  have g2 : ∀ k, s ≤ k → k < mid → rotF f s m (mid + m - s) k = f (k - s + m) := fun k hk1 hk2 => by unfold rotF; rw [if_pos (by omega), if_pos (by omega)]
  have g3 : ∀ k, mid ≤ k → k < mid + m - s → rotF f s m (mid + m - s) k = f (k - (mid - s)) := fun k hk1 hk2 => by
    unfold rotF
    rw [if_pos (by omega), if_neg (by omega)]
    congr 1; omega
  have g4 : ∀ k, mid + m - s ≤ k → rotF f s m (mid + m - s) k = f k := fun k hk => by unfold rotF; rw [if_neg (by omega)]
  refine ⟨e1, e2, e3, e4, e5, fun i j hi hij hj => ?_, fun i j hi hij hj => ?_, fun i j hi hij hj => ?_, fun i j hi hij hj => ?_, fun i j hi hi2 hj hj2 => ?_⟩
  · rw [g1 i (by omega), g1 j hj]; exact hA i j hi hij (by omega)
  · rw [g2 i hi (by omega), g2 j (by omega) hj]; exact hB _ _ (by omega) (by omega) (by omega)
  · rw [g3 i hi (by omega), g3 j (by omega) hj]; exact hA _ _ (by omega) (by omega) (by omega)
  · rw [g4 i hi, g4 j (by omega)]; exact hB i j (by omega) hij hj
  · have cAB : ∀ x y, a ≤ x → x < s → mid + m - s ≤ y → y < b → lt (f x) (f y) := fun x y hx1 hx2 hy1 hy2 => by
      by_cases hsl : s = lo
      · exfalso; split at hlo <;> omega
      · have h3 := h1 (s - 1) (by omega) (by omega)
        rw [show mid + m - 1 - (s - 1) = mid + m - s by omega] at h3
        have h4 : lt (f x) (f (mid + m - s)) := by
          rcases Nat.lt_or_ge x (s - 1) with h5 | h5
          · exact ht (hA x (s - 1) hx1 h5 (by omega)) h3
          · rwa [show x = s - 1 by omega]
        rcases Nat.lt_or_ge (mid + m - s) y with h5 | h5
        · exact ht h4 (hB _ y (by omega) h5 hy2)
        · rwa [show y = mid + m - s by omega]
    have cBA : ∀ x y, m ≤ x → x < mid + m - s → s ≤ y → y < m → lt (f x) (f y) := fun x y hx1 hx2 hy1 hy2 => by
      by_cases hsl : s = up
      · exfalso; split at hhi <;> omega
      · have h3 := h2 s (by omega) (by omega)
        rw [show mid + m - 1 - s = mid + m - s - 1 by omega] at h3
        have h4 : lt (f x) (f s) := by
          rcases Nat.lt_or_ge x (mid + m - s - 1) with h5 | h5
          · exact ht (hB x _ hx1 h5 (by omega)) h3
          · rwa [show x = mid + m - s - 1 by omega]
        rcases Nat.lt_or_ge s y with h5 | h5
        · exact ht h4 (hA _ y (by omega) h5 hy2)
        · rwa [show y = s by omega]
    rcases Nat.lt_or_ge i s with c1 | c1
    · rw [g1 i c1]
      rcases Nat.lt_or_ge j (mid + m - s) with c2 | c2
      · rw [g3 j hj c2]; exact hA _ _ hi (by omega) (by omega)
      · rw [g4 j c2]; exact cAB _ _ hi c1 c2 hj2
    · rw [g2 i c1 hi2]
      rcases Nat.lt_or_ge j (mid + m - s) with c2 | c2
      · rw [g3 j hj c2]; exact cBA _ _ (by omega) (by omega) (by omega) (by omega)
      · rw [g4 j c2]; exact hB _ _ (by omega) (by omega) hj2
end
end Go.Proofs.YteigplfldhdakaaGreatDoor.Dw
/- words in order: compare; the sort of short rows. -/
namespace Go.Proofs.YteigplfldhdakaaGreatDoor
open Go.RowKit Go.Shelf Go.Sort
attribute [local go_sem ↓] Go.wp_at_zero Go.wp_at_succ
/-- a word: what it is, how frequent -/
abbrev Wd := ByteArray × Int
def wdC (x : Wd) : List Value := [.string x.1, .int .i64 x.2]
theorem wdC_len (x : Wd) : (wdC x).length = 2 := rfl
theorem wdC_one (x : Wd) : ∀ v ∈ wdC x, v.oneCell' = true := fun v hv => by
  simp only [wdC, List.mem_cons, List.mem_nil_iff, or_false] at hv
  rcases hv with rfl | rfl <;> rfl
def cmpW (a b : Wd) : Int := cmpS a.1 b.1
set_option maxRecDepth 100000 in
set_option maxHeartbeats 2000000 in
theorem compare_l (a b : Wd) (w : World) : Calls Tryz.prog 105 #[.agg (wdC a).toArray, .agg (wdC b).toArray] w fun e w' => e = .returned (.int .i64 (cmpW a b)) ∧ Laid w w' := by
  obtain ⟨af, an⟩ := a
  obtain ⟨bf, bn⟩ := b
  unfold cmpW
  show Calls Tryz.prog 105 #[.agg #[.string af, .int .i64 an], .agg #[.string bf, .int .i64 bn]] w _
  obtain ⟨x, hx⟩ : ∃ x, cmpS af bf = x := ⟨_, rfl⟩
  have c1 : ∀ W, Calls Tryz.prog 95 #[.string af, .string bf] W fun e w' => e = .returned (.int .i64 x) ∧ w' = W := fun W => by rw [← hx]; exact cmps_c af bf W
  rw [hx]
  have C1 := hid c1
  clear c1 hx
  have HL := hid (((Laid.refl w).alloc (.cells #[.string af, .int .i64 an] 81)).alloc (.cells #[.string bf, .int .i64 bn] 81))
  go_enter Tryz.func105, Tryz.ntmps105
  go_wp2_with (go_at_call 95; refine (C1.out _).mono ?_; rintro e w1 ⟨rfl, rfl⟩)
  go_ret
  exact ⟨rfl, HL.out⟩
theorem cmpW_neg (a b : Wd) : cmpW a b < 0 ↔ ltS a.1 b.1 = true := by
  unfold cmpW cmpS
  by_cases h : ltS a.1 b.1 = true
  · rw [if_pos h]; simp [h]
  · rw [if_neg h]
    by_cases h2 : ltS b.1 a.1 = true
    · rw [if_pos h2]; simp [h]
    · rw [if_neg h2]; simp [h]
def ltW (a b : Wd) : Bool := ltS a.1 b.1
theorem ltOf_cmpW : ltOf cmpW = ltW := by
  funext a b
  show decide (cmpW a b < 0) = ltS a.1 b.1
  rw [Bool.eq_iff_iff, decide_eq_true_iff, cmpW_neg]
theorem ltW_swo : SWO ltW where
  irrefl x := ltS_irrefl x.1
  trans x y z h k := ltS_trans h k
  ntrans x y z h k := by
    unfold ltW at *
    cases hq : ltS x.1 z.1
    · rfl
    · rcases hyz : ltS z.1 y.1 with _ | _
      · have := ltS_total k hyz
        rw [this] at h
        rw [h] at hq
        cases hq
      · have := ltS_trans hq hyz
        rw [this] at h
        cases h
def insW_ren : Go.Shelf.Ren := ⟨fun | 20 => 219 | n => n, fun | 22 => 44 | 24 => 81 | 25 => 215 | n => n, fun | n => n⟩
theorem insW : Go.Proofs.SlLaysF0.n20 Tryz.prog insW_ren := {
  mixed := by kernel_rfl
  f20 := ⟨Tryz.f219.name, by decide, Tryz.func219.trans (congrArg some (by kernel_rfl))⟩
  t0 := Tryz.underlying0
  a0 := Tryz.isAgg0
  z0 := Tryz.sizeOf0
  v0 := Tryz.zeroValue0
  t3 := Tryz.underlying3
  a3 := Tryz.isAgg3
  z3 := Tryz.sizeOf3
  v3 := Tryz.zeroValue3
  t4 := Tryz.underlying4
  a4 := Tryz.isAgg4
  z4 := Tryz.sizeOf4
  v4 := Tryz.zeroValue4
  t22 := Tryz.underlying44
  a22 := Tryz.isAgg44
  z22 := Tryz.sizeOf44
  v22 := Tryz.zeroValue44
  t25 := Tryz.underlying215
  a25 := Tryz.isAgg215
  z25 := Tryz.sizeOf215
  v25 := Tryz.zeroValue215 }
theorem cmpLaysW (g off n : Nat) (w : World) : CmpLays Tryz.prog 105 #[] wdC 2 cmpW g off n w := fun m os dk _ x y => compare_l x y _
theorem enters105 : ∀ args w, (callFunc 105 args).run Tryz.prog w = .ok (.enter 105 args) w := enters_of Tryz.func105 (by kernel_rfl) rfl
/-- slices.insertionSortCmpFunc of words -/
theorem ins_c {g off cap a b : Nat} {d0 d : Array Wd} {w0 w : World} (R : RowK wdC 2 w0 g off d0) (hs : d0.size = d.size) (S : SWK wdC 2 w0 g off d w) (hab : a ≤ b) (hb : b ≤ d.size) (hsz : d.size < 4611686018427387904) :
    Calls Tryz.prog 219 #[.slice (some ⟨g, off, none⟩) d.size cap, .int .i64 a, .int .i64 b, .func (.func 105) #[] #[]] w fun e w' => e = .returned (.tuple #[]) ∧ ∃ d', SWK wdC 2 w0 g off d' w' ∧ PermIn a b d d' ∧ SortedIn ltW a b d' := by
  have h := AnyQ.insertionSortCmpFunc_w insW 2 Tryz.isAgg81 Tryz.sizeOf81 wdC cmpW 105 #[] g off cap a b d0 d w0 w enters105 (cmpLaysW g off _ w0) R hs S (by rw [ltOf_cmpW]; exact ltW_swo) hab hb hsz
  rw [ltOf_cmpW] at h
  have h2 := insertionSort_holds ltW_swo d a b hab hb
  exact h.mono fun e w' ⟨h3, h4⟩ => ⟨h3, _, h4, h2.1, h2.2⟩
/-- what lies at a place -/
theorem swk_cells {g off : Nat} {d0 d : Array Wd} {w0 W : World} (S : SWK wdC 2 w0 g off d W) (R : RowK wdC 2 w0 g off d0) (hs : d.size = d0.size) {i : Nat} (hi : i < d.size) :
    W.cell? ⟨g, off + i * 2, none⟩ = some (.string d[i]!.1) ∧ W.cell? ⟨g, off + i * 2 + 1, none⟩ = some (.int .i64 d[i]!.2) ∧ W.frozen? ⟨g, off + i * 2, none⟩ = false ∧ W.frozen? ⟨g, off + i * 2 + 1, none⟩ = false := by
  have hH := S.holds R.hblk R.hH hs
  have h1 := hH.cell hi (show 0 < 2 by decide)
  have h2 := hH.cell hi (show 1 < 2 by decide)
  exact ⟨h1.1, h2.1, h1.2, h2.2⟩
end Go.Proofs.YteigplfldhdakaaGreatDoor
