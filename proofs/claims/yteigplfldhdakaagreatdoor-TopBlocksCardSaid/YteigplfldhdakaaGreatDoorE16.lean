/- Operations that write: new blocks, stores. -/
import Derived.Test.YteigplfldhdakaaGreatDoorE15
import Derived.Great.BuildSlice
import Derived.Laws.MakeOwn
import Derived.Laws.CopyRow
import Derived.Carry
import Derived.Deep.Upon
set_option linter.unusedVariables false
set_option linter.unusedSimpArgs false
namespace Go.Proofs.YteigplfldhdakaaGreatDoor.Ev
open Go Go.RowKit
/-- a row of cells, new -/
def newA (s : AS) (ty : Nat) (L : List SV) : AS := ⟨(s.nx, .cells ty L) :: s.H, s.nx + 1⟩
theorem All2.size {γ : Pl} {L : List SV} {C : Array Value} (h : All2 (RS γ) L C.toList) : C.size = L.length := by
  have := All2.len h
  have e : C.toList.length = C.size := Array.length_toList
  omega
theorem HR.cells {γ : Pl} {s : AS} {w : World} {L : List SV} {C : Array Value} {e : TypeId} (h : HR γ s w) (hr : All2 (RS γ) L C.toList) :
    HR (ext γ s.nx (w.heap.size, 0, C.size)) (newA s e L) (w.alloc (.cells C e)) ∧ Fr γ s w (ext γ s.nx (w.heap.size, 0, C.size)) (newA s e L) (w.alloc (.cells C e)) := by
  have hsub := ext_sub (x := (w.heap.size, 0, C.size)) (h.nxt _ (Nat.le_refl _))
  refine HR.new h ⟨w.heap.size, 0, C.size, C, ext_at _ _ _, ?_, rfl, by rw [All2.size hr]; omega, fun i x hx => ?_⟩
  · show (w.heap.push _)[w.heap.size]? = _
    simp
  · obtain ⟨u, h1, h2⟩ := All2.get i hr hx
    exact ⟨u, by rw [Nat.zero_add]; rw [Array.getElem?_toList] at h1; exact h1, RS.mono hsub h2⟩
/-- a piece of the run, done: what comes out -/
structure Done (γ : Pl) (s : AS) (w : World) (v : AV) (s' : AS) (u : Value) (w' : World) : Prop where
  ex : ∃ γ', HR γ' s' w' ∧ Fr γ s w γ' s' w' ∧ RA γ' v u
theorem Done.quiet {γ : Pl} {s : AS} {w : World} {v : AV} {u : Value} (h : HR γ s w) (hv : RA γ v u) : Done γ s w v s u w := ⟨γ, h, Fr.refl _ _ _, hv⟩
def undA : AV := .tu []
theorem und_rel (γ : Pl) : RA γ undA undef := ⟨[], rfl, trivial⟩
def zL (P : Program) (t : Nat) : Option (List SV) := (zeroP P t).bind fun z => (absV z).bind AV.cells
theorem zL_rel {P : Program} {t : Nat} {L : List SV} (h : zL P t = some L) (γ : Pl) : ∃ z, zeroP P t = some z ∧ All2 (RS γ) L z.cells.toList := by
  obtain ⟨z, hz, h2⟩ := Option.bind_eq_some_iff.1 h
  obtain ⟨v, hv, h3⟩ := Option.bind_eq_some_iff.1 h2
  exact ⟨z, hz, RA.cells (absV_rel hv) h3⟩
section
variable {P : Program} {γ : Pl} {s : AS} {w : World}
theorem new_done {L : List SV} {C : Array Value} {e : TypeId} (h : HR γ s w) (hr : All2 (RS γ) L C.toList) : Done γ s w (.sc (.pt s.nx 0)) (newA s e L) (.pointer (some ⟨w.heap.size, 0, none⟩)) (w.alloc (.cells C e)) := by
  obtain ⟨h1, h2⟩ := HR.cells (e := e) h hr
  exact ⟨_, h1, h2, w.heap.size, 0, C.size, ext_at _ _ _, rfl⟩
theorem alloc_ok {e : Nat} {L : List SV} (h : HR γ s w) (hz : zL P e = some L) : ∃ u w', (Instr.alloc e true (.tuple #[])).run P w = .ok u w' ∧ Done γ s w (.sc (.pt s.nx 0)) (newA s e L) u w' := by
  obtain ⟨z, hz1, hz2⟩ := zL_rel hz γ
  exact ⟨_, _, by simp [Instr.alloc, run_zeroP hz1, newVar, newRow], new_done (e := e) h hz2⟩
theorem box_ok {e : Nat} {v : AV} {u : Value} {L : List SV} (h : HR γ s w) (hv : RA γ v u) (hl : v.cells = some L) : ∃ u' w', (Instr.box e u).run P w = .ok u' w' ∧ Done γ s w (.sc (.pt s.nx 0)) (newA s e L) u' w' :=
  ⟨_, _, by simp [Instr.box, newVar, newRow], new_done (e := e) h (RA.cells hv hl)⟩
theorem makeMap_ok {t : Nat} (h : HR γ s w) : ∃ u w', (Instr.makeMap t none).run P w = .ok u w' ∧ Done γ s w (.sc (.mp s.nx)) ⟨(s.nx, .map []) :: s.H, s.nx + 1⟩ u w' := by
  have hh := HR.new (S := 0) (p := .map #[] 0) (o := .map []) h ⟨w.heap.size, 0, 0, #[], ext_at _ _ _, by show (w.heap.push _)[w.heap.size]? = _; simp, trivial⟩
  exact ⟨_, _, run_makeMap t w, _, hh.1, hh.2, w.heap.size, 0, 0, ext_at _ _ _, rfl⟩
/-- parts are laid into a row -/
def afill (place : Nat → Option (Nat × Nat)) (L : List SV) : List (Nat × AV) → Option (List SV)
  | [] => some L
  | (i, v) :: r => match place i, v.cells with
    | some (off, size), some xs => if xs.length = size ∧ off + xs.length ≤ L.length then afill place (L.take off ++ xs ++ L.drop (off + xs.length)) r else none
    | _, _ => none
theorem foldl_seg : ∀ (l : List Value) (off i : Nat) (C : Array Value), off + i + l.length ≤ C.size →
    ((l.zipIdx i).foldl (fun (cs : Array Value) (p : Value × Nat) => cs.setIfInBounds (off + p.2) p.1) C).toList = C.toList.take (off + i) ++ l ++ C.toList.drop (off + i + l.length)
  | [], off, i, C, _ => by simp
  | v :: l, off, i, C, hl => by
    rw [List.length_cons] at hl
    rw [List.zipIdx_cons, List.foldl_cons, foldl_seg l off (i + 1) _ (by simp; omega)]
    have hC : C.toList.length = C.size := Array.length_toList
    apply List.ext_getElem?
    intro k
    simp only [Array.toList_setIfInBounds, List.getElem?_append, List.length_append, List.length_take, List.length_set, List.length_cons, List.getElem?_take, List.getElem?_set, List.getElem?_drop, List.getElem?_cons]
    grind
theorem afill_ok {place : Nat → Option (Nat × Nat)} : ∀ {ps : List (Nat × AV)} {qs : List (Nat × Value)} {L L' : List SV} {C : Array Value}, All2 (fun p q => p.1 = q.1 ∧ RA γ p.2 q.2) ps qs → All2 (RS γ) L C.toList → afill place L ps = some L' →
    ∃ C', Instr.fill place C qs = some C' ∧ All2 (RS γ) L' C'.toList
  | [], [], L, L', C, _, hC, h => by cases h; exact ⟨C, rfl, hC⟩
  | (i, v) :: ps, (j, u) :: qs, L, L', C, hp, hC, h => by
    obtain ⟨⟨hij, hv⟩, hp2⟩ := hp
    simp only at hij hv
    subst hij
    unfold afill at h
    split at h
    · rename_i off size xs hpl hxs
      split at h
      · rename_i hc
        obtain ⟨hc1, hc2⟩ := hc
        have hcl := RA.cells hv hxs
        have hsz := All2.size hcl
        have hsC := All2.size hC
        have hseg := foldl_seg u.cells.toList off 0 C (by have : u.cells.toList.length = u.cells.size := Array.length_toList; omega)
        have hul : u.cells.toList.length = xs.length := by have : u.cells.toList.length = u.cells.size := Array.length_toList; omega
        rw [Nat.add_zero, hul] at hseg
        have hnew : All2 (RS γ) (L.take off ++ xs ++ L.drop (off + xs.length)) ((u.cells.zipIdx.foldl (fun (cs : Array Value) (p : Value × Nat) => cs.setIfInBounds (off + p.2) p.1) C)).toList := by
          rw [← Array.foldl_toList, Array.toList_zipIdx, hseg]
          exact All2.app (All2.app (All2.take _ hC) hcl) (All2.drop _ hC)
        obtain ⟨C', h1, h2⟩ := afill_ok hp2 hnew h
        refine ⟨C', ?_, h2⟩
        have hno : ¬ (u.cells.size ≠ size ∨ off + u.cells.size > C.size) := by omega
        simp only [Instr.fill, hpl]
        rw [if_neg (by simpa using hno)]
        exact h1
      · cases h
    · cases h
  | [], _ :: _, _, _, _, hp, _, _ => hp.elim
  | _ :: _, [], _, _, _, hp, _, _ => hp.elim
def placesP (P : Program) (t : Nat) : Option (List (Nat × Nat)) :=
  match P.underlying t with
  | some (.struct fs) => fs.toList.mapM fun f => (P.info? f.type).map fun i => (f.offset, i.size)
  | _ => none
def buildA (P : Program) (t : Nat) (ps : List (Nat × AV)) : Option AV :=
  match placesP P t, zL P t with
  | some pl, some L => (afill (fun i => pl[i]?) L ps).map .ag
  | _, _ => none
theorem build_ok {t : Nat} {ps : List (Nat × AV)} {qs : Array (Nat × Value)} {v : AV} (hp : All2 (fun p q => p.1 = q.1 ∧ RA γ p.2 q.2) ps qs.toList) (h : buildA P t ps = some v) :
    ∃ u, (Instr.build t qs).run P w = .ok u w ∧ RA γ v u := by
  unfold buildA at h
  split at h
  · rename_i pl L hpl hz
    obtain ⟨L', hL', rfl⟩ := Option.map_eq_some_iff.1 h
    obtain ⟨z, hz1, hz2⟩ := zL_rel hz γ
    obtain ⟨i, hi, hz3⟩ := Option.bind_eq_some_iff.1 hz1
    obtain ⟨C', h1, h2⟩ := afill_ok hp hz2 hL'
    unfold placesP at hpl
    split at hpl
    · rename_i fs hu
      have hb : P.built t qs.toList = some C' := by
        unfold Program.built
        simp only [hi, hu, hz3, hpl]
        rw [← h1]
        congr 1
        funext k
        simp
      exact ⟨_, run_build w t qs C' hb, C'.toList, by simp, h2⟩
    · cases hpl
  · cases h
def made (L : List SV) (n : Nat) : List SV := (List.range n).map fun k => (L[k % L.length]?).getD (.f .nilp)
theorem made_rel {L : List SV} {C : Array Value} (h : All2 (RS γ) L C.toList) (h0 : 0 < L.length) (n : Nat) : All2 (RS γ) (made L n) (madeCells C n).toList := by
  refine All2.of (by simp [made, madeCells]) fun i x y hx hy => ?_
  unfold made at hx
  rw [List.getElem?_map] at hx
  obtain ⟨k, hk, rfl⟩ := Option.map_eq_some_iff.1 hx
  have hin : i < n := by
    have := (List.getElem?_eq_some_iff.1 hk).1
    simpa using this
  have hki : k = i := by
    have := (List.getElem?_eq_some_iff.1 hk).2
    simpa using this.symm
  subst hki
  have hlt : k % L.length < L.length := Nat.mod_lt _ h0
  obtain ⟨u, h1, h2⟩ := All2.get (k % L.length) h (List.getElem?_eq_getElem hlt)
  rw [List.getElem?_eq_getElem hlt, Option.getD_some]
  have hy' : y = u := by
    simp only [madeCells, Array.getElem?_toList, Array.getElem?_map, Array.getElem?_range] at hy
    rw [if_pos hin, Option.map_some] at hy
    have hs := All2.size h
    rw [← Option.some.inj hy, hs]
    rw [Array.getElem?_toList] at h1
    rw [getElem!_def, h1]
  rw [hy']
  exact h2
def bsliceA (P : Program) (s : AS) (t n : Nat) (ps : List (Nat × AV)) : Option (AV × AS) :=
  match elemP P t with
  | some e => match sizeP P e, zL P e with
    | some z, some L =>
      if n = 0 ∧ ps.isEmpty then some (.sc (.sl s.nx 0 0 (some 0) z), newA s e [])
      else if 0 < n * z ∧ n * z ≤ 10000 ∧ 0 < L.length then (afill (fun i => some (i * z, z)) (made L (n * z)) ps).map fun L' => (.sc (.sl s.nx 0 n (some n) z), newA s e L') else none
    | _, _ => none
  | none => none
theorem run_sizeP' {P : Program} {e z : Nat} (hz : sizeP P e = some z) (w : World) : (sizeOf e).run P w = .ok z w := run_sizeP hz w
theorem afill_len {place : Nat → Option (Nat × Nat)} : ∀ {ps : List (Nat × AV)} {L L' : List SV}, afill place L ps = some L' → L'.length = L.length
  | [], L, L', h => by cases h; rfl
  | (i, v) :: ps, L, L', h => by
    unfold afill at h
    split at h
    · rename_i off size xs hpl hxs
      split at h
      · rename_i hc
        rw [afill_len h, List.length_append, List.length_append, List.length_take, List.length_drop]
        omega
      · cases h
    · cases h
theorem bslice_ok {t n : Nat} {ps : List (Nat × AV)} {qs : Array (Nat × Value)} {r : AV × AS} (h : HR γ s w) (hp : All2 (fun p q => p.1 = q.1 ∧ RA γ p.2 q.2) ps qs.toList) (hb : bsliceA P s t n ps = some r) :
    ∃ u w', (Instr.buildSlice t n qs).run P w = .ok u w' ∧ Done γ s w r.1 r.2 u w' := by
  unfold bsliceA at hb
  split at hb
  · rename_i e he
    split at hb
    · rename_i z L hz hL
      split at hb
      · rename_i hc0
        obtain ⟨rfl, hpe⟩ := hc0
        cases hb
        have hps : ps = [] := by simpa using hpe
        subst hps
        have hqs : qs = #[] := by
          have := All2.len hp
          have h2 : qs.toList = [] := List.eq_nil_of_length_eq_zero (by simpa using this.symm)
          simpa using h2
        subst hqs
        have hrun : (Instr.buildSlice t 0 #[]).run P w = .ok (.slice (some ⟨w.heap.size, 0, none⟩) 0 0) (w.alloc (.cells #[] e)) := by
          simp [Instr.buildSlice, run_underlying (elemP_some he), run_sizeP' hz w, Instr.fill, newRow, Array.range_zero']
        obtain ⟨k1, k2⟩ := HR.cells (e := e) (L := []) (C := #[]) h trivial
        exact ⟨_, _, hrun, _, k1, k2, w.heap.size, 0, 0, 0, ext_at _ _ _, rfl, Nat.le_refl _, rfl, by omega⟩
      rename_i hc0
      split at hb
      · rename_i hc
        obtain ⟨hc1, hc2, hc3⟩ := hc
        obtain ⟨L', hL', rfl⟩ := Option.map_eq_some_iff.1 hb
        obtain ⟨zv, hz1, hz2⟩ := zL_rel hL γ
        obtain ⟨i, hi, his⟩ := Option.map_eq_some_iff.1 hz
        obtain ⟨i', hi', hz3⟩ := Option.bind_eq_some_iff.1 hz1
        rw [hi] at hi'
        cases hi'
        subst his
        obtain ⟨C', h1, h2⟩ := afill_ok hp (made_rel hz2 hc3 (n * i.size)) hL'
        refine ⟨_, _, run_buildSlice w t e n qs C' i zv (elemP_some he) hi hz3 (by omega) (by omega) h1, ?_⟩
        obtain ⟨k1, k2⟩ := HR.cells (e := e) h h2
        have hsz : C'.size = n * i.size := by rw [All2.size h2, afill_len hL']; simp [made]
        exact ⟨_, k1, k2, w.heap.size, 0, C'.size, n, ext_at _ _ _, rfl, Nat.le_refl _, rfl, by omega⟩
      · cases hb
    · cases hb
  · cases hb
def mslA (P : Program) (s : AS) (t : Nat) (l c : AV) : Option (AV × AS) :=
  match elemP P t, l, c with
  | some e, .sc (.f (.int _ l)), .sc (.f (.int _ c)) => match sizeP P e, zL P e, (P.info? e).map (·.bytes) with
    | some z, some L, some by_ => if 0 ≤ l ∧ l ≤ c ∧ c ≤ 10000 ∧ (by_ : Int) * c ≤ 1000000 ∧ 0 < L.length then some (.sc (.sl s.nx 0 l.toNat (some c.toNat) z), newA s e (made L (c.toNat * z))) else none
    | _, _, _ => none
  | _, _, _ => none
theorem msl_ok {t : Nat} {l c : AV} {ul uc : Value} {r : AV × AS} (h : HR γ s w) (hl : RA γ l ul) (hc : RA γ c uc) (hb : mslA P s t l c = some r) : ∃ u w', (Instr.makeSlice t ul uc).run P w = .ok u w' ∧ Done γ s w r.1 r.2 u w' := by
  unfold mslA at hb
  split at hb
  · rename_i e kl l kc c he
    split at hb
    · rename_i z L by_ hz hL hby
      split at hb
      · rename_i hcn
        obtain ⟨h1, h2, h3, h4, h5⟩ := hcn
        cases hb
        have hl' : ul = .int kl l := hl
        have hc' : uc = .int kc c := hc
        subst hl'
        subst hc'
        obtain ⟨zv, hz1, hz2⟩ := zL_rel hL γ
        obtain ⟨i, hi, his⟩ := Option.map_eq_some_iff.1 hz
        obtain ⟨i', hi', hz3⟩ := Option.bind_eq_some_iff.1 hz1
        obtain ⟨i'', hi'', hb2⟩ := Option.map_eq_some_iff.1 hby
        rw [hi] at hi' hi''
        cases hi'
        cases hi''
        subst his
        have hb3 : (i.bytes : Int) = by_ := by rw [hb2]
        have hm := made_rel hz2 h5 (c.toNat * i.size)
        obtain ⟨k1, k2⟩ := HR.cells (e := e) h hm
        refine ⟨_, _, run_make w t e i zv (elemP_some he) hi hz3 kl kc l c h1 h2 (by rw [hb3]; omega) (by omega), ⟨_, k1, k2, ?_⟩⟩
        exact ⟨w.heap.size, 0, _, c.toNat, ext_at _ _ _, rfl, by omega, rfl, by rw [size_madeCells]; omega⟩
      · cases hb
    · cases hb
  · cases hb
def storeA (P : Program) (s : AS) (t : Nat) (a v : AV) : Option AS :=
  match a, v.cells with
  | .sc (.pt b o), some xs => match fnd s.H b with
    | some (.cells ty L) => if sizeP P t = some xs.length ∧ o + xs.length ≤ L.length then some ⟨(b, .cells ty (L.take o ++ xs ++ L.drop (o + xs.length))) :: ers s.H b, s.nx⟩ else none
    | _ => none
  | _, _ => none
/-- cells of a block are written -/
theorem row_done {b o B d S ty : Nat} {L xs : List SV} {vs : List Value} (h : HR γ s w) (hf : fnd s.H b = some (.cells ty L)) (hb : γ b = some (B, d, S)) (hl : o + xs.length ≤ L.length) (hx : All2 (RS γ) xs vs) :
    ∃ C, w.heap[B]? = some (.cells C ty (0, 0)) ∧ C.size = S ∧ d + L.length ≤ S ∧
      HR γ ⟨(b, .cells ty (L.take o ++ xs ++ L.drop (o + xs.length))) :: ers s.H b, s.nx⟩ (w.setRow B (C.toList.take (d + o) ++ vs ++ C.toList.drop (d + o + vs.length)).toArray) ∧
      Fr γ s w γ ⟨(b, .cells ty (L.take o ++ xs ++ L.drop (o + xs.length))) :: ers s.H b, s.nx⟩ (w.setRow B (C.toList.take (d + o) ++ vs ++ C.toList.drop (d + o + vs.length)).toArray) := by
  have hm := fnd_mem hf
  obtain ⟨B', d', S', C, h1, h2, h3, h4, h5⟩ := h.obj _ _ hm
  rw [hb] at h1
  cases h1
  have hvl := All2.len hx
  have hC : C.toList.length = C.size := Array.length_toList
  have hlen : (C.toList.take (d + o) ++ vs ++ C.toList.drop (d + o + vs.length)).length = S := by
    rw [List.length_append, List.length_append, List.length_take, List.length_drop]; omega
  refine ⟨C, h2, h3, h4.1, ?_⟩
  refine HR.upd h hm hb (Sub.refl _) hb (.inl rfl) (by simp) (fun k hk => setRow_other w B k _ hk) ⟨B, d, S, _, hb, setRow_heap w B C _ ty (0, 0) h2, by simpa using hlen, ?_, fun i x hx' => ?_⟩ h.nxt ⟨rfl, rfl, rfl⟩ (fun _ _ h => .inl h) (Nat.le_refl _)
  · rw [List.length_append, List.length_append, List.length_take, List.length_drop]; omega
  · have hg : ∀ k : Nat, (C.toList.take (d + o) ++ vs ++ C.toList.drop (d + o + vs.length)).toArray[k]? = (C.toList.take (d + o) ++ vs ++ C.toList.drop (d + o + vs.length))[k]? := fun k => by simp
    rw [hg]
    rw [List.getElem?_append, List.getElem?_append] at hx' ⊢
    simp only [List.length_append, List.length_take] at hx' ⊢
    have hm1 : min o L.length = o := by omega
    have hm2 : min (d + o) C.toList.length = d + o := by omega
    rw [hm1] at hx'
    rw [hm2]
    by_cases c1 : i < o
    · rw [if_pos (by omega), if_pos (by omega), List.getElem?_take, if_pos (by omega)] at hx' ⊢
      obtain ⟨u, k1, k2⟩ := h5 i x hx'
      exact ⟨u, by rw [Array.getElem?_toList]; exact k1, k2⟩
    · by_cases c2 : i < o + xs.length
      · rw [if_pos (by omega), if_neg (by omega)] at hx' ⊢
        obtain ⟨u, k1, k2⟩ := All2.get _ hx hx'
        exact ⟨u, by rw [show d + i - (d + o) = i - o by omega]; exact k1, k2⟩
      · rw [if_neg (by omega), List.getElem?_drop] at hx' ⊢
        obtain ⟨u, k1, k2⟩ := h5 i x (by rw [← hx']; congr 1; omega)
        exact ⟨u, by rw [Array.getElem?_toList, ← k1]; congr 1; omega, k2⟩
theorem store_ok {t : Nat} {a v : AV} {ua uv : Value} {s' : AS} (h : HR γ s w) (ha : RA γ a ua) (hv : RA γ v uv) (hs : storeA P s t a v = some s') :
    ∃ w', (Instr.storeAt t ua uv).run P w = .ok () w' ∧ HR γ s' w' ∧ Fr γ s w γ s' w' := by
  unfold storeA at hs
  split at hs
  · rename_i b o xs hxs
    split at hs
    · rename_i ty L hf
      split at hs
      · rename_i hc
        obtain ⟨hc1, hc2⟩ := hc
        cases hs
        obtain ⟨B, d, S, hb, rfl⟩ := ha
        have hcl := RA.cells hv hxs
        have hlen := All2.len hcl
        obtain ⟨C, k1, k2, k3, k4⟩ := row_done h hf hb hc2 hcl
        refine ⟨_, ?_, k4⟩
        have h1 : ∀ v ∈ uv.cells.toList, v.oneCell' = true := fun v hv' => by
          obtain ⟨i, hi⟩ := List.getElem?_of_mem hv'
          obtain ⟨x, _, hx⟩ := All2.get' i hcl hi
          exact RS.one hx
        have hst := run_storeCells_at (P := P) B (d + o) ty uv.cells.toList 0 C w k1 (by omega) h1
        rw [Nat.add_zero] at hst
        have hsz : uv.cells.size = xs.length := All2.size hcl
        simp only [Instr.storeAt, Instr.sureAddr, Sem.run_bind, Sem.run_pure, Result.andThen_ok, storeVar, run_sizeP hc1 w]
        rw [if_neg (by omega)]
        simp only [Sem.run_bind, Sem.run_pure, Result.andThen_ok, hst]
      · cases hs
    · cases hs
  · cases hs
end
end Go.Proofs.YteigplfldhdakaaGreatDoor.Ev
/- append. -/
namespace Go.Proofs.YteigplfldhdakaaGreatDoor.Ev
open Go Go.RowKit
theorem HR.drew {γ : Pl} {s : AS} {w : World} (h : HR γ s w) : HR γ s w.drew := ⟨fun b o hb => OR.mono (Sub.refl _) (fun _ _ _ _ => rfl) (h.obj b o hb), h.nod, h.inj, h.nxt⟩
theorem Fr.of_drew {γ γ' : Pl} {s s' : AS} {w w' : World} (h : Fr γ s w.drew γ' s' w') : Fr γ s w γ' s' w' := ⟨h.sub, h.size, h.keep, h.im, h.same, h.ids, h.nxle⟩
section
variable {P : Program} {γ : Pl} {s : AS} {w : World}
theorem setCells_row {B o : Nat} {C : Array Value} {e : TypeId} {vs : List Value} (hB : w.heap[B]? = some (.cells C e (0, 0))) (hl : o + vs.length ≤ C.size) (h1 : ∀ v ∈ vs, v.oneCell' = true) :
    w.setCells B o vs = w.setRow B (C.toList.take o ++ vs ++ C.toList.drop (o + vs.length)).toArray := by
  have e1 := run_storeCells_at (P := default) B o e vs 0 C w hB (by omega) h1
  have e2 := run_storeCells_cells (P := default) B o vs 0 w (fun j hj => by simp [World.cell?, hB]; omega) (fun j hj => by simp [World.frozen?, hB]) h1
  rw [e2] at e1
  simpa using e1
/-- a block's cells are written, and it goes on under its own number or a new one -/
theorem row_upd {b b' nx' B d d' S ty e : Nat} {γ' : Pl} {L L' : List SV} {C C' : Array Value} (h : HR γ s w) (hf : fnd s.H b = some (.cells ty L)) (hb : γ b = some (B, d, S)) (hB : w.heap[B]? = some (.cells C e (0, 0))) (hs : Sub γ γ') (hb' : γ' b' = some (B, d', S))
    (hne : b' = b ∨ b' ∉ s.H.map (·.1)) (hsz : C'.size = S) (hl : d' + L'.length ≤ S ∧ (e = 121 → d' = 0 ∧ S = L'.length)) (hc : ∀ i x, L'[i]? = some x → ∃ u, C'[d' + i]? = some u ∧ RS γ x u) (hn : ∀ k, nx' ≤ k → γ' k = none) (hids : ∀ k x, γ' k = some x → γ k = some x ∨ s.nx ≤ k) (hnx : s.nx ≤ nx') :
    HR γ' ⟨(b', .cells e L') :: ers s.H b, nx'⟩ (w.setRow B C') ∧ Fr γ s w γ' ⟨(b', .cells e L') :: ers s.H b, nx'⟩ (w.setRow B C') :=
  HR.upd h (fnd_mem hf) hb hs hb' hne (by simp) (fun k hk => setRow_other w B k _ hk)
    ⟨B, d', S, C', hb', setRow_heap w B C _ e (0, 0) hB, hsz, hl, fun i x hx => let ⟨u, h1, h2⟩ := hc i x hx; ⟨u, h1, RS.mono hs h2⟩⟩ hn ⟨rfl, rfl, rfl⟩ hids hnx
/-- what is appended -/
def isStr (P : Program) (t : Nat) : Bool := match P.underlying t with | some .string => true | _ => false
def srcA (P : Program) (s : AS) (z tx : Nat) : AV → Option (Nat × List SV)
  | .sc (.f .nils) => if isSl P tx then some (0, []) else none
  | .sc (.f (.str l)) => if isStr P tx ∧ z = 1 then some (l.length, l.map fun b => .f (.int .u8 b.toNat)) else none
  | .sc (.sl b o n c z') => match fnd s.H b with
    | some (.cells ty L) => if isSl P tx ∧ z' = z ∧ o + n * z ≤ L.length then some (n, (L.drop o).take (n * z)) else none
    | _ => none
  | _ => none
theorem RS.ones {xs : List SV} {us : List Value} (h : All2 (RS γ) xs us) : ∀ v ∈ us, v.oneCell' = true := fun v hv => by
  obtain ⟨i, hi⟩ := List.getElem?_of_mem hv
  obtain ⟨x, _, hx⟩ := All2.get' i h hi
  exact RS.one hx
theorem src_ok {z m : Nat} {x : AV} {u : Value} {news : List SV} {tx : TypeId} (h : HR γ s w) (hx : RA γ x u) (hs : srcA P s z tx x = some (m, news)) :
    ∃ us, All2 (RS γ) news us ∧ Src P z tx u m us w := by
  have hk : isSl P tx = true → ∃ e', P.underlying tx = some (.slice e') := fun ht => by
    unfold isSl at ht
    split at ht
    · rename_i e he; exact ⟨e, he⟩
    · cases ht
  unfold srcA at hs
  split at hs
  · split at hs
    · rename_i ht
      obtain ⟨e', hk⟩ := hk ht
      cases hs
      have : u = .slice none 0 0 := hx
      subst this
      exact ⟨[], trivial, Src.ofNil w hk 0⟩
    · cases hs
  · rename_i l
    split at hs
    · rename_i hc
      obtain ⟨ht, rfl⟩ := hc
      have hk : P.underlying tx = some .string := by
        unfold isStr at ht
        split at ht
        · rename_i he; exact he
        · cases ht
      cases hs
      have : u = .string ⟨⟨l⟩⟩ := hx
      subst this
      refine ⟨byteCells ⟨⟨l⟩⟩, ?_, Src.ofString w hk ⟨⟨l⟩⟩⟩
      show All2 (RS γ) _ (l.map fun b => Value.int .u8 b.toNat)
      clear hx
      induction l with
      | nil => trivial
      | cons b r ih => exact ⟨rfl, ih⟩
    · cases hs
  · rename_i b o n c z'
    split at hs
    · rename_i ty L hf
      split at hs
      · rename_i hc
        obtain ⟨ht, rfl, hl⟩ := hc
        obtain ⟨e', hk⟩ := hk ht
        cases hs
        obtain ⟨B, d, S, c', hb, rfl, hn, _⟩ := hx
        obtain ⟨us, h1, h2, h3⟩ := OR.range (h.obj _ _ (fnd_mem hf)) hb hl
        exact ⟨us, h2, Src.ofSlice w hk ⟨B, d + o, none⟩ _ c' us h1 (fun j v hv => by rw [Addr.add_mid]; exact h3 j v hv) (RS.ones h2)⟩
      · cases hs
    · cases hs
  · cases hs
/-- a row that is new, of which the beginning is known -/
theorem HR.grown {L : List SV} {C : Array Value} {e : TypeId} (he : e ≠ 121) (h : HR γ s w) (hl : L.length ≤ C.size) (hc : ∀ (i : Nat) (x : SV), L[i]? = some x → ∃ u, C[i]? = some u ∧ RS γ x u) :
    HR (ext γ s.nx (w.heap.size, 0, C.size)) (newA s e L) (w.drew.alloc (.cells C e)) ∧ Fr γ s w (ext γ s.nx (w.heap.size, 0, C.size)) (newA s e L) (w.drew.alloc (.cells C e)) := by
  have hsub := ext_sub (x := (w.heap.size, 0, C.size)) (h.nxt _ (Nat.le_refl _))
  have hn := HR.new (p := .cells C e) (o := .cells e L) (S := C.size) h.drew ⟨w.heap.size, 0, C.size, C, ext_at _ _ _, by show (w.heap.push _)[w.heap.size]? = _; simp, rfl, ⟨by omega, fun h => absurd h he⟩, fun i x hx => by
    obtain ⟨u, h1, h2⟩ := hc i x hx
    exact ⟨u, by rw [Nat.zero_add]; exact h1, RS.mono hsub h2⟩⟩
  exact ⟨hn.1, Fr.of_drew hn.2⟩
/-- a block is left behind -/
theorem HR.forget (h : HR γ s w) (b : Nat) : HR γ ⟨ers s.H b, s.nx⟩ w := by
  have hsub : ∀ k, k ∈ (ers s.H b).map (·.1) → k ∈ s.H.map (·.1) := fun k hk => by
    obtain ⟨x, hx, rfl⟩ := List.mem_map.1 hk
    exact List.mem_map.2 ⟨x, ers_mem hx, rfl⟩
  exact ⟨fun k o hk => h.obj k o (ers_mem hk), ((ers_sub s.H b).map _).nodup h.nod, fun k k' x y h1 h2 => h.inj k k' x y (hsub _ h1) (hsub _ h2), h.nxt⟩
theorem Fr.of_forget {γ' : Pl} {s' : AS} {w' : World} {b : Nat} (h : Fr γ ⟨ers s.H b, s.nx⟩ w γ' s' w') : Fr γ s w γ' s' w' := by
  have hi : ∀ k, Im γ ⟨ers s.H b, s.nx⟩ k → Im γ s k := fun k ⟨q, d, z, h1, h2⟩ => by
    obtain ⟨x, hx, rfl⟩ := List.mem_map.1 h1
    exact ⟨x.1, d, z, List.mem_map.2 ⟨x, ers_mem hx, rfl⟩, h2⟩
  exact ⟨h.sub, h.size, fun k hk hn => h.keep k hk fun hh => hn (hi k hh), fun k hk => (h.im k hk).imp_left (hi k), h.same, h.ids, h.nxle⟩
def appA (P : Program) (s : AS) (t tx : Nat) (a x : AV) : Option (AV × AS) :=
  match elemP P t with
  | some e => match sizeP P e, zL P e, (P.info? e).map (·.bytes) with
    | some z, some Lz, some by_ =>
      if Lz.length = z ∧ 0 < z ∧ e ≠ 121 then
        match srcA P s z tx x with
        | some (m, news) =>
          match a with
          | .sc (.f .nils) => if m = 0 then some (.sc (.f .nils), s) else if m * by_ ≤ 1000000000 ∧ m ≤ 1000000000 then some (.sc (.sl s.nx 0 m none z), newA s e news) else none
          | .sc (.sl b o n c z') => match fnd s.H b with
            | some (.cells ty L) =>
              if z' = z ∧ (n + m) * by_ ≤ 1000000000 ∧ n + m ≤ 1000000000 ∧ o + n * z ≤ L.length then
                if o + (n + m) * z ≤ L.length ∧ n + m ≤ c.getD (n + m) then some (.sc (.sl b o (n + m) c z), ⟨(b, .cells ty (L.take (o + n * z) ++ news ++ L.drop (o + n * z + news.length))) :: ers s.H b, s.nx⟩)
                else match c with
                  | some c0 => if c0 < n + m then some (.sc (.sl s.nx 0 (n + m) none z), newA s e ((L.drop o).take (n * z) ++ news)) else none
                  | none => if ty = e then some (.sc (.sl s.nx 0 (n + m) none z), ⟨(s.nx, .cells e ((L.drop o).take (n * z) ++ news)) :: ers s.H b, s.nx + 1⟩) else none
              else none
            | _ => none
          | .sc (.se b z') => match fnd s.H b with
            | some (.cells ty L) => if z' = z ∧ m * by_ ≤ 1000000000 ∧ m ≤ 1000000000 ∧ 0 < m ∧ ty = e then some (.sc (.sl s.nx 0 m none z), ⟨(s.nx, .cells e news) :: ers s.H b, s.nx + 1⟩) else none
            | _ => none
          | _ => none
        | none => none
      else none
    | _, _, _ => none
  | none => none
/-- there is no room: a new row -/
theorem grow_done {t tx ty e : Nat} (he : e ≠ 121) {i : TypeInfo} {zv : Value} {olds : List SV} {ov : List Value} {news : List SV} {nv : List Value} {base : Option Addr} {n m c : Nat} {x : Value} (h : HR γ s w) (ht : P.underlying t = some (.slice e)) (hi : P.info? e = some i) (hz : i.zero = some zv)
    (hzs : zv.cells.size = i.size) (hold : (Builtin.firstCells i.size n (.slice base n c)).run P w.drew = .ok ov.toArray w.drew) (ho : All2 (RS γ) olds ov) (hol : olds.length = n * i.size) (hs : Src P i.size tx x m nv w) (hn : All2 (RS γ) news nv)
    (hg : c < n + m) (hb1 : (n + m) * i.bytes ≤ 1000000000) (hb2 : n + m ≤ 1000000000) :
    ∃ u w', (Builtin.append_ #[t, tx] ty #[.slice base n c, x]).run P w = .ok u w' ∧ Done γ s w (.sc (.sl s.nx 0 (n + m) none i.size)) (newA s e (olds ++ news)) u w' := by
  have hfit : Builtin.nextslicecap (n + m) c * i.bytes ≤ 281474976710656 := growslice_fits hg (by omega)
  refine ⟨_, _, run_append_grow_src (P := P) w t tx ty e i zv ht hi hz base n c ov hold x m nv hs hg (by omega) hfit, ?_⟩
  have hcap : n + m ≤ grownCap w (n + m) c e := by
    unfold grownCap
    simp only [Question.cut]
    omega
  have hov := All2.len ho
  have hnv := All2.len hn
  have hnl := hs.newsLen
  have hzl : (Builtin.zeroCells zv.cells (grownCap w (n + m) c e - (n + m))).size = (grownCap w (n + m) c e - (n + m)) * i.size := by simp [Builtin.zeroCells, hzs]
  have hCs : ((ov ++ nv).toArray ++ Builtin.zeroCells zv.cells (grownCap w (n + m) c e - (n + m))).size = grownCap w (n + m) c e * i.size := by
    rw [Array.size_append, hzl, List.size_toArray, List.length_append, ← hov, hol, hnl, ← Nat.add_mul, ← Nat.add_mul]
    congr 1
    omega
  obtain ⟨k1, k2⟩ := HR.grown he (L := olds ++ news) (C := (ov ++ nv).toArray ++ Builtin.zeroCells zv.cells (grownCap w (n + m) c e - (n + m))) h (by
      rw [Array.size_append, List.size_toArray, List.length_append, List.length_append]; omega) (fun j y hj => by
      obtain ⟨u, h1, h2⟩ := All2.get j (All2.app ho hn) hj
      refine ⟨u, ?_, h2⟩
      have hlt := (List.getElem?_eq_some_iff.1 h1).1
      rw [Array.getElem?_append_left (by simpa using hlt)]
      simpa using h1)
  exact ⟨_, k1, k2, w.heap.size, 0, _, _, ext_at _ _ _, rfl, hcap, by rw [hCs]; omega⟩
/-- there is room -/
theorem room_run {t tx ty e B o n c m S : Nat} {i : TypeInfo} {C : Array Value} {nv : List Value} {x : Value} {fe : TypeId} (ht : P.underlying t = some (.slice e)) (hi : P.info? e = some i) (hB : w.heap[B]? = some (.cells C fe (0, 0))) (hs : Src P i.size tx x m nv w) (hr : n + m ≤ c) (hS : C.size = S) (hl : o + c * i.size ≤ S) :
    (Builtin.append_ #[t, tx] ty #[.slice (some ⟨B, o, none⟩) n c, x]).run P w = .ok (.slice (some ⟨B, o, none⟩) (n + m) c) (w.setRow B (C.toList.take (o + n * i.size) ++ nv ++ C.toList.drop (o + n * i.size + nv.length)).toArray) ∧ o + n * i.size + nv.length ≤ S := by
  have hnl := hs.newsLen
  have hle : (n + m) * i.size ≤ c * i.size := Nat.mul_le_mul_right _ hr
  rw [Nat.add_mul] at hle
  have hfit : o + n * i.size + nv.length ≤ C.size := by omega
  refine ⟨?_, by omega⟩
  rw [← setCells_row hB hfit hs.one]
  exact run_append_room_src (P := P) w t tx ty e i ht hi B o n c x m nv hs hr (fun j hj => by simp [World.cell?, hB]; omega) (fun j hj => by simp [World.frozen?, hB])
end
end Go.Proofs.YteigplfldhdakaaGreatDoor.Ev
/- append, all ways. -/
namespace Go.Proofs.YteigplfldhdakaaGreatDoor.Ev
open Go Go.RowKit
section
variable {P : Program} {γ : Pl} {s : AS} {w : World}
/-- in place, but the old slice is given up: a new number for the same cells -/
theorem move_done {b B d S q c fe : Nat} {L : List SV} {C : Array Value} {all : List SV} {av : List Value} {C' : Array Value} {z n : Nat} (hfe : fe ≠ 121) (h : HR γ s w) (hf : fnd s.H b = some (.cells fe L)) (hb : γ b = some (B, d, S)) (hB : w.heap[B]? = some (.cells C fe (0, 0)))
    (hC : C'.size = S) (hq : q + all.length ≤ S) (hav : All2 (RS γ) all av) (hin : ∀ i u, av[i]? = some u → C'[q + i]? = some u) (hn : n ≤ c) (hc : q + c * z = S) :
    Done γ s w (.sc (.sl s.nx 0 n none z)) ⟨(s.nx, .cells fe all) :: ers s.H b, s.nx + 1⟩ (.slice (some ⟨B, q, none⟩) n c) (w.setRow B C') := by
  have hsub := ext_sub (x := (B, q, S)) (h.nxt _ (Nat.le_refl _))
  obtain ⟨k1, k2⟩ := row_upd (γ' := ext γ s.nx (B, q, S)) (b' := s.nx) (nx' := s.nx + 1) (L' := all) h hf hb hB hsub (ext_at _ _ _) (.inr h.fresh) hC ⟨hq, fun h => absurd h hfe⟩ (fun i x hx => by
    obtain ⟨u, h1, h2⟩ := All2.get i hav hx
    exact ⟨u, hin i u h1, h2⟩) (ext_nx h.nxt) ext_ids (Nat.le_succ _)
  exact ⟨_, k1, k2, B, q, S, c, ext_at _ _ _, by simp, hn, by simpa using hc⟩
/-- a new row, the old slice given up -/
theorem Done.forget {b : Nat} {v : AV} {s' : AS} {u : Value} {w' : World} (h : Done γ ⟨ers s.H b, s.nx⟩ w v s' u w') : Done γ s w v s' u w' := by
  obtain ⟨γ', h1, h2, h3⟩ := h
  exact ⟨γ', h1, Fr.of_forget h2, h3⟩
set_option maxHeartbeats 1000000 in
theorem app_ok {t tx ty : Nat} {a x : AV} {ua ux : Value} {r : AV × AS} (h : HR γ s w) (ha : RA γ a ua) (hx : RA γ x ux) (hr : appA P s t tx a x = some r) :
    ∃ u w', (Builtin.append_ #[t, tx] ty #[ua, ux]).run P w = .ok u w' ∧ Done γ s w r.1 r.2 u w' := by
  unfold appA at hr
  split at hr
  · rename_i e he
    have ht := elemP_some he
    split at hr
    · rename_i z Lz by_ hz hLz hby
      split at hr
      · rename_i hcz
        obtain ⟨hcz1, hcz2, hne⟩ := hcz
        obtain ⟨i, hi, his⟩ := Option.map_eq_some_iff.1 hz
        obtain ⟨zv, hz1, hz2⟩ := zL_rel hLz γ
        obtain ⟨i', hi', hz3⟩ := Option.bind_eq_some_iff.1 hz1
        obtain ⟨i'', hi'', hb2⟩ := Option.map_eq_some_iff.1 hby
        rw [hi] at hi' hi''
        cases hi'
        cases hi''
        subst his
        subst hb2
        have hzs : zv.cells.size = i.size := by rw [All2.size hz2]; exact hcz1
        split at hr
        · rename_i m news hsrc
          obtain ⟨nv, hnv, hS⟩ := src_ok (P := P) h hx hsrc
          have hnl := hS.newsLen
          have hnn := All2.len hnv
          split at hr
          · have hua : ua = .slice none 0 0 := ha
            subst hua
            split at hr
            · rename_i hm
              subst hm
              cases hr
              have : nv = [] := List.eq_nil_of_length_eq_zero (by omega)
              subst this
              exact ⟨_, _, run_append_nothing (P := P) w t tx ty e i ht hi none 0 0 (Nat.le_refl _) ux hS, Done.quiet h rfl⟩
            · rename_i hm
              split at hr
              · rename_i hc
                cases hr
                have := grow_done (P := P) (ty := ty) (base := none) (n := 0) (c := 0) (olds := []) (ov := []) hne h ht hi hz3 hzs (run_firstCells_none w.drew i.size 0 0 0) trivial (by simp) hS hnv (by omega) (by simpa using hc.1) (by omega)
                simpa using this
              · cases hr
          · rename_i b o n c z'
            split at hr
            · rename_i fe L hf
              split at hr
              · rename_i hcn
                obtain ⟨rfl, hb1, hb2, hol⟩ := hcn
                obtain ⟨B, d, S, c', hb, rfl, hn, hc⟩ := ha
                obtain ⟨B', d', S', C, g1, g2, g3, g4, g5⟩ := h.obj _ _ (fnd_mem hf)
                rw [hb] at g1
                cases g1
                obtain ⟨ov, o1, o2, o3⟩ := OR.range (h.obj _ _ (fnd_mem hf)) hb hol
                have hoL : ((L.drop o).take (n * i.size)).length = n * i.size := by rw [List.length_take, List.length_drop]; omega
                have hfirst : (Builtin.firstCells i.size n (.slice (some ⟨B, d + o, none⟩) n c')).run P w.drew = .ok ov.toArray w.drew := run_firstCells_some (P := P) w.drew i.size n _ n c' ov o1 (fun j v hv => by rw [Addr.add_mid]; exact o3 j v hv)
                have hnm : (n + m) * i.size = n * i.size + m * i.size := Nat.add_mul ..
                have hcS : d + o + c' * i.size ≤ S := by
                  cases c with
                  | none => simp only at hc; omega
                  | some c0 => obtain ⟨rfl, hc2⟩ := hc; exact hc2
                split at hr
                · rename_i hroom
                  obtain ⟨hr1, hr2⟩ := hroom
                  cases hr
                  have hmc : n + m ≤ c' := by
                    cases c with
                    | none =>
                      simp only at hc
                      have h2 : (n + m) * i.size ≤ c' * i.size := by omega
                      exact Nat.le_of_mul_le_mul_right h2 hcz2
                    | some c0 => obtain ⟨rfl, hc2⟩ := hc; simpa using hr2
                  obtain ⟨hrun, _⟩ := room_run (P := P) (ty := ty) ht hi g2 hS hmc g3 hcS
                  have hl2 : o + n * i.size + news.length ≤ L.length := by omega
                  obtain ⟨C2, q1, q2, q3, q4⟩ := row_done h hf hb hl2 hnv
                  rw [g2] at q1
                  cases q1
                  rw [Nat.add_assoc d o] at hrun
                  refine ⟨_, _, hrun, γ, q4.1, q4.2, B, d, S, c', hb, rfl, hmc, hc⟩
                · rename_i hroom
                  split at hr
                  · rename_i c0
                    obtain ⟨rfl, hc2⟩ := hc
                    split at hr
                    · rename_i hlt
                      cases hr
                      exact grow_done (P := P) (ty := ty) hne h ht hi hz3 hzs hfirst o2 hoL hS hnv hlt hb1 hb2
                    · cases hr
                  · split at hr
                    case isFalse => cases hr
                    rename_i hte
                    subst hte
                    cases hr
                    simp only at hc
                    by_cases hmc : n + m ≤ c'
                    · obtain ⟨hrun, hfit⟩ := room_run (P := P) (ty := ty) ht hi g2 hS hmc g3 hcS
                      refine ⟨_, _, hrun, ?_⟩
                      have hCl : C.toList.length = C.size := Array.length_toList
                      have hovl : ov.length = n * i.size := o1
                      refine move_done (av := ov ++ nv) hne h hf hb g2 ?_ ?_ (All2.app o2 hnv) (fun j u hj => ?_) hmc hc
                      · simp only [List.size_toArray, List.length_append, List.length_take, List.length_drop]; omega
                      · rw [List.length_append]; omega
                      · have hg : ∀ k : Nat, (C.toList.take (d + o + n * i.size) ++ nv ++ C.toList.drop (d + o + n * i.size + nv.length)).toArray[k]? = (C.toList.take (d + o + n * i.size) ++ nv ++ C.toList.drop (d + o + n * i.size + nv.length))[k]? := fun k => by simp
                        rw [hg, List.append_assoc]
                        rw [List.getElem?_append] at hj ⊢
                        simp only [List.length_take] at hj ⊢
                        have hmin : min (d + o + n * i.size) C.toList.length = d + o + n * i.size := by omega
                        rw [hmin]
                        by_cases hjo : j < ov.length
                        · rw [if_pos hjo] at hj
                          rw [if_pos (by omega), List.getElem?_take, if_pos (by omega), Array.getElem?_toList]
                          have := o3 j u hj
                          simp only [World.cell?, g2] at this
                          simpa using this
                        · rw [if_neg hjo] at hj
                          have hjn := (List.getElem?_eq_some_iff.1 hj).1
                          rw [if_neg (by omega), List.getElem?_append_left (by omega), ← hj]
                          congr 1
                          omega
                    · have hfg := h.forget b
                      have hsrc' : Src P i.size tx ux m nv w := hS
                      have := grow_done (P := P) (ty := ty) (s := ⟨ers s.H b, s.nx⟩) hne hfg ht hi hz3 hzs hfirst o2 hoL hS hnv (by omega) hb1 hb2
                      obtain ⟨u, w', k1, k2⟩ := this
                      exact ⟨u, w', k1, Done.forget k2⟩
              · cases hr
            · cases hr
          · rename_i b z'
            split at hr
            · rename_i fe L hf
              split at hr
              · rename_i hcn
                obtain ⟨rfl, hb1, hb2, hm0, rfl⟩ := hcn
                cases hr
                obtain ⟨B, d, S, o', c', hb, rfl, hc⟩ := ha
                obtain ⟨B', d', S', C, g1, g2, g3, g4, g5⟩ := h.obj _ _ (fnd_mem hf)
                rw [hb] at g1
                cases g1
                have hfirst : (Builtin.firstCells i.size 0 (.slice (some ⟨B, o', none⟩) 0 c')).run P w.drew = .ok ([] : List Value).toArray w.drew := run_firstCells_some (P := P) w.drew i.size 0 _ 0 c' [] (by simp) (fun j v hv => by simp at hv)
                by_cases hmc : m ≤ c'
                · have hcS : o' + c' * i.size = S := hc.resolve_left (by omega)
                  have hrr := room_run (P := P) (ty := ty) (o := o') (n := 0) (c := c') (m := m) (S := S) ht hi g2 hS (by omega) g3 (by omega)
                  rw [Nat.zero_add, Nat.zero_mul, Nat.add_zero] at hrr
                  obtain ⟨hrun, hfit⟩ := hrr
                  have hCl : C.toList.length = C.size := Array.length_toList
                  refine ⟨_, _, hrun, ?_⟩
                  refine move_done (av := nv) hne h hf hb g2 ?_ ?_ hnv (fun j u hj => ?_) hmc hcS
                  · simp only [List.size_toArray, List.length_append, List.length_take, List.length_drop]; omega
                  · omega
                  · have hg : ∀ k : Nat, (C.toList.take o' ++ nv ++ C.toList.drop (o' + nv.length)).toArray[k]? = (C.toList.take o' ++ nv ++ C.toList.drop (o' + nv.length))[k]? := fun k => by simp
                    have hjn := (List.getElem?_eq_some_iff.1 hj).1
                    rw [hg, List.append_assoc, List.getElem?_append_right (by simp; omega), List.getElem?_append_left (by simp; omega), ← hj]
                    congr 1
                    simp
                    omega
                · have hfg := h.forget b
                  have := grow_done (P := P) (ty := ty) (s := ⟨ers s.H b, s.nx⟩) (n := 0) (m := m) (c := c') (olds := []) (ov := []) hne hfg ht hi hz3 hzs hfirst trivial (by simp) hS hnv (by omega) (by simpa using hb1) (by omega)
                  obtain ⟨u, w', k1, k2⟩ := this
                  refine ⟨u, w', k1, ?_⟩
                  have k3 := Done.forget k2
                  simpa [newA] using k3
              · cases hr
            · cases hr
          · cases hr
        · cases hr
      · cases hr
    · cases hr
  · cases hr
end
end Go.Proofs.YteigplfldhdakaaGreatDoor.Ev
/- A map's entries in turn. -/
namespace Go.Proofs.YteigplfldhdakaaGreatDoor.Ev
open Go Go.RowKit
section
variable {P : Program} {γ : Pl} {s : AS} {w : World}
def rangeA (P : Program) (s : AS) (t : Nat) (x : AV) : Option (AV × AS) :=
  match x, mapTy P t with
  | .sc (.mp b), some _ => match fnd s.H b with
    | some (.map es) => some (.sc (.pt s.nx 0), ⟨(s.nx, .mit b es.length [] es.length) :: s.H, s.nx + 1⟩)
    | _ => none
  | _, _ => none
theorem range_ok {t : Nat} {x : AV} {u : Value} {r : AV × AS} (h : HR γ s w) (hx : RA γ x u) (hr : rangeA P s t x = some r) : ∃ u' w', (Instr.range t u).run P w = .ok u' w' ∧ Done γ s w r.1 r.2 u' w' := by
  unfold rangeA at hr
  split at hr
  · rename_i b ke hmt
    have hu := mapTy_some (k := ke.1) (e := ke.2) hmt
    split at hr
    · rename_i es hf
      cases hr
      obtain ⟨B, d, S, hb, rfl⟩ := hx
      obtain ⟨B', d', S', cs, h1, h2, h3⟩ := h.obj _ _ (fnd_mem hf)
      rw [hb] at h1
      cases h1
      have hsub := ext_sub (x := (w.heap.size, 0, 0)) (h.nxt _ (Nat.le_refl _))
      obtain ⟨k1, k2⟩ := HR.new (p := .mapIter (some B) es.length #[] es.length) (o := .mit b es.length [] es.length) (S := 0) h
        ⟨w.heap.size, 0, 0, B, d, S, ext_at _ _ _, hsub _ _ hb, rfl, by show (w.heap.push _)[w.heap.size]? = _; simp⟩
      refine ⟨_, _, ?_, _, k1, k2, w.heap.size, 0, 0, ext_at _ _ _, rfl⟩
      simp [Instr.range, run_underlying hu, MapKept.run_getObj_map h2, Result.andThen]
    · cases hr
  · cases hr
def leftA (n : Nat) (seen : List Nat) : List Nat := (List.range n).filter fun i => !seen.contains i
def keyE (k : Bool × List FV) : Bool × List SV := (k.1, k.2.map .f)
theorem all_f {γ : Pl} : ∀ (xs : List FV), All2 (RS γ) (xs.map .f) (xs.map FV.val)
  | [] => trivial
  | x :: xs => ⟨rfl, all_f xs⟩
def keyFit : Bool × List FV → Bool
  | (true, _) => true
  | (false, [_]) => true
  | _ => false
theorem keyE_rel {γ : Pl} {k : Bool × List FV} (hk : keyFit k = true) : RE γ (keyE k) (keyVal k) := by
  obtain ⟨b, xs⟩ := k
  cases b
  · cases xs with
    | nil => cases hk
    | cons x r => cases r with
      | nil => exact ⟨_, rfl, rfl⟩
      | cons y r => cases hk
  · exact ⟨xs.map FV.val, rfl, all_f xs⟩
def nextA (s : AS) (x : AV) : Option (List (AV × AS)) :=
  match x with
  | .sc (.pt b 0) => match fnd s.H b with
    | some (.mit m since seen stepped) => match fnd s.H m with
      | some (.map es) =>
        if since = es.length ∧ stepped = es.length then
          match leftA es.length seen with
          | [] => some [(.tu [(false, [.f (.bool false)])], s)]
          | ls => some (ls.filterMap fun i => match es[i]? with
            | some e => if keyFit e.1 then some (.tu [(false, [.f (.bool true)]), keyE e.1, e.2], ⟨(b, .mit m since (seen ++ [i]) stepped) :: ers s.H b, s.nx⟩) else none
            | none => none)
        else none
      | _ => none
    | _ => none
  | _ => none
def keysFit (s : AS) (x : AV) : Bool :=
  match x with
  | .sc (.pt b 0) => match fnd s.H b with
    | some (.mit m since seen stepped) => match fnd s.H m with
      | some (.map es) => es.all fun e => keyFit e.1
      | _ => true
    | _ => true
  | _ => true
theorem entsR_all {γ : Pl} : ∀ {n : Nat} {es : List Ent} {cs : List MapEntry}, entsR γ n es cs → ∀ c ∈ cs, ∃ i e, es[i]? = some e ∧ c.key = keyVal e.1 ∧ RE γ e.2 c.val ∧ c.born = n + i
  | _, [], [], _, c, hc => by cases hc
  | n, e :: es, c :: cs, h, c', hc => by
    rcases List.mem_cons.1 hc with rfl | h1
    · exact ⟨0, e, rfl, h.1.1, h.1.2.1, h.1.2.2⟩
    · obtain ⟨i, e', k1, k2, k3, k4⟩ := entsR_all h.2 c' h1
      exact ⟨i + 1, e', by simpa using k1, k2, k3, by omega⟩
  | _, [], _ :: _, h, _, _ => h.elim
  | _, _ :: _, [], h, _, _ => h.elim
theorem next_ok {ty : Nat} {x : AV} {u : Value} {outs : List (AV × AS)} (h : HR γ s w) (hx : RA γ x u) (hkf : keysFit s x = true) (hr : nextA s x = some outs) :
    ∃ v s' u' w', (v, s') ∈ outs ∧ (Instr.next u false ty).run P w = .ok u' w' ∧ Done γ s w v s' u' w' := by
  unfold nextA at hr
  unfold keysFit at hkf
  split at hr
  · rename_i b
    simp only at hkf
    split at hr
    · rename_i m since seen stepped hf
      rw [hf] at hkf
      simp only at hkf
      split at hr
      · rename_i es hfm
        rw [hfm] at hkf
        simp only at hkf
        split at hr
        · rename_i hc
          obtain ⟨rfl, rfl⟩ := hc
          obtain ⟨B, d, S, hb, rfl⟩ := hx
          obtain ⟨B', d', S', M, md, MS, g1, g2, g3, g4⟩ := h.obj _ _ (fnd_mem hf)
          rw [hb] at g1
          cases g1
          subst g3
          obtain ⟨M', md', MS', cs, k1, k2, k3⟩ := h.obj _ _ (fnd_mem hfm)
          rw [g2] at k1
          cases k1
          have hlen := entsR_len k3
          have hcsz : cs.size = es.length := by
            have : cs.toList.length = cs.size := Array.length_toList
            omega
          have hBl : B < w.heap.size := (Array.getElem?_eq_some_iff.1 g4).1
          -- nothing is new
          have hall := entsR_all k3
          have hborn : ∀ c ∈ cs.toList, c.born < es.length := fun c hc => by
            obtain ⟨i, e, q1, _, _, q4⟩ := hall c hc
            have := (List.getElem?_eq_some_iff.1 q1).1
            omega
          have hno : (!seen.toArray.isEmpty && !cs.isEmpty && cs.all (fun e => decide (e.born ≥ es.length))) = false := by
            cases hal : cs.all (fun e => decide (e.born ≥ es.length)) with
            | false => simp
            | true =>
              cases hce : cs.isEmpty with
              | true => simp
              | false =>
                exfalso
                have hpos : 0 < cs.size := by
                  rcases Nat.eq_zero_or_pos cs.size with h0 | h0
                  · rw [Array.isEmpty_iff_size_eq_zero.2 h0] at hce; cases hce
                  · exact h0
                have h1 := of_decide_eq_true (Array.all_eq_true.1 hal 0 hpos)
                have h2 := hborn cs[0] (by simp)
                omega
          obtain ⟨L, hL⟩ : ∃ L, cs.filter (fun e => !seen.toArray.contains e.born) = L := ⟨_, rfl⟩
          have hLm : ∀ c ∈ L, ∃ i e, es[i]? = some e ∧ c.key = keyVal e.1 ∧ RE γ e.2 c.val ∧ c.born = i ∧ i ∈ leftA es.length seen := fun c hc => by
            rw [← hL, Array.mem_filter] at hc
            obtain ⟨i, e, q1, q2, q3, q4⟩ := hall c (by simpa using hc.1)
            have hi := (List.getElem?_eq_some_iff.1 q1).1
            refine ⟨i, e, q1, q2, q3, by omega, ?_⟩
            unfold leftA
            rw [List.mem_filter]
            refine ⟨by simpa using hi, ?_⟩
            have h5 := hc.2
            rw [q4] at h5
            simpa using h5
          have hLe : ∀ i ∈ leftA es.length seen, ∃ c, c ∈ L := fun i hi => by
            unfold leftA at hi
            rw [List.mem_filter] at hi
            have hil : i < es.length := by simpa using hi.1
            obtain ⟨c, q1, q2, q3, q4⟩ := entsR_get k3 (List.getElem?_eq_getElem hil)
            refine ⟨c, ?_⟩
            rw [← hL, Array.mem_filter]
            refine ⟨by have := List.mem_of_getElem? q1; simpa using this, ?_⟩
            rw [q4]
            simpa using hi.2
          have hold : L.filter (fun e => decide (e.born < es.length)) = L := by
            rw [Array.filter_eq_self]
            intro c hc
            obtain ⟨i, e, q1, q2, q3, q4, q5⟩ := hLm c hc
            have hi := (List.getElem?_eq_some_iff.1 q1).1
            exact decide_eq_true (by omega)
          have hnew : L.filter (fun e => decide (e.born ≥ es.length)) = #[] := by
            rw [Array.filter_eq_empty_iff]
            intro c hc
            obtain ⟨i, e, q1, q2, q3, q4, q5⟩ := hLm c hc
            have hi := (List.getElem?_eq_some_iff.1 q1).1
            simp
            omega
          have e1 : (getObj B).run P w = .ok (.mapIter (some M) es.length seen.toArray es.length) w := by simp [getObj, Sem.run, g4]
          have e2 : (getObj M).run P w = .ok (.map cs es.length) w := MapKept.run_getObj_map k2
          have hrun : ∃ k w1, k < ((if L.isEmpty then #[none] else #[]) ++ L.map some).size ∧ (w1 = w ∨ w1 = w.drew) ∧ (Instr.next (.pointer (some ⟨B, 0, none⟩)) false ty).run P w = (match ((if L.isEmpty then #[none] else #[]) ++ L.map some)[k]? with
              | some (some e) => .ok (.tuple #[.bool true, e.key, e.val]) (w1.putObj B (.mapIter (some M) es.length (seen.toArray.push e.born) es.length))
              | some none => .ok (.tuple #[.bool false]) w1
              | none => .halt (.stuck "Next: no such candidate") w1) := by
            simp only [Instr.next, Sem.run_bind, e1, Result.andThen_ok, e2]
            rw [hL, hold, hnew, Array.append_empty]
            simp only [hno, Bool.false_eq_true, if_false]
            have hpos : 0 < ((if L.isEmpty then #[none] else #[]) ++ L.map some).size := by
              cases hLi : L.isEmpty with
              | true =>
                show 0 < ((#[none] : Array (Option MapEntry)) ++ L.map some).size
                rw [Array.size_append]
                show 0 < 1 + _
                omega
              | false =>
                rcases Nat.eq_zero_or_pos L.size with h0 | h0
                · rw [Array.isEmpty_iff_size_eq_zero.2 h0] at hLi; cases hLi
                · simp; exact h0
            generalize ((if L.isEmpty then #[none] else #[]) ++ L.map some) = cd at hpos ⊢
            obtain ⟨k, w1, hk, hw1, hch⟩ : ∃ k w1, k < cd.size ∧ (w1 = w ∨ w1 = w.drew) ∧ (choose (.mapNext cd.size)).run P w = .ok k w1 := by
              by_cases hf1 : cd.size ≤ 1
              · exact ⟨0, w, hpos, .inl rfl, by simp [choose, Sem.run, Question.forced, hf1]⟩
              · exact ⟨w.tape w.drawn (.mapNext cd.size) % cd.size, w.drew, Nat.mod_lt _ hpos, .inr rfl, by simp [choose, Sem.run, Question.forced, hf1, Question.cut]⟩
            refine ⟨k, w1, hk, hw1, ?_⟩
            have hw1B : w1.heap[B]? = some (.mapIter (some M) es.length seen.toArray es.length) := by rcases hw1 with rfl | rfl <;> exact g4
            simp only [Sem.run_bind, hch, Result.andThen_ok]
            generalize cd[k]? = q
            rcases q with _ | _ | e
            · rfl
            · rfl
            · simp [setObj, Sem.run, hw1B, World.putObj]
          obtain ⟨k, w1, hk, hw1, hrn⟩ := hrun
          rw [hrn]
          have hh1 : HR γ s w1 := by rcases hw1 with rfl | rfl; exact h; exact h.drew
          have hfr : ∀ {γ' s' w'}, Fr γ s w1 γ' s' w' → Fr γ s w γ' s' w' := by rcases hw1 with rfl | rfl; exact fun h => h; exact fun h => Fr.of_drew h
          cases hLi : L.isEmpty with
          | true =>
            have hL0 : L = #[] := Array.isEmpty_iff.1 hLi
            subst hL0
            have hk0 : k = 0 := by rw [hLi] at hk; simpa using hk
            subst hk0
            have hle : leftA es.length seen = [] := by
              cases hq : leftA es.length seen with
              | nil => rfl
              | cons i r => obtain ⟨c, hc⟩ := hLe i (by rw [hq]; exact List.mem_cons_self ..); simp at hc
            rw [hle] at hr
            cases hr
            exact ⟨_, _, .tuple #[.bool false], w1, List.mem_cons_self .., by simp, ⟨γ, hh1, hfr (Fr.refl _ _ _), [.bool false], rfl, ⟨_, rfl, rfl⟩, trivial⟩⟩
          | false =>
            rw [hLi] at hk
            simp only [Bool.false_eq_true, if_false, Array.empty_append, Array.size_map] at hk
            have hget : (L.map some)[k]? = some (some L[k]) := by simp [hk]
            simp only [Bool.false_eq_true, if_false, Array.empty_append, hget]
            obtain ⟨i, e, q1, q2, q3, q4, q5⟩ := hLm L[k] (by simp)
            have hfe := List.all_eq_true.1 hkf e (List.mem_of_getElem? q1)
            rw [q4]
            obtain ⟨c1, c2⟩ := HR.upd (o' := .mit m es.length (seen ++ [i]) es.length) (w' := w1.putObj B (.mapIter (some M) es.length (seen.toArray.push i) es.length)) hh1 (fnd_mem hf) hb (Sub.refl _) hb (.inl rfl) (by simp [World.putObj]) (fun k hk => World.putObj_heap_other hk)
              ⟨B, _, S, M, _, _, hb, g2, rfl, by rw [World.putObj_heap_same (by rcases hw1 with rfl | rfl <;> exact hBl)]; simp⟩ h.nxt ⟨rfl, rfl, rfl⟩ (fun _ _ h => .inl h) (Nat.le_refl _)
            refine ⟨.tu [(false, [.f (.bool true)]), keyE e.1, e.2], _, _, _, ?_, rfl, ⟨γ, c1, hfr c2, [.bool true, L[k].key, L[k].val], rfl, ⟨_, rfl, rfl⟩, by rw [q2]; exact keyE_rel hfe, q3, trivial⟩⟩
            revert hr
            cases hq : leftA es.length seen with
            | nil => rw [hq] at q5; cases q5
            | cons a r =>
              intro hr
              cases hr
              rw [hq] at q5
              rw [List.mem_filterMap]
              exact ⟨i, q5, by simp [q1, hfe]⟩
        · cases hr
      · cases hr
    · cases hr
  · cases hr
def entryA (s : AS) (x : AV) : Option AV :=
  match x with
  | .sc (.pt b 0) => match fnd s.H b with
    | some (.mit m since seen stepped) => match fnd s.H m with
      | some (.map es) =>
        if stepped = es.length then
          match seen.getLast? with
          | some i => match es[i]? with
            | some e => if keyFit e.1 then some (.tu [keyE e.1, e.2]) else none
            | none => none
          | none => none
        else none
      | _ => none
    | _ => none
  | _ => none
theorem entry_ok {x r : AV} {u : Value} (h : HR γ s w) (hx : RA γ x u) (hr : entryA s x = some r) : ∃ u', (Instr.entry u).run P w = .ok u' w ∧ RA γ r u' := by
  unfold entryA at hr
  split at hr
  · rename_i b
    split at hr
    · rename_i m since seen stepped hf
      split at hr
      · rename_i es hfm
        split at hr
        · rename_i hc
          subst hc
          split at hr
          · rename_i i hi
            split at hr
            · rename_i e he
              split at hr
              · rename_i hk
                cases hr
                obtain ⟨B, d, S, hb, rfl⟩ := hx
                obtain ⟨B', d', S', M, md, MS, g1, g2, g3, g4⟩ := h.obj _ _ (fnd_mem hf)
                rw [hb] at g1
                cases g1
                subst g3
                obtain ⟨M', md', MS', cs, k1, k2, k3⟩ := h.obj _ _ (fnd_mem hfm)
                rw [g2] at k1
                cases k1
                obtain ⟨c, q1, q2, q3, q4⟩ := entsR_get k3 he
                have hall := entsR_all k3
                have e1 : (getObj B).run P w = .ok (.mapIter (some M) since seen.toArray es.length) w := by simp [getObj, Sem.run, g4]
                have e2 : (getObj M).run P w = .ok (.map cs es.length) w := MapKept.run_getObj_map k2
                have e3 : seen.toArray.back? = some i := by rw [List.back?_toArray]; exact hi
                have e4 : cs.find? (fun e => e.born == i) = some c := by
                  rw [← Array.find?_toList]
                  have hborn : ∀ (j : Nat) (c' : MapEntry), cs.toList[j]? = some c' → c'.born = j := fun j c' hj => by
                    have hjl := (List.getElem?_eq_some_iff.1 hj).1
                    rw [entsR_len k3] at hjl
                    obtain ⟨c2, p1, _, _, p4⟩ := entsR_get k3 (List.getElem?_eq_getElem hjl)
                    rw [hj] at p1
                    cases p1
                    omega
                  rw [List.find?_eq_some_iff_getElem]
                  obtain ⟨hl, hce⟩ := List.getElem?_eq_some_iff.1 q1
                  refine ⟨by simp; omega, i, hl, hce, fun j hj => ?_⟩
                  have := hborn j _ (List.getElem?_eq_getElem (by omega))
                  rw [this]
                  simp
                  omega
                refine ⟨.tuple #[c.key, c.val], ?_, [c.key, c.val], rfl, by rw [q2]; exact keyE_rel hk, q3, trivial⟩
                simp [Instr.entry, e1, e2, hi, e4]
              · cases hr
            · cases hr
          · cases hr
        · cases hr
      · cases hr
    · cases hr
  · cases hr
end
end Go.Proofs.YteigplfldhdakaaGreatDoor.Ev
