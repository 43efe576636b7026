/- Operations that leave the memory alone. -/
import Derived.Test.YteigplfldhdakaaGreatDoorE14
import Derived.Laws.Strings
import Derived.Laws.Slices
import Derived.Laws.BytesString
import Derived.MapViews
import Derived.MapKept
import Derived.RangeFuncRecord
set_option linter.unusedVariables false
set_option linter.unusedSimpArgs false
namespace Go.Proofs.YteigplfldhdakaaGreatDoor.Ev
open Go Go.RowKit
/-- a run that looks at nothing but the program -/
def flatS {α : Type} (P : Program) : Sem α → Option α
  | .pure a => some a
  | .program k => flatS P (k P)
  | _ => none
theorem flatS_run {α : Type} {P : Program} : ∀ {e : Sem α} {a : α}, flatS P e = some a → ∀ w, e.run P w = .ok a w
  | .pure a, _, h, w => by cases h; rfl
  | .program k, a, h, w => flatS_run (e := k P) h w
  | .load _ _ _, _, h, _ => by cases h
  | .store _ _ _ _, _, h, _ => by cases h
  | .new _ _, _, h, _ => by cases h
  | .shape _ _, _, h, _ => by cases h
  | .freeze _ _ _, _, h, _ => by cases h
  | .frozen _ _, _, h, _ => by cases h
  | .getObj _ _, _, h, _ => by cases h
  | .setObj _ _ _, _, h, _ => by cases h
  | .choose _ _, _, h, _ => by cases h
  | .sys _ _, _, h, _ => by cases h
  | .mark _ _, _, h, _ => by cases h
  | .halt _, _, h, _ => by cases h
/-- a constant -/
def absS : Value → Option FV
  | .bool b => some (.bool b)
  | .int k n => some (.int k n)
  | .string s => some (.str s.data.toList)
  | .pointer none => some .nilp
  | .slice none 0 0 => some .nils
  | .map none => some .nilm
  | .nilFunc => some .nilf
  | .nilIface => some .nili
  | _ => none
theorem absS_val {v : Value} {x : FV} (h : absS v = some x) : v = x.val := by
  unfold absS at h
  split at h <;> first | (cases h; rfl) | cases h
def absL : List Value → Option (List SV)
  | [] => some []
  | v :: r => match absS v, absL r with
    | some x, some xs => some (.f x :: xs)
    | _, _ => none
theorem absL_rel {γ : Pl} : ∀ {vs : List Value} {xs : List SV}, absL vs = some xs → All2 (RS γ) xs vs
  | [], _, h => by cases h; trivial
  | v :: r, _, h => by
    unfold absL at h
    split at h
    · rename_i x xs h1 h2
      cases h
      exact ⟨absS_val h1, absL_rel h2⟩
    · cases h
def absV : Value → Option AV
  | .agg cs => (absL cs.toList).map .ag
  | .tuple vs => if vs.isEmpty then some (.tu []) else none
  | v => (absS v).map fun x => .sc (.f x)
theorem absV_rel {γ : Pl} {v : Value} {x : AV} (h : absV v = some x) : RA γ x v := by
  unfold absV at h
  split at h
  · rename_i cs
    obtain ⟨xs, h1, rfl⟩ := Option.map_eq_some_iff.1 h
    exact ⟨cs.toList, by simp, absL_rel h1⟩
  · rename_i vs
    split at h
    · rename_i he
      cases h
      refine ⟨[], ?_, trivial⟩
      have : vs = #[] := by simpa using he
      rw [this]
    · cases h
  · obtain ⟨y, h1, rfl⟩ := Option.map_eq_some_iff.1 h
    exact absS_val h1
/-- a value without a place, as it is -/
def flL : List SV → Option (List Value)
  | [] => some []
  | .f x :: r => (flL r).map (x.val :: ·)
  | _ :: _ => none
def AV.fv : AV → Option Value
  | .sc (.f x) => some x.val
  | .ag xs => (flL xs).map fun vs => .agg vs.toArray
  | _ => none
theorem flL_rel {γ : Pl} : ∀ {xs : List SV} {vs us : List Value}, flL xs = some vs → All2 (RS γ) xs us → us = vs
  | [], _, [], h, _ => by cases h; rfl
  | .f x :: r, _, u :: us, h, hr => by
    unfold flL at h
    obtain ⟨ws, h1, rfl⟩ := Option.map_eq_some_iff.1 h
    have := flL_rel h1 hr.2
    rw [this]
    have := hr.1
    simp only [RS] at this
    rw [this]
  | [], _, _ :: _, _, hr => hr.elim
  | _ :: _, _, [], _, hr => hr.elim
  | .pt _ _ :: _, _, _ :: _, h, _ => by cases h
  | .sl _ _ _ _ _ :: _, _, _ :: _, h, _ => by cases h
  | .se _ _ :: _, _, _ :: _, h, _ => by cases h
  | .mp _ :: _, _, _ :: _, h, _ => by cases h
  | .cl _ _ :: _, _, _ :: _, h, _ => by cases h
  | .yl _ :: _, _, _ :: _, h, _ => by cases h
theorem fv_eq {γ : Pl} {a : AV} {u v : Value} (h : a.fv = some v) (hr : RA γ a u) : u = v := by
  unfold AV.fv at h
  split at h
  · cases h; exact hr
  · obtain ⟨vs, h1, rfl⟩ := Option.map_eq_some_iff.1 h
    obtain ⟨us, rfl, h2⟩ := hr
    rw [flL_rel h1 h2]
  · cases h
def AE.av : Bool × List SV → AV
  | (true, xs) => .ag xs
  | (false, xs) => match xs with | [x] => .sc x | _ => .tu []
theorem AE.av_rel {γ : Pl} : ∀ {y : Bool × List SV} {u : Value}, RE γ y u → RA γ (AE.av y) u
  | (true, _), _, h => h
  | (false, _), _, ⟨x, rfl, h⟩ => h
/-- operands are known by what they stand for -/
def Op2 (γ : Pl) (ρa : Operand → Option AV) (ρ : Operand → Value) : Prop := ∀ x v, ρa x = some v → RA γ v (ρ x)
def sizeP (P : Program) (t : Nat) : Option Nat := (P.info? t).map (·.size)
def isAggP (P : Program) (t : Nat) : Option Bool := (P.underlying t).map fun d => d.isRow
def elemP (P : Program) (t : Nat) : Option Nat := match P.underlying t with | some (.slice e) => some e | _ => none
def loadA (P : Program) (t : Nat) (L : List SV) (o : Nat) : Option AV :=
  match isAggP P t with
  | some true => match sizeP P t with
    | some n => if o + n ≤ L.length then some (.ag ((L.drop o).take n)) else none
    | none => none
  | some false => (L[o]?).map .sc
  | none => none
def fieldOff (P : Program) (t f : Nat) : Option Nat :=
  match P.underlying t with
  | some (.struct fs) => match fs[f]? with
    | some fd => match sizeP P fd.type with
      | some (_ + 1) => some fd.offset
      | _ => none
    | none => none
  | _ => none
theorem OR.cell {γ : Pl} {w : World} {b o B d S : Nat} {ty : Nat} {L : List SV} {x : SV} (h : OR γ w b (.cells ty L)) (hb : γ b = some (B, d, S)) (hx : L[o]? = some x) : ∃ u, w.cell? ⟨B, d + o, none⟩ = some u ∧ RS γ x u := by
  obtain ⟨B', d', S', C, h1, h2, h3, h4, h5⟩ := h
  rw [hb] at h1
  cases h1
  obtain ⟨u, k1, k2⟩ := h5 o x hx
  exact ⟨u, by simp [World.cell?, h2, k1], k2⟩
theorem OR.range {γ : Pl} {w : World} {b o n B d S : Nat} {ty : Nat} {L : List SV} (h : OR γ w b (.cells ty L)) (hb : γ b = some (B, d, S)) (hl : o + n ≤ L.length) :
    ∃ us : List Value, us.length = n ∧ All2 (RS γ) ((L.drop o).take n) us ∧ ∀ j v, us[j]? = some v → w.cell? ⟨B, d + o + j, none⟩ = some v := by
  obtain ⟨B', d', S', C, h1, h2, h3, h4, h5⟩ := h
  rw [hb] at h1
  cases h1
  refine ⟨(C.toList.drop (d + o)).take n, ?_, ?_, fun j v hj => ?_⟩
  · have hC : C.toList.length = C.size := Array.length_toList
    rw [List.length_take, List.length_drop]; omega
  · refine All2.of ?_ fun i x y hx hy => ?_
    · have hC : C.toList.length = C.size := Array.length_toList
      rw [List.length_take, List.length_take, List.length_drop, List.length_drop]; omega
    · rw [List.getElem?_take] at hx hy
      split at hx
      · rename_i hin
        rw [if_pos hin] at hy
        rw [List.getElem?_drop] at hx hy
        obtain ⟨u, k1, k2⟩ := h5 _ _ hx
        rw [Array.getElem?_toList, show d + o + i = d + (o + i) by omega, k1] at hy
        cases hy
        exact k2
      · cases hx
  · rw [List.getElem?_take] at hj
    split at hj
    · rw [List.getElem?_drop, Array.getElem?_toList] at hj
      simp [World.cell?, h2, hj]
    · cases hj
theorem load_ok {P : Program} {γ : Pl} {w : World} {t b o B d S : Nat} {ty : Nat} {L : List SV} {v : AV} (h : OR γ w b (.cells ty L)) (hb : γ b = some (B, d, S)) (hv : loadA P t L o = some v) :
    ∃ u, (Instr.loadAt t (.pointer (some ⟨B, d + o, none⟩))).run P w = .ok u w ∧ RA γ v u := by
  unfold loadA isAggP at hv
  cases hu : P.underlying t with
  | none => rw [hu] at hv; cases hv
  | some ds =>
    rw [hu] at hv
    simp only [Option.map_some] at hv
    cases hr : ds.isRow with
    | true =>
      rw [hr] at hv
      cases hs : sizeP P t with
      | none => rw [hs] at hv; cases hv
      | some n =>
        rw [hs] at hv
        simp only at hv
        by_cases hl : o + n ≤ L.length
        · rw [if_pos hl] at hv
          cases hv
          obtain ⟨us, h1, h2, h3⟩ := OR.range h hb hl
          refine ⟨_, run_loadAt_mid (P := P) w B (d + o) t us ds h3 hu hr (by rw [h1]; exact hs), ⟨us, rfl, h2⟩⟩
        · rw [if_neg hl] at hv; cases hv
    | false =>
      rw [hr] at hv
      obtain ⟨x, hx, rfl⟩ := Option.map_eq_some_iff.1 hv
      obtain ⟨u, h1, h2⟩ := OR.cell h hb hx
      refine ⟨u, ?_, h2⟩
      have hagg : (isAgg t).run P w = .ok false w := by
        unfold isAgg
        rw [Sem.run_bind, run_underlying hu w]
        cases ds <;> simp_all [TypeDesc.isRow]
      simp [Instr.loadAt, Instr.sureAddr, loadVar, hagg, h1]
theorem fieldAt_ok {P : Program} {w : World} {t f B o k : Nat} (h : fieldOff P t f = some k) : (Instr.fieldAt t (.pointer (some ⟨B, o, none⟩)) f).run P w = .ok (.pointer (some ⟨B, o + k, none⟩)) w := by
  unfold fieldOff sizeP at h
  split at h
  · rename_i fs hu
    split at h
    · rename_i fd hf
      split at h
      · rename_i m hs
        cases h
        obtain ⟨i, hi, his⟩ := Option.map_eq_some_iff.1 hs
        simp [Instr.fieldAt, run_underlying hu, hf, Instr.sureAddr, fieldPlace, sizeOf, typeInfo, hi, his, Addr.add_mid]
      · cases h
    · cases h
  · cases h
theorem indexAt_ok {P : Program} {w : World} {t e B o n c z : Nat} {k : IntKind} {j : Int} (he : elemP P t = some e) (hz : sizeP P e = some z) (h0 : 0 ≤ j) (h1 : j < (n : Int)) :
    (Instr.indexAt t (.slice (some ⟨B, o, none⟩) n c) (.int k j)).run P w = .ok (.pointer (some ⟨B, o + j.toNat * z, none⟩)) w := by
  unfold elemP at he
  split at he
  · rename_i e' hu
    cases he
    obtain ⟨i, hi, his⟩ := Option.map_eq_some_iff.1 hz
    simp [Instr.indexAt, asIntOf, run_underlying hu, h0, h1, sizeOf, typeInfo, hi, his, Addr.add_mid]
  · cases he
end Go.Proofs.YteigplfldhdakaaGreatDoor.Ev
/- Operations that leave the memory alone, all. -/
namespace Go.Proofs.YteigplfldhdakaaGreatDoor.Ev
open Go Go.RowKit
/-- a bound, where there is one -/
def bnd (ρ : Operand → Option AV) : Option Operand → Option (Option Nat)
  | none => some none
  | some x => match ρ x with
    | some (.sc (.f (.int _ j))) => if 0 ≤ j then some (some j.toNat) else none
    | _ => none
def bndV : Option Nat → Option Value → Prop
  | none, none => True
  | some n, some u => ∃ k, u = .int k (n : Int)
  | _, _ => False
theorem bnd_ok {γ : Pl} {ρa : Operand → Option AV} {ρ : Operand → Value} (hr : Op2 γ ρa ρ) {x : Option Operand} {r : Option Nat} (h : bnd ρa x = some r) : bndV r (x.map ρ) := by
  unfold bnd at h
  split at h
  · cases h; trivial
  · rename_i x
    split at h
    · rename_i k j hj
      split at h
      · rename_i h0
        cases h
        have := hr x _ hj
        simp only [RA, RS, FV.val] at this
        refine ⟨k, ?_⟩
        rw [this]
        congr 1
        omega
      · cases h
    · cases h
theorem runBound {P : Program} {w : World} {k : IntKind} {n y : Nat} {code : BoundsCode} (h : n ≤ y) : (Instr.sliceBound (.int k (n : Int)) y code).run P w = .ok n w := by
  rw [run_sliceBound w k (n : Int) y code (by omega) (by omega)]
  rfl
def sliceR (P : Program) (t : Nat) (x : SV) (lo hi mx : Option Nat) : Option SV :=
  match x with
  | .f (.str s) => match mx, P.underlying t with
    | none, some .string => if lo.getD 0 ≤ hi.getD s.length ∧ hi.getD s.length ≤ s.length then some (.f (.str ((s.take (hi.getD s.length)).drop (lo.getD 0)))) else none
    | _, _ => none
  | .sl b o n c z => match elemP P t with
    | some e => if sizeP P e = some z then
        match mx with
        | some m => if lo.getD 0 = 0 ∧ hi.getD 0 ≤ m ∧ m ≤ n ∧ hi.isSome = true then some (.sl b o (hi.getD 0) (some m) z) else none
        | none =>
          if lo.getD 0 ≤ hi.getD n ∧ hi.getD n ≤ n then
            if lo.getD 0 = 0 then some (.sl b o (hi.getD n) c z)
            else if lo.getD 0 < n then some (.sl b (o + lo.getD 0 * z) (hi.getD n - lo.getD 0) (c.map (· - lo.getD 0)) z)
            else match c with
              | none => some (.se b z)
              | some c0 => if c0 = lo.getD 0 then some (.sl b o 0 (some 0) z) else some (.sl b (o + lo.getD 0 * z) 0 (some (c0 - lo.getD 0)) z)
          else none
      else none
    | none => none
  | _ => none
theorem elemP_some {P : Program} {t e : Nat} (h : elemP P t = some e) : P.underlying t = some (.slice e) := by
  unfold elemP at h
  split at h
  · rename_i hu; cases h; exact hu
  · cases h
theorem bounds_ok {P : Program} {w : World} {s : Bool} {n cap : Nat} {lo hi : Option Nat} {l h : Option Value} (hl : bndV lo l) (hh : bndV hi h) (h1 : lo.getD 0 ≤ hi.getD n) (h2 : hi.getD n ≤ n) (h3 : n ≤ cap) :
    (Instr.sliceBounds s n cap l h none).run P w = .ok (lo.getD 0, hi.getD n, cap) w := by
  cases lo <;> cases l <;> first | exact hl.elim | skip
  · cases hi <;> cases h <;> first | exact hh.elim | skip
    · simp [Instr.sliceBounds]
    · rename_i hv u
      obtain ⟨k, rfl⟩ := hh
      simp only [Option.getD_some] at h2
      simp [Instr.sliceBounds, runBound (show hv ≤ cap by omega)]
  · rename_i lv u
    obtain ⟨k, rfl⟩ := hl
    simp only [Option.getD_some] at h1
    cases hi <;> cases h <;> first | exact hh.elim | skip
    · simp only [Option.getD_none] at h1
      simp [Instr.sliceBounds, runBound h1]
    · rename_i hv u
      obtain ⟨k', rfl⟩ := hh
      simp only [Option.getD_some] at h1 h2
      simp [Instr.sliceBounds, runBound h1, runBound (show hv ≤ cap by omega)]
theorem str_extract (s : List UInt8) (l h : Nat) (hl : l ≤ h) (hh : h ≤ s.length) : (ByteArray.mk ⟨s⟩).extract l h = ⟨⟨(s.take h).drop l⟩⟩ := by
  apply WideShapes.bytes_inj
  have := ByteArray.data_extract (a := ByteArray.mk ⟨s⟩) (b := l) (e := h)
  rw [this]
  simp [Array.toList_extract, List.extract, List.drop_take]
theorem run_sizeP {P : Program} {e z : Nat} (hz : sizeP P e = some z) (w : World) : (sizeOf e).run P w = .ok z w := by
  obtain ⟨i, hi, his⟩ := Option.map_eq_some_iff.1 hz
  simp [sizeOf, typeInfo, hi, his]
theorem slice_run {P : Program} {w : World} {t e z n c' : Nat} {a : Addr} {lo hg : Option Nat} {l h : Option Value} (hu : P.underlying t = some (.slice e)) (hz : sizeP P e = some z) (hl : bndV lo l) (hh : bndV hg h) (h1 : lo.getD 0 ≤ hg.getD n) (h2 : hg.getD n ≤ n) (h3 : n ≤ c') :
    (Instr.sliceAt t (.slice (some a) n c') l h none).run P w = .ok (.slice (some (if c' = lo.getD 0 then a else a.add (lo.getD 0 * z))) (hg.getD n - lo.getD 0) (c' - lo.getD 0)) w := by
  obtain ⟨i, hi, his⟩ := Option.map_eq_some_iff.1 hz
  have hbo := bounds_ok (P := P) (w := w) (s := true) hl hh h1 h2 h3
  simp only [Instr.sliceAt, Instr.slice, Sem.run_bind, run_underlying hu, Result.andThen_ok, hbo, run_sizeP hz w, Sem.run_pure]
  split <;> simp_all
theorem slice_run3 {P : Program} {w : World} {t e z n c' m : Nat} {a : Addr} {lo : Option Nat} {hv : Nat} {l : Option Value} {kh km : IntKind} (hu : P.underlying t = some (.slice e)) (hz : sizeP P e = some z) (hl : bndV lo l) (h0 : lo.getD 0 = 0) (h1 : hv ≤ m) (h2 : m ≤ n) (h3 : n ≤ c') :
    (Instr.sliceAt t (.slice (some a) n c') l (some (.int kh (hv : Int))) (some (.int km (m : Int)))).run P w = .ok (.slice (some a) hv m) w := by
  obtain ⟨i, hi, his⟩ := Option.map_eq_some_iff.1 hz
  have hbo : (Instr.sliceBounds true n c' l (some (.int kh (hv : Int))) (some (.int km (m : Int)))).run P w = .ok (0, hv, m) w := by
    cases lo <;> cases l <;> first | exact hl.elim | skip
    · simp [Instr.sliceBounds, runBound (show m ≤ c' by omega), runBound h1]
    · rename_i lv u
      obtain ⟨k, rfl⟩ := hl
      simp only [Option.getD_some] at h0
      subst h0
      have hz0 : (Instr.sliceBound (.int k ((0 : Nat) : Int)) hv .slice3C).run P w = .ok 0 w := runBound (Nat.zero_le _)
      simp [Instr.sliceBounds, runBound (show m ≤ c' by omega), runBound h1] at hz0 ⊢
      simp [hz0]
  simp only [Instr.sliceAt, Instr.slice, Sem.run_bind, run_underlying hu, Result.andThen_ok, hbo, run_sizeP hz w, Sem.run_pure]
  split <;> simp [Addr.add]
theorem slice_ok {P : Program} {γ : Pl} {w : World} {t : Nat} {x y : SV} {u : Value} {lo hg mx : Option Nat} {l h m : Option Value} (hx : RS γ x u) (hl : bndV lo l) (hh : bndV hg h) (hm : bndV mx m) (hs : sliceR P t x lo hg mx = some y) :
    ∃ u', (Instr.sliceAt t u l h m).run P w = .ok u' w ∧ RS γ y u' := by
  unfold sliceR at hs
  split at hs
  · rename_i s
    simp only [RS, FV.val] at hx
    subst hx
    split at hs
    · rename_i hu
      split at hs
      · rename_i hb
        cases hs
        cases m with
        | some _ => exact hm.elim
        | none =>
          have hsz : (ByteArray.mk ⟨s⟩).size = s.length := rfl
          have hbo := bounds_ok (P := P) (w := w) (s := false) hl hh hb.1 hb.2 (Nat.le_refl _)
          refine ⟨_, ?_, rfl⟩
          simp [Instr.sliceAt, Instr.slice, run_underlying hu, hsz, hbo, str_extract s _ _ hb.1 hb.2, FV.val]
      · cases hs
    · cases hs
  · rename_i b o n c z
    obtain ⟨B, d, S, c', hb, rfl, hn, hc⟩ := hx
    split at hs
    · rename_i e he
      have hu := elemP_some he
      split at hs
      · rename_i hz
        split at hs
        · rename_i mv
          split at hs
          · rename_i hcnd
            cases hs
            obtain ⟨h1, h2, h3, h4⟩ := hcnd
            cases m with
            | none => exact hm.elim
            | some mu =>
              obtain ⟨km, rfl⟩ := hm
              cases hg with
              | none => cases h4
              | some hv =>
                cases h with
                | none => exact hh.elim
                | some hu2 =>
                  obtain ⟨kh, rfl⟩ := hh
                  refine ⟨_, slice_run3 hu hz hl h1 h2 h3 hn, B, d, S, mv, hb, rfl, h2, rfl, ?_⟩
                  have : mv * z ≤ c' * z := Nat.mul_le_mul_right _ (by omega)
                  cases c with
                  | none => simp only at hc; omega
                  | some c0 => obtain ⟨rfl, hc2⟩ := hc; omega
          · cases hs
        · cases m with
          | some _ => exact hm.elim
          | none =>
            split at hs
            · rename_i hcnd
              obtain ⟨h1, h2⟩ := hcnd
              refine ⟨_, slice_run hu hz hl hh h1 h2 hn, ?_⟩
              obtain ⟨lv, hlv⟩ : ∃ lv, lo.getD 0 = lv := ⟨_, rfl⟩
              obtain ⟨hv, hhv⟩ : ∃ hv, hg.getD n = hv := ⟨_, rfl⟩
              rw [hlv, hhv] at hs h1
              rw [hlv, hhv]
              rw [hhv] at h2
              split at hs
              · rename_i h0
                cases hs
                subst h0
                refine ⟨B, d, S, c', hb, ?_, by omega, hc⟩
                simp only [Nat.zero_mul, Nat.sub_zero]
                split <;> simp [Addr.add]
              · rename_i h0
                have hcc : (c' - lv) * z = c' * z - lv * z := Nat.sub_mul ..
                have hle : lv * z ≤ c' * z := Nat.mul_le_mul_right _ (by omega)
                split at hs
                · rename_i h3
                  cases hs
                  refine ⟨B, d, S, c' - lv, hb, ?_, by omega, ?_⟩
                  · rw [if_neg (by omega), Addr.add_mid, Nat.add_assoc]
                  · cases c with
                    | none => simp only [Option.map_none] at hc ⊢; omega
                    | some c0 =>
                      obtain ⟨rfl, hc2⟩ := hc
                      simp only [Option.map_some]
                      exact ⟨trivial, by omega⟩
                · rename_i h3
                  split at hs
                  · cases hs
                    have e1 : hv - lv = 0 := by omega
                    simp only at hc
                    rw [e1]
                    by_cases hcl : c' = lv
                    · rw [if_pos hcl]
                      exact ⟨B, d, S, d + o, c' - lv, hb, rfl, .inl (by omega)⟩
                    · rw [if_neg hcl, Addr.add_mid]
                      exact ⟨B, d, S, d + o + lv * z, c' - lv, hb, rfl, .inr (by omega)⟩
                  · rename_i c0
                    obtain ⟨rfl, hc2⟩ := hc
                    have e1 : hv - lv = 0 := by omega
                    rw [e1]
                    split at hs
                    · rename_i hcl
                      cases hs
                      rw [if_pos hcl]
                      exact ⟨B, d, S, 0, hb, by rw [hcl, Nat.sub_self], Nat.le_refl _, rfl, by omega⟩
                    · rename_i hcl
                      cases hs
                      rw [if_neg hcl, Addr.add_mid]
                      exact ⟨B, d, S, c' - lv, hb, by rw [Nat.add_assoc], Nat.zero_le _, rfl, by omega⟩
            · cases hs
      · cases hs
    · cases hs
  · cases hs
end Go.Proofs.YteigplfldhdakaaGreatDoor.Ev
/- What an operation that leaves the memory alone hands back. -/
namespace Go.Proofs.YteigplfldhdakaaGreatDoor.Ev
open Go Go.RowKit
def strBin (op : BinOp) (a b : List UInt8) : Option FV :=
  match op with
  | .add => if a.length + b.length ≤ 1000000 then some (.str (a ++ b)) else none
  | .eql => some (.bool (decide (a = b)))
  | .neq => some (.bool (!decide (a = b)))
  | .lss => some (.bool (Op.bytesLess a b))
  | .leq => some (.bool (Op.bytesLess a b || decide (a = b)))
  | .gtr => some (.bool (!(Op.bytesLess a b || decide (a = b))))
  | .geq => some (.bool (!Op.bytesLess a b))
  | _ => none
theorem strBin_ok {P : Program} {w : World} {op : BinOp} {t : Nat} {a b : List UInt8} {y : FV} (h : strBin op a b = some y) : (Go.binOp op t (.string ⟨⟨a⟩⟩) (.string ⟨⟨b⟩⟩)).run P w = .ok y.val w := by
  have ha : (ByteArray.mk ⟨a⟩).toList = a := by rw [ByteArray.toList_eq]
  have hb : (ByteArray.mk ⟨b⟩).toList = b := by rw [ByteArray.toList_eq]
  have hd : (a == b) = decide (a = b) := by by_cases e : a = b <;> simp [e]
  unfold strBin at h
  split at h
  · split at h
    · rename_i hl
      cases h
      have h1 : ¬ (IntKind.i64.max < (((⟨⟨a⟩⟩ : ByteArray).size + (⟨⟨b⟩⟩ : ByteArray).size : Nat) : Int)) := by
        have : IntKind.i64.max = 9223372036854775807 := by decide
        have e1 : (⟨⟨a⟩⟩ : ByteArray).size = a.length := rfl
        have e2 : (⟨⟨b⟩⟩ : ByteArray).size = b.length := rfl
        omega
      have h2 : (ByteArray.mk ⟨a⟩ ++ ByteArray.mk ⟨b⟩) = ⟨⟨a ++ b⟩⟩ := by
        apply WideShapes.bytes_inj
        simp
      show (Op.stringOp .add _ _).run P w = _
      unfold Op.stringOp
      simp only [gt_iff_lt, h1, if_false, Sem.run_pure, h2, FV.val]
    · cases h
  all_goals first
    | (cases h; done)
    | (cases h
       first
         | (show (Op.stringOp .eql _ _).run P w = _; simp only [Op.stringOp, ha, hb, hd, FV.val, Sem.run_pure]; done)
         | (show (Op.stringOp .neq _ _).run P w = _; simp only [Op.stringOp, ha, hb, hd, FV.val, Sem.run_pure]; done)
         | (show (Op.stringOp .lss _ _).run P w = _; simp only [Op.stringOp, ha, hb, hd, FV.val, Sem.run_pure]; done)
         | (show (Op.stringOp .leq _ _).run P w = _; simp only [Op.stringOp, ha, hb, hd, FV.val, Sem.run_pure]; done)
         | (show (Op.stringOp .gtr _ _).run P w = _; simp only [Op.stringOp, ha, hb, hd, FV.val, Sem.run_pure]; done)
         | (show (Op.stringOp .geq _ _).run P w = _; simp only [Op.stringOp, ha, hb, hd, FV.val, Sem.run_pure]; done))
theorem eq_ptr {P : Program} {w : World} {t e : Nat} {a : Addr} (hu : P.underlying t = some (.pointer e)) : (Op.equal t (.pointer (some a)) (.pointer none)).run P w = .ok false w := by
  show (Op.equalIn (9999 + 1) t _ _).run P w = _
  unfold Op.equalIn
  simp [run_underlying hu]
theorem eq_sl {P : Program} {w : World} {t e n c : Nat} {a : Addr} (hu : P.underlying t = some (.slice e)) : (Op.equal t (.slice (some a) n c) (.slice none 0 0)).run P w = .ok false w := by
  show (Op.equalIn (9999 + 1) t _ _).run P w = _
  unfold Op.equalIn
  simp [run_underlying hu]
theorem bin_eql {P : Program} {w : World} {t : Nat} {x y : Operand} {u v : Value} {b : Bool} (hg : (eqGuard .eql t x y u v).run P w = .ok () w) (hb : Go.binOp .eql t u v = (do pure (.bool (← Op.equal t u v)))) (he : (Op.equal t u v).run P w = .ok b w) :
    (do eqGuard .eql t x y u v; Go.binOp .eql t u v : Sem Value).run P w = .ok (.bool b) w := by
  rw [hb]
  simp only [Sem.run_bind, hg, he, Result.andThen_ok, Sem.run_pure]
theorem bin_neq {P : Program} {w : World} {t : Nat} {x y : Operand} {u v : Value} {b : Bool} (hg : (eqGuard .neq t x y u v).run P w = .ok () w) (hb : Go.binOp .neq t u v = (do pure (.bool (!(← Op.equal t u v))))) (he : (Op.equal t u v).run P w = .ok b w) :
    (do eqGuard .neq t x y u v; Go.binOp .neq t u v : Sem Value).run P w = .ok (.bool !b) w := by
  rw [hb]
  simp only [Sem.run_bind, hg, he, Result.andThen_ok, Sem.run_pure]
def isPtr (P : Program) (t : Nat) : Bool := match P.underlying t with | some (.pointer _) => true | _ => false
def isSl (P : Program) (t : Nat) : Bool := match P.underlying t with | some (.slice _) => true | _ => false
/-- two sides of an operation -/
def binA (P : Program) (op : BinOp) (t : Nat) (x y : Operand) (a b : AV) : Option AV :=
  match a, b with
  | .sc (.f (.str s)), .sc (.f (.str s')) => (strBin op s s').map fun r => .sc (.f r)
  | .sc (.f u), .sc (.f v) => (flatS P (do eqGuard op t x y u.val v.val; Go.binOp op t u.val v.val)).bind absV
  | .sc (.pt _ _), .sc (.f .nilp) => if isPtr P t then match op with
      | .eql => some (.sc (.f (.bool false)))
      | .neq => some (.sc (.f (.bool true)))
      | _ => none
    else none
  | .sc (.sl _ _ _ _ _), .sc (.f .nils) => if isSl P t then match op with
      | .eql => some (.sc (.f (.bool false)))
      | .neq => some (.sc (.f (.bool true)))
      | _ => none
    else none
  | _, _ => none
theorem guard_str {P : Program} {w : World} {op : BinOp} {t : Nat} {x y : Operand} {a b : ByteArray} : (eqGuard op t x y (.string a) (.string b)).run P w = .ok () w := by
  unfold eqGuard
  cases op <;> simp
theorem binA_ok {P : Program} {γ : Pl} {w : World} {op : BinOp} {t : Nat} {x y : Operand} {a b r : AV} {u v : Value} (ha : RA γ a u) (hb : RA γ b v) (h : binA P op t x y a b = some r) :
    ∃ z, (do eqGuard op t x y u v; Go.binOp op t u v : Sem Value).run P w = .ok z w ∧ RA γ r z := by
  unfold binA at h
  split at h
  · simp only [RA, RS, FV.val] at ha hb
    subst ha
    subst hb
    obtain ⟨q, hq, rfl⟩ := Option.map_eq_some_iff.1 h
    refine ⟨q.val, ?_, rfl⟩
    simp only [Sem.run_bind, guard_str, Result.andThen_ok, strBin_ok hq]
  · rename_i p q _
    have ha' : u = p.val := ha
    have hb' : v = q.val := hb
    subst ha'
    subst hb'
    obtain ⟨z, hz, hr⟩ := Option.bind_eq_some_iff.1 h
    exact ⟨z, flatS_run hz w, absV_rel hr⟩
  · obtain ⟨B, d, S, _, rfl⟩ := ha
    have hb' : v = .pointer none := hb
    subst hb'
    split at h
    · rename_i hp
      have hu : ∃ e, P.underlying t = some (.pointer e) := by
        unfold isPtr at hp
        split at hp
        · rename_i e he; exact ⟨e, he⟩
        · cases hp
      obtain ⟨e, hu⟩ := hu
      split at h
      · cases h
        exact ⟨.bool false, bin_eql rfl rfl (eq_ptr hu), rfl⟩
      · cases h
        exact ⟨.bool true, bin_neq rfl rfl (eq_ptr hu), rfl⟩
      · cases h
    · cases h
  · obtain ⟨B, d, S, c', _, rfl, _⟩ := ha
    have hb' : v = .slice none 0 0 := hb
    subst hb'
    split at h
    · rename_i hp
      have hu : ∃ e, P.underlying t = some (.slice e) := by
        unfold isSl at hp
        split at hp
        · rename_i e he; exact ⟨e, he⟩
        · cases hp
      obtain ⟨e, hu⟩ := hu
      split at h
      · cases h
        exact ⟨.bool false, bin_eql rfl rfl (eq_sl hu), rfl⟩
      · cases h
        exact ⟨.bool true, bin_neq rfl rfl (eq_sl hu), rfl⟩
      · cases h
    · cases h
  · cases h
/-- bytes as a text -/
def bytesL : List SV → Option (List Int)
  | [] => some []
  | .f (.int .u8 n) :: r => (bytesL r).map (n :: ·)
  | _ :: _ => none
theorem bytesL_rel {γ : Pl} : ∀ {xs : List SV} {ns : List Int} {us : List Value}, bytesL xs = some ns → All2 (RS γ) xs us → us = ns.map (Value.int .u8)
  | [], _, [], h, _ => by cases h; rfl
  | x :: r, ns, u :: us, h, hr => by
    unfold bytesL at h
    split at h
    · rename_i heq; cases heq
    · rename_i heq
      cases heq
      obtain ⟨ws, h1, rfl⟩ := Option.map_eq_some_iff.1 h
      rw [bytesL_rel h1 hr.2]
      have := hr.1
      simp only [RS, FV.val] at this
      rw [this]
      rfl
    · cases h
  | [], _, _ :: _, _, hr => hr.elim
  | _ :: _, _, [], _, hr => hr.elim
def strNums (ns : List Int) : List UInt8 := ns.map fun n => UInt8.ofNat n.toNat
theorem foldl_strNums (ns : List Int) (l : List UInt8) : ns.foldl (fun (r : ByteArray) n => r.push (UInt8.ofNat n.toNat)) ⟨⟨l⟩⟩ = ⟨⟨l ++ strNums ns⟩⟩ := by
  induction ns generalizing l with
  | nil => simp [strNums]
  | cons n r ih =>
    have : (ByteArray.mk ⟨l⟩).push (UInt8.ofNat n.toNat) = ⟨⟨l ++ [UInt8.ofNat n.toNat]⟩⟩ := by
      simp [ByteArray.push]
    rw [List.foldl_cons, this, ih]
    simp [strNums]
def convA (P : Program) (s : AS) (src dst : Nat) (a : AV) : Option AV :=
  match a with
  | .sc (.f u) => (flatS P (convert src dst u.val)).bind absV
  | .sc (.sl b o n c z) => match fnd s.H b, P.underlying src, P.underlying dst with
    | some (.cells ty L), some (.slice e), some .string => match P.underlying e with
      | some (.int .u8) => if o + n ≤ L.length then (bytesL ((L.drop o).take n)).map fun ns => .sc (.f (.str (strNums ns))) else none
      | _ => none
    | _, _, _ => none
  | _ => none
theorem convA_ok {P : Program} {γ : Pl} {s : AS} {w : World} {src dst : Nat} {a r : AV} {u : Value} (hh : HR γ s w) (ha : RA γ a u) (h : convA P s src dst a = some r) :
    ∃ z, (convert src dst u).run P w = .ok z w ∧ RA γ r z := by
  unfold convA at h
  split at h
  · rename_i p
    have ha' : u = p.val := ha
    subst ha'
    obtain ⟨z, hz, hr⟩ := Option.bind_eq_some_iff.1 h
    exact ⟨z, flatS_run hz w, absV_rel hr⟩
  · rename_i b o n c z
    split at h
    · rename_i ty L e hf hs hd
      split at h
      · rename_i he
        split at h
        · rename_i hl
          obtain ⟨ns, hns, rfl⟩ := Option.map_eq_some_iff.1 h
          obtain ⟨B, d, S, c', hb, rfl, hn, hc⟩ := ha
          obtain ⟨us, h1, h2, h3⟩ := OR.range (hh.obj _ _ (fnd_mem hf)) hb hl
          have hus := bytesL_rel hns h2
          have hlen : ns.length = n := by rw [hus] at h1; simpa using h1
          have hld : (loadCells ⟨B, d + o, none⟩ n).run P w = .ok (ns.map (Value.int .u8)).toArray w := by
            have := run_loadCells_list (P := P) w ⟨B, d + o, none⟩ us (fun j v hv => by rw [Addr.add_mid]; exact h3 j v hv)
            rw [h1, hus] at this
            exact this
          refine ⟨_, (run_convert_bytes_string w src dst e _ n c' hs he hd).trans (run_bytesToString w _ n c' ns hld), ?_⟩
          have := foldl_strNums ns []
          show _ = (FV.str _).val
          rw [FV.val, List.nil_append] at *
          exact congrArg Value.string this
        · cases h
      · cases h
    · cases h
  · cases h
end Go.Proofs.YteigplfldhdakaaGreatDoor.Ev
/- Maps. -/
namespace Go.Proofs.YteigplfldhdakaaGreatDoor.Ev
open Go Go.RowKit
abbrev Ent := (Bool × List FV) × (Bool × List SV)
def afind (k : Bool × List FV) : List Ent → Nat → Option (Nat × (Bool × List SV))
  | [], _ => none
  | e :: r, i => if k = e.1 then some (i, e.2) else afind k r (i + 1)
def FR (γ : Pl) : Option (Nat × (Bool × List SV)) → Option (Nat × Value) → Prop
  | none, none => True
  | some (i, v), some (j, u) => i = j ∧ RE γ v u
  | _, _ => False
/-- what is asked of keys -/
structure KeyLaw (P : Program) (ks : Nat → Bool × List FV → Bool) : Prop where
  find : ∀ kt k es cs γ b w, ks kt k = true → (∀ e ∈ es, ks kt e.1 = true) → entsR γ b es cs → ∃ r, (Instr.findKey kt (keyVal k) cs).run P w = .ok r w ∧ FR γ (afind k es 0) r
  chk : ∀ kt k e w, ks kt k = true → (Instr.checkKey e 10000 kt (keyVal k)).run P w = .ok () w
  bits : ∀ kt k, ks kt k = true → Instr.sameBits 10000 (keyVal k) (keyVal k) = true
theorem entsR_len {γ : Pl} : ∀ {n : Nat} {es : List Ent} {cs : List MapEntry}, entsR γ n es cs → cs.length = es.length
  | _, [], [], _ => rfl
  | _, _ :: _, _ :: _, h => by simp [entsR_len h.2]
  | _, [], _ :: _, h => h.elim
  | _, _ :: _, [], h => h.elim
theorem entsR_get {γ : Pl} : ∀ {n i : Nat} {es : List Ent} {cs : List MapEntry} {e : Ent}, entsR γ n es cs → es[i]? = some e → ∃ c, cs[i]? = some c ∧ c.key = keyVal e.1 ∧ RE γ e.2 c.val ∧ c.born = n + i
  | n, 0, e :: es, c :: cs, _, h, he => by cases he; exact ⟨c, rfl, h.1.1, h.1.2.1, by have := h.1.2.2; omega⟩
  | n, i + 1, e :: es, c :: cs, _, h, he => by
    obtain ⟨c', h1, h2, h3, h4⟩ := entsR_get (i := i) h.2 (by simpa using he)
    exact ⟨c', by simpa using h1, h2, h3, by omega⟩
  | _, _, [], _, _, _, he => by simp at he
  | _, _, _ :: _, [], _, h, _ => h.elim
theorem entsR_app {γ : Pl} {e : Ent} {c : MapEntry} : ∀ {n : Nat} {es : List Ent} {cs : List MapEntry}, entsR γ n es cs → c.key = keyVal e.1 → RE γ e.2 c.val → c.born = n + es.length → entsR γ n (es ++ [e]) (cs ++ [c])
  | n, [], [], _, h1, h2, h3 => ⟨⟨h1, h2, by simpa using h3⟩, trivial⟩
  | n, _ :: es, _ :: cs, h, h1, h2, h3 => ⟨h.1, entsR_app h.2 h1 h2 (by rw [h3, List.length_cons]; omega)⟩
  | _, [], _ :: _, h, _, _, _ => h.elim
  | _, _ :: _, [], h, _, _, _ => h.elim
theorem entsR_set {γ : Pl} {v : Bool × List SV} {u : Value} {k : Bool × List FV} : ∀ {n i : Nat} {es : List Ent} {cs : List MapEntry} {e : Ent}, entsR γ n es cs → es[i]? = some e → e.1 = k → RE γ v u →
    entsR γ n (es.set i (k, v)) (cs.modify i fun e => { e with key := keyVal k, val := u })
  | n, 0, e :: es, c :: cs, _, h, he, hk, hv => by
    cases he
    exact ⟨⟨rfl, hv, h.1.2.2⟩, h.2⟩
  | n, i + 1, e :: es, c :: cs, _, h, he, hk, hv => ⟨h.1, entsR_set (i := i) h.2 (by simpa using he) hk hv⟩
  | _, _, [], _, _, _, he, _, _ => by simp at he
  | _, _, _ :: _, [], _, h, _, _, _ => h.elim
theorem afind_some {k : Bool × List FV} : ∀ {es : List Ent} {i j : Nat} {v : Bool × List SV}, afind k es i = some (j, v) → ∃ m, j = i + m ∧ es[m]? = some (k, v)
  | e :: es, i, j, v, h => by
    unfold afind at h
    by_cases hk : k = e.1
    · rw [if_pos hk] at h
      cases h
      exact ⟨0, rfl, by rw [hk]; rfl⟩
    · rw [if_neg hk] at h
      obtain ⟨m, h1, h2⟩ := afind_some h
      exact ⟨m + 1, by omega, by simpa using h2⟩
/-- a value as a key, as an entry -/
def flF : List SV → Option (List FV)
  | [] => some []
  | .f x :: r => (flF r).map (x :: ·)
  | _ :: _ => none
def AV.key : AV → Option (Bool × List FV)
  | .sc (.f x) => some (false, [x])
  | .ag xs => (flF xs).map (true, ·)
  | _ => none
def AV.ae : AV → Option (Bool × List SV)
  | .sc x => some (false, [x])
  | .ag xs => some (true, xs)
  | .tu _ => none
  | .top => none
theorem flF_rel {γ : Pl} : ∀ {xs : List SV} {fs : List FV} {us : List Value}, flF xs = some fs → All2 (RS γ) xs us → us = fs.map FV.val
  | [], _, [], h, _ => by cases h; rfl
  | x :: r, fs, u :: us, h, hr => by
    unfold flF at h
    split at h
    · rename_i heq; cases heq
    · rename_i heq
      cases heq
      obtain ⟨ws, h1, rfl⟩ := Option.map_eq_some_iff.1 h
      rw [flF_rel h1 hr.2]
      have := hr.1
      simp only [RS] at this
      rw [this]
      rfl
    · cases h
  | [], _, _ :: _, _, hr => hr.elim
  | _ :: _, _, [], _, hr => hr.elim
theorem key_rel {γ : Pl} {a : AV} {k : Bool × List FV} {u : Value} (h : a.key = some k) (hr : RA γ a u) : u = keyVal k := by
  unfold AV.key at h
  split at h
  · cases h; exact hr
  · obtain ⟨fs, h1, rfl⟩ := Option.map_eq_some_iff.1 h
    obtain ⟨us, rfl, h2⟩ := hr
    rw [flF_rel h1 h2]
    rfl
  · cases h
theorem ae_rel {γ : Pl} {a : AV} {v : Bool × List SV} {u : Value} (h : a.ae = some v) (hr : RA γ a u) : RE γ v u := by
  unfold AV.ae at h
  split at h
  · cases h; exact ⟨_, rfl, hr⟩
  · cases h; exact hr
  · cases h
  · cases h
def mapTy (P : Program) (t : Nat) : Option (Nat × Nat) := match P.underlying t with | some (.map k e) => some (k, e) | _ => none
theorem mapTy_some {P : Program} {t k e : Nat} (h : mapTy P t = some (k, e)) : P.underlying t = some (.map k e) := by
  unfold mapTy at h
  split at h
  · rename_i hu; cases h; exact hu
  · cases h
def zeroP (P : Program) (t : Nat) : Option Value := (P.info? t).bind (·.zero)
theorem run_zeroP {P : Program} {t : Nat} {z : Value} (h : zeroP P t = some z) (w : World) : (zeroValue t).run P w = .ok z w := by
  obtain ⟨i, hi, hz⟩ := Option.bind_eq_some_iff.1 h
  simp [zeroValue, typeInfo, hi, hz]
def keysOk (ks : Nat → Bool × List FV → Bool) (kt : Nat) (es : List Ent) : Bool := es.all fun e => ks kt e.1
def lookA (P : Program) (ks : Nat → Bool × List FV → Bool) (s : AS) (t : Nat) (m k : AV) (ok : Bool) : Option AV :=
  match m, k.key, mapTy P t with
  | .sc (.mp b), some k, some (kt, e) => match fnd s.H b with
    | some (.map es) =>
      if ks kt k && keysOk ks kt es then
        match afind k es 0 with
        | some (_, v) => some (if ok then .tu [v, (false, [.f (.bool true)])] else AE.av v)
        | none => match (zeroP P e).bind absV with
          | some z => match z.ae with
            | some v => some (if ok then .tu [v, (false, [.f (.bool false)])] else AE.av v)
            | none => none
          | none => none
      else none
    | _ => none
  | _, _, _ => none
section
variable {P : Program} {ks : Nat → Bool × List FV → Bool} (hK : KeyLaw P ks)
include hK
theorem lookA_ok {γ : Pl} {s : AS} {w : World} {t : Nat} {m k r : AV} {u v : Value} {ok : Bool} (hh : HR γ s w) (hm : RA γ m u) (hk : RA γ k v) (h : lookA P ks s t m k ok = some r) :
    ∃ z, (Instr.lookup t u v ok).run P w = .ok z w ∧ RA γ r z := by
  unfold lookA at h
  split at h
  · rename_i b k' kt e hkk hmt
    have hu := mapTy_some hmt
    have hv := key_rel hkk hk
    subst hv
    split at h
    · rename_i es hf
      split at h
      · rename_i hc
        rw [Bool.and_eq_true] at hc
        obtain ⟨B, d, S, hb, rfl⟩ := hm
        obtain ⟨B', d', S', cs, h1, h2, h3⟩ := hh.obj _ _ (fnd_mem hf)
        rw [hb] at h1
        cases h1
        have hall : ∀ e ∈ es, ks kt e.1 = true := fun e he => List.all_eq_true.1 hc.2 e he
        obtain ⟨q, hq, hfr⟩ := hK.find kt k' es cs.toList γ 0 w hc.1 hall h3
        have hck := hK.chk kt k' cs.isEmpty w hc.1
        split at h
        · rename_i j v hfi
          rw [hfi] at hfr
          cases q with
          | none => exact hfr.elim
          | some q =>
            obtain ⟨j', u'⟩ := q
            obtain ⟨rfl, hre⟩ := hfr
            cases h
            refine ⟨if ok then .tuple #[u', .bool true] else u', ?_, ?_⟩
            · simp [Instr.lookup, run_underlying hu, MapKept.run_getObj_map h2, hck, hq, Result.andThen]
            · cases ok
              · exact AE.av_rel hre
              · exact ⟨[u', .bool true], rfl, hre, ⟨_, rfl, rfl⟩, trivial⟩
        · rename_i hfi
          rw [hfi] at hfr
          cases q with
          | some q => exact hfr.elim
          | none =>
            split at h
            · rename_i z hz
              obtain ⟨zv, hz1, hz2⟩ := Option.bind_eq_some_iff.1 hz
              split at h
              · rename_i v hae
                cases h
                have hre := ae_rel hae (absV_rel (γ := γ) hz2)
                refine ⟨if ok then .tuple #[zv, .bool false] else zv, ?_, ?_⟩
                · simp [Instr.lookup, run_underlying hu, MapKept.run_getObj_map h2, hck, hq, run_zeroP hz1, Result.andThen]
                · cases ok
                  · exact AE.av_rel hre
                  · exact ⟨[zv, .bool false], rfl, hre, ⟨_, rfl, rfl⟩, trivial⟩
              · cases h
            · cases h
      · cases h
    · cases h
  · cases h
end
def updA (P : Program) (ks : Nat → Bool × List FV → Bool) (s : AS) (t : Nat) (m k v : AV) : Option AS :=
  match m, k.key, v.ae, mapTy P t with
  | .sc (.mp b), some k, some v, some (kt, _) => match fnd s.H b with
    | some (.map es) =>
      if ks kt k && keysOk ks kt es then
        match afind k es 0 with
        | some (i, _) => some ⟨(b, .map (es.set i (k, v))) :: ers s.H b, s.nx⟩
        | none => some ⟨(b, .map (es ++ [(k, v)])) :: ers s.H b, s.nx⟩
      else none
    | _ => none
  | _, _, _, _ => none
section
variable {P : Program} {ks : Nat → Bool × List FV → Bool} (hK : KeyLaw P ks)
include hK
theorem updA_ok {γ : Pl} {s s' : AS} {w : World} {t : Nat} {m k v : AV} {um uk uv : Value} (hh : HR γ s w) (hm : RA γ m um) (hk : RA γ k uk) (hv : RA γ v uv) (h : updA P ks s t m k v = some s') :
    ∃ w', (Instr.mapUpdate t um uk uv).run P w = .ok () w' ∧ HR γ s' w' ∧ Fr γ s w γ s' w' := by
  unfold updA at h
  split at h
  · rename_i b k' v' kt e hkk hve hmt
    have hu := mapTy_some hmt
    have hkv := key_rel hkk hk
    subst hkv
    have hre := ae_rel hve hv
    split at h
    · rename_i es hf
      split at h
      · rename_i hc
        rw [Bool.and_eq_true] at hc
        obtain ⟨B, d, S, hb, rfl⟩ := hm
        have hmem := fnd_mem hf
        obtain ⟨B', d', S', cs, h1, h2, h3⟩ := hh.obj _ _ hmem
        rw [hb] at h1
        cases h1
        have hall : ∀ e ∈ es, ks kt e.1 = true := fun e he => List.all_eq_true.1 hc.2 e he
        obtain ⟨q, hq, hfr⟩ := hK.find kt k' es cs.toList γ 0 w hc.1 hall h3
        have hck := hK.chk kt k' false w hc.1
        have hBl : B < w.heap.size := (Array.getElem?_eq_some_iff.1 h2).1
        have fin : ∀ (es' : List Ent) (cs' : Array MapEntry), entsR γ 0 es' cs'.toList →
            HR γ ⟨(b, .map es') :: ers s.H b, s.nx⟩ (w.putObj B (.map cs' es'.length)) ∧ Fr γ s w γ ⟨(b, .map es') :: ers s.H b, s.nx⟩ (w.putObj B (.map cs' es'.length)) := fun es' cs' hes =>
          HR.upd hh hmem hb (Sub.refl _) hb (.inl rfl) (by simp [World.putObj]) (fun k hk => World.putObj_heap_other hk)
            ⟨B, d, S, cs', hb, World.putObj_heap_same hBl, hes⟩ hh.nxt ⟨rfl, rfl, rfl⟩ (fun _ _ h => .inl h) (Nat.le_refl _)
        split at h
        · rename_i i vv hfi
          rw [hfi] at hfr
          cases q with
          | none => exact hfr.elim
          | some q =>
            obtain ⟨j', u'⟩ := q
            obtain ⟨rfl, _⟩ := hfr
            cases h
            obtain ⟨mm, hj, hget⟩ := afind_some hfi
            have hj' : mm = i := by omega
            subst hj'
            obtain ⟨c, hc1, hc2, hc3, hc4⟩ := entsR_get h3 hget
            have hsz : cs[mm]? = some c := by simpa using hc1
            have hkeep : (Instr.keyThatStays c.key (keyVal k')).run P w = .ok (keyVal k') w := by
              rw [hc2]
              unfold Instr.keyThatStays
              rw [if_pos (hK.bits kt k' hc.1)]
              rfl
            have hes := entsR_set (v := v') (u := uv) h3 hget rfl hre
            have hfin := fin (es.set mm (k', v')) (cs.modify mm fun e => { e with key := keyVal k', val := uv }) (by simpa using hes)
            rw [List.length_set] at hfin
            refine ⟨_, ?_, hfin⟩
            simp [Instr.mapUpdate, run_underlying hu, MapKept.run_getObj_map h2, hck, hq, hsz, hkeep, MapKept.run_setObj_map _ h2, Result.andThen, World.putObj]
        · rename_i hfi
          rw [hfi] at hfr
          cases q with
          | some q => exact hfr.elim
          | none =>
            cases h
            have hfin := fin (es ++ [(k', v')]) (cs.push { key := keyVal k', val := uv, born := es.length }) (by simpa using entsR_app h3 rfl hre (by simp))
            rw [List.length_append] at hfin
            refine ⟨_, ?_, hfin⟩
            simp [Instr.mapUpdate, run_underlying hu, MapKept.run_getObj_map h2, hck, hq, MapKept.run_setObj_map _ h2, Result.andThen, World.putObj]
      · cases h
    · cases h
  · cases h
end
end Go.Proofs.YteigplfldhdakaaGreatDoor.Ev
