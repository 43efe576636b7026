/- What single calls of one run find and leave: printed by a program (wip/cuts.lean.txt). -/
import Derived.Test.YteigplfldhdakaaGreatDoorE21
set_option linter.unusedVariables false
set_option linter.unusedSimpArgs false
namespace Go.Proofs.YteigplfldhdakaaGreatDoor.Ev
open Go
def cut20 : Cut :=
  { f := 20, args := [.sc (.f (.str [97, 114, 110])), .sc (.f (.str [97, 109]))], nx := 6, nx' := 7,
    H0 := [],
    v := .tu [(false, [.sl 6 0 1 none 3]), (false, [.f (.int .i64 0)])],
    K := [(6, .cells 38 [.f (.str [114, 110]), .f (.str [109]), .f (.int .i64 1)])] }
def cut19 : Cut :=
  { f := 19, args := [.sc (.sl 0 0 1 (some 1) 2), .sc (.f (.int .i64 1))], nx := 5, nx' := 6,
    H0 := [(0, .cells 69 [.f (.str [97, 114, 110]), .f (.str [97, 109])])],
    v := .tu [(false, [.sl 5 0 1 none 3]), (false, [.f (.int .i64 0)])],
    K := [(0, .cells 69 [.f (.str [97, 114, 110]), .f (.str [97, 109])]),
    (5, .cells 35 [.f (.str [114, 110]), .f (.str [109]), .f (.int .i64 1)])] }
def cut34 : Cut :=
  { f := 34, args := [.sc (.sl 1 0 1 (some 1) 1)], nx := 6, nx' := 7,
    H0 := [(1, .cells 9 [.f (.str [73, 32, 97, 109, 44, 32, 97, 110])])],
    v := .tu [(false, [.sl 6 0 3 none 2]), (false, [.f (.int .i64 0)])],
    K := [(1, .cells 9 [.f (.str [73, 32, 97, 109, 44, 32, 97, 110])]),
    (6, .cells 81 [.f (.str [73]), .f (.int .i64 1), .f (.str [97, 109]), .f (.int .i64 1), .f (.str [97, 110]), .f (.int .i64 1)])] }
def cut39 : Cut :=
  { f := 39, args := [.ag [.sl 5 0 1 none 3, .sl 6 0 3 (some 3) 2]], nx := 9, nx' := 9,
    H0 := [(5, .cells 35 [.f (.str [114, 110]), .f (.str [109]), .f (.int .i64 1)]),
    (6, .cells 81 [.f (.str [73]), .f (.int .i64 1), .f (.str [97, 109]), .f (.int .i64 1), .f (.str [97, 110]), .f (.int .i64 1)])],
    v := .sc (.f (.int .i64 0)),
    K := [(5, .cells 35 [.f (.str [114, 110]), .f (.str [109]), .f (.int .i64 1)]),
    (6, .cells 81 [.f (.str [73]), .f (.int .i64 1), .f (.str [97, 109]), .f (.int .i64 1), .f (.str [97, 110]), .f (.int .i64 1)])] }
def cut70 : Cut :=
  { f := 70, args := [.sc (.pt 90 0), .sc (.sl 6 0 3 (some 3) 2)], nx := 91, nx' := 94,
    H0 := [(90, .cells 163 [.sl 88 0 1 (some 1) 3, .mp 89]),
    (6, .cells 81 [.f (.str [73]), .f (.int .i64 1), .f (.str [97, 109]), .f (.int .i64 1), .f (.str [97, 110]), .f (.int .i64 1)]),
    (88, .cells 160 [.f (.nils), .f (.bool false), .f (.int .i64 0)]),
    (89, .map [])],
    v := .tu [],
    K := [(90, .cells 163 [.sl 91 0 5 none 3, .mp 89]),
    (6, .cells 81 [.f (.str [73]), .f (.int .i64 1), .f (.str [97, 109]), .f (.int .i64 1), .f (.str [97, 110]), .f (.int .i64 1)]),
    (88, .cells 160 [.f (.nils), .f (.bool false), .f (.int .i64 0)]),
    (89, .map [((false, [.str [43]]), (false, [.f (.int .i64 1)])), ((false, [.str [45, 109, 129, 0, 110, 129, 0]]), (false, [.f (.int .i64 2)]))]),
    (91, .cells 160 [.sl 92 0 2 none 2, .f (.bool false), .f (.int .i64 0), .f (.nils), .f (.bool true), .f (.int .i64 0), .sl 93 0 2 none 2, .f (.bool false), .f (.int .i64 0), .f (.nils), .f (.bool true), .f (.int .i64 0), .f (.nils), .f (.bool true), .f (.int .i64 0)]),
    (92, .cells 220 [.f (.int .i32 73), .f (.int .i64 1), .f (.int .i32 97), .f (.int .i64 2)]),
    (93, .cells 220 [.f (.int .i32 109), .f (.int .i64 1), .f (.int .i32 110), .f (.int .i64 1)])] }
def cut40 : Cut :=
  { f := 40, args := [.sc (.sl 6 0 3 (some 3) 2)], nx := 9, nx' := 14,
    H0 := [(6, .cells 81 [.f (.str [73]), .f (.int .i64 1), .f (.str [97, 109]), .f (.int .i64 1), .f (.str [97, 110]), .f (.int .i64 1)])],
    v := .tu [(false, [.pt 9 0]), (false, [.f (.int .i64 0)])],
    K := [(6, .cells 81 [.f (.str [73]), .f (.int .i64 1), .f (.str [97, 109]), .f (.int .i64 1), .f (.str [97, 110]), .f (.int .i64 1)]),
    (9, .cells 167 [.sl 10 0 3 none 3, .f (.int .i64 4), .sl 11 0 3 none 1]),
    (10, .cells 160 [.sl 12 0 2 none 2, .f (.bool false), .f (.int .i64 3), .f (.nils), .f (.bool true), .f (.int .i64 1), .sl 13 0 2 none 2, .f (.bool false), .f (.int .i64 2)]),
    (11, .cells 3 [.f (.int .i64 1), .f (.int .i64 1), .f (.int .i64 1)]),
    (12, .cells 220 [.f (.int .i32 73), .f (.int .i64 1), .f (.int .i32 97), .f (.int .i64 2)]),
    (13, .cells 220 [.f (.int .i32 109), .f (.int .i64 1), .f (.int .i32 110), .f (.int .i64 1)])] }
def cut41 : Cut :=
  { f := 41, args := [.ag [.sl 5 0 1 none 3, .sl 6 0 3 (some 3) 2]], nx := 14, nx' := 16,
    H0 := [(5, .cells 35 [.f (.str [114, 110]), .f (.str [109]), .f (.int .i64 1)]),
    (6, .cells 81 [.f (.str [73]), .f (.int .i64 1), .f (.str [97, 109]), .f (.int .i64 1), .f (.str [97, 110]), .f (.int .i64 1)])],
    v := .ag [.sl 14 0 1 none 3, .sl 15 0 3 none 2],
    K := [(5, .cells 35 [.f (.str [114, 110]), .f (.str [109]), .f (.int .i64 1)]),
    (6, .cells 81 [.f (.str [73]), .f (.int .i64 1), .f (.str [97, 109]), .f (.int .i64 1), .f (.str [97, 110]), .f (.int .i64 1)]),
    (14, .cells 35 [.f (.str [114, 110]), .f (.str [109]), .f (.int .i64 1)]),
    (15, .cells 81 [.f (.str [73]), .f (.int .i64 1), .f (.str [97, 109]), .f (.int .i64 1), .f (.str [97, 110]), .f (.int .i64 1)])] }
def cut16 : Cut :=
  { f := 16, args := [.ag [.sl 5 0 1 none 3, .sl 6 0 3 (some 3) 2]], nx := 8, nx' := 16,
    H0 := [(5, .cells 35 [.f (.str [114, 110]), .f (.str [109]), .f (.int .i64 1)]),
    (6, .cells 81 [.f (.str [73]), .f (.int .i64 1), .f (.str [97, 109]), .f (.int .i64 1), .f (.str [97, 110]), .f (.int .i64 1)])],
    v := .tu [(false, [.pt 8 0]), (false, [.f (.int .i64 0)])],
    K := [(5, .cells 35 [.f (.str [114, 110]), .f (.str [109]), .f (.int .i64 1)]),
    (6, .cells 81 [.f (.str [73]), .f (.int .i64 1), .f (.str [97, 109]), .f (.int .i64 1), .f (.str [97, 110]), .f (.int .i64 1)]),
    (8, .cells 103 [.sl 9 0 1 none 3, .sl 10 0 3 none 2, .pt 11 0]),
    (9, .cells 35 [.f (.str [114, 110]), .f (.str [109]), .f (.int .i64 1)]),
    (10, .cells 81 [.f (.str [73]), .f (.int .i64 1), .f (.str [97, 109]), .f (.int .i64 1), .f (.str [97, 110]), .f (.int .i64 1)]),
    (11, .cells 167 [.sl 12 0 3 none 3, .f (.int .i64 4), .sl 13 0 3 none 1]),
    (12, .cells 160 [.sl 14 0 2 none 2, .f (.bool false), .f (.int .i64 3), .f (.nils), .f (.bool true), .f (.int .i64 1), .sl 15 0 2 none 2, .f (.bool false), .f (.int .i64 2)]),
    (13, .cells 3 [.f (.int .i64 1), .f (.int .i64 1), .f (.int .i64 1)]),
    (14, .cells 220 [.f (.int .i32 73), .f (.int .i64 1), .f (.int .i32 97), .f (.int .i64 2)]),
    (15, .cells 220 [.f (.int .i32 109), .f (.int .i64 1), .f (.int .i32 110), .f (.int .i64 1)])] }
def cut203 : Cut :=
  { f := 203, args := [.sc (.sl 9 0 1 none 3)], nx := 204, nx' := 210,
    H0 := [(9, .cells 35 [.f (.str [114, 110]), .f (.str [109]), .f (.int .i64 1)])],
    v := .tu [(false, [.pt 204 0]), (false, [.f (.int .i64 0)])],
    K := [(9, .cells 35 [.f (.str [114, 110]), .f (.str [109]), .f (.int .i64 1)]),
    (204, .cells 360 [.sl 205 0 3 none 4]),
    (205, .cells 357 [.mp 206, .f (.int .i64 0), .f (.int .i64 0), .f (.nils), .mp 207, .f (.int .i64 0), .f (.int .i64 1), .f (.nils), .mp 208, .f (.int .i64 0), .f (.int .i64 2), .sl 209 0 1 none 1]),
    (206, .map [((false, [.int .i32 114]), (false, [.f (.int .i64 1)]))]),
    (207, .map [((false, [.int .i32 110]), (false, [.f (.int .i64 2)]))]),
    (208, .map []),
    (209, .cells 3 [.f (.int .i64 0)])] }
def cut204 : Cut :=
  { f := 204, args := [.sc (.pt 204 0), .sc (.f (.str [97, 114, 110]))], nx := 223, nx' := 224,
    H0 := [(204, .cells 360 [.sl 205 0 3 none 4]),
    (205, .cells 357 [.mp 206, .f (.int .i64 0), .f (.int .i64 0), .f (.nils), .mp 207, .f (.int .i64 0), .f (.int .i64 1), .f (.nils), .mp 208, .f (.int .i64 0), .f (.int .i64 2), .sl 209 0 1 none 1]),
    (206, .map [((false, [.int .i32 114]), (false, [.f (.int .i64 1)]))]),
    (207, .map [((false, [.int .i32 110]), (false, [.f (.int .i64 2)]))]),
    (208, .map []),
    (209, .cells 3 [.f (.int .i64 0)])],
    v := .tu [(false, [.sl 223 0 1 none 2]), (false, [.f (.int .i64 0)])],
    K := [(204, .cells 360 [.sl 205 0 3 none 4]),
    (205, .cells 357 [.mp 206, .f (.int .i64 0), .f (.int .i64 0), .f (.nils), .mp 207, .f (.int .i64 0), .f (.int .i64 1), .f (.nils), .mp 208, .f (.int .i64 0), .f (.int .i64 2), .sl 209 0 1 none 1]),
    (206, .map [((false, [.int .i32 114]), (false, [.f (.int .i64 1)]))]),
    (207, .map [((false, [.int .i32 110]), (false, [.f (.int .i64 2)]))]),
    (208, .map []),
    (209, .cells 3 [.f (.int .i64 0)]),
    (223, .cells 331 [.f (.int .i64 1), .f (.int .i64 0)])] }
def cut120 : Cut :=
  { f := 120, args := [.sc (.pt 11 0), .sc (.sl 9 0 1 none 3), .sc (.f (.str [97, 114, 110])), .sc (.f (.int .i64 100))], nx := 158, nx' := 159,
    H0 := [(11, .cells 167 [.sl 12 0 3 none 3, .f (.int .i64 4), .sl 13 0 3 none 1]),
    (9, .cells 35 [.f (.str [114, 110]), .f (.str [109]), .f (.int .i64 1)]),
    (12, .cells 160 [.sl 14 0 2 none 2, .f (.bool false), .f (.int .i64 3), .f (.nils), .f (.bool true), .f (.int .i64 1), .sl 15 0 2 none 2, .f (.bool false), .f (.int .i64 2)]),
    (13, .cells 3 [.f (.int .i64 1), .f (.int .i64 1), .f (.int .i64 1)]),
    (14, .cells 220 [.f (.int .i32 73), .f (.int .i64 1), .f (.int .i32 97), .f (.int .i64 2)]),
    (15, .cells 220 [.f (.int .i32 109), .f (.int .i64 1), .f (.int .i32 110), .f (.int .i64 1)])],
    v := .tu [(false, [.sl 158 0 1 none 3]), (true, [.f (.int .i64 3), .f (.int .i64 12), .f (.int .i64 2)]), (false, [.f (.int .i64 0)])],
    K := [(11, .cells 167 [.sl 12 0 3 none 3, .f (.int .i64 4), .sl 13 0 3 none 1]),
    (9, .cells 35 [.f (.str [114, 110]), .f (.str [109]), .f (.int .i64 1)]),
    (12, .cells 160 [.sl 14 0 2 none 2, .f (.bool false), .f (.int .i64 3), .f (.nils), .f (.bool true), .f (.int .i64 1), .sl 15 0 2 none 2, .f (.bool false), .f (.int .i64 2)]),
    (13, .cells 3 [.f (.int .i64 1), .f (.int .i64 1), .f (.int .i64 1)]),
    (14, .cells 220 [.f (.int .i32 73), .f (.int .i64 1), .f (.int .i32 97), .f (.int .i64 2)]),
    (15, .cells 220 [.f (.int .i32 109), .f (.int .i64 1), .f (.int .i32 110), .f (.int .i64 1)]),
    (158, .cells 114 [.f (.str [97, 109]), .f (.int .i64 1), .f (.int .i64 1)])] }
def cut17 : Cut :=
  { f := 17, args := [.sc (.pt 8 0), .sc (.f (.str [73, 32, 97, 114, 110, 46])), .sc (.f (.int .i64 100))], nx := 16, nx' := 17,
    H0 := [(8, .cells 103 [.sl 9 0 1 none 3, .sl 10 0 3 none 2, .pt 11 0]),
    (9, .cells 35 [.f (.str [114, 110]), .f (.str [109]), .f (.int .i64 1)]),
    (10, .cells 81 [.f (.str [73]), .f (.int .i64 1), .f (.str [97, 109]), .f (.int .i64 1), .f (.str [97, 110]), .f (.int .i64 1)]),
    (11, .cells 167 [.sl 12 0 3 none 3, .f (.int .i64 4), .sl 13 0 3 none 1]),
    (12, .cells 160 [.sl 14 0 2 none 2, .f (.bool false), .f (.int .i64 3), .f (.nils), .f (.bool true), .f (.int .i64 1), .sl 15 0 2 none 2, .f (.bool false), .f (.int .i64 2)]),
    (13, .cells 3 [.f (.int .i64 1), .f (.int .i64 1), .f (.int .i64 1)]),
    (14, .cells 220 [.f (.int .i32 73), .f (.int .i64 1), .f (.int .i32 97), .f (.int .i64 2)]),
    (15, .cells 220 [.f (.int .i32 109), .f (.int .i64 1), .f (.int .i32 110), .f (.int .i64 1)])],
    v := .tu [(false, [.f (.str [73, 32, 97, 109, 46])]), (false, [.sl 16 0 1 none 5]), (false, [.f (.int .i64 0)])],
    K := [(8, .cells 103 [.sl 9 0 1 none 3, .sl 10 0 3 none 2, .pt 11 0]),
    (9, .cells 35 [.f (.str [114, 110]), .f (.str [109]), .f (.int .i64 1)]),
    (10, .cells 81 [.f (.str [73]), .f (.int .i64 1), .f (.str [97, 109]), .f (.int .i64 1), .f (.str [97, 110]), .f (.int .i64 1)]),
    (11, .cells 167 [.sl 12 0 3 none 3, .f (.int .i64 4), .sl 13 0 3 none 1]),
    (12, .cells 160 [.sl 14 0 2 none 2, .f (.bool false), .f (.int .i64 3), .f (.nils), .f (.bool true), .f (.int .i64 1), .sl 15 0 2 none 2, .f (.bool false), .f (.int .i64 2)]),
    (13, .cells 3 [.f (.int .i64 1), .f (.int .i64 1), .f (.int .i64 1)]),
    (14, .cells 220 [.f (.int .i32 73), .f (.int .i64 1), .f (.int .i32 97), .f (.int .i64 2)]),
    (15, .cells 220 [.f (.int .i32 109), .f (.int .i64 1), .f (.int .i32 110), .f (.int .i64 1)]),
    (16, .cells 64 [.f (.int .i64 2), .f (.int .i64 5), .f (.str [97, 114, 110]), .f (.str [97, 109]), .f (.int .i64 1)])] }
def cut7 : Cut :=
  { f := 7, args := [], nx := 0, nx' := 0,
    H0 := [],
    v := .sc (.f (.bool true)),
    K := [] }
end Go.Proofs.YteigplfldhdakaaGreatDoor.Ev
/- Drawn regions again, with operands looked up one by one: the same reckoning, less dear. -/
namespace Go.Proofs.YteigplfldhdakaaGreatDoor.Ev
open Go Go.RowKit
def over (v : AV) : Option AV → Option AV
  | some _ => some v
  | none => none
def topAt (M : List Nat) (i : Nat) : Nat → List (Option Nat) → Nat → Option AV → Option AV
  | p, d :: ds, t, cur => topAt M i (p + 1) ds t (match d with | some d' => (match Nat.beq d' t with | true => (if (M.getD p 0).testBit i || p == i then cur else over .top cur) | false => cur) | none => cur)
  | _, [], _, cur => cur
def tmAt (m : Nat) : Nat → List (Option Nat) → List AV → Nat → Option AV → Option AV
  | p, d :: ds, v :: vs, t, cur => tmAt m (p + 1) ds vs t (match d with | some d' => (match Nat.beq d' t with | true => (if m.testBit p then over v cur else cur) | false => cur) | none => cur)
  | _, _, _, _, cur => cur
def envAt (M : List Nat) (dsts : List (Option Nat)) (vals tm : List AV) (m i t : Nat) : Option AV := tmAt m 0 dsts vals t (topAt M i 0 dsts t (tm[t]?))
theorem put_at (d : Nat) (v : AV) (tm : List AV) (t : Nat) : (tm.set d v)[t]? = match Nat.beq d t with | true => over v tm[t]? | false => tm[t]? := by
  rw [List.getElem?_set]
  by_cases h : d = t
  · subst h
    have : Nat.beq d d = true := Nat.beq_refl d
    rw [if_pos rfl, this]
    by_cases hl : d < tm.length
    · rw [if_pos hl, List.getElem?_eq_getElem hl]; rfl
    · rw [if_neg hl, List.getElem?_eq_none (by omega)]; rfl
  · have : Nat.beq d t = false := by
      cases hb : Nat.beq d t with
      | false => rfl
      | true => exact absurd (Nat.eq_of_beq_eq_true hb) h
    rw [if_neg h, this]
theorem topAt_eq {M : List Nat} {i t : Nat} : ∀ {p : Nat} {ds : List (Option Nat)} {tm : List AV}, topAt M i p ds t (tm[t]?) = (topI M i p ds tm)[t]?
  | _, [], _ => rfl
  | p, d :: ds, tm => by
    unfold topAt topI
    rw [← topAt_eq]
    congr 1
    cases d with
    | none => simp [putA]
    | some d' =>
      dsimp only [putA]
      by_cases hc : ((M.getD p 0).testBit i || p == i) = true
      · rw [if_pos hc, if_pos hc]
        split <;> rfl
      · rw [if_neg hc, if_neg hc, put_at]
theorem tmAt_eq {m t : Nat} : ∀ {p : Nat} {ds : List (Option Nat)} {vs tm : List AV}, tmAt m p ds vs t (tm[t]?) = (tmG m.testBit p ds vs tm)[t]?
  | _, [], _, _ => by unfold tmAt tmG; rfl
  | _, _ :: _, [], _ => by unfold tmAt tmG; rfl
  | p, d :: ds, v :: vs, tm => by
    unfold tmAt tmG
    rw [← tmAt_eq]
    congr 1
    cases d with
    | none => simp [putA]
    | some d' =>
      dsimp only [putA]
      by_cases hc : m.testBit p = true
      · rw [if_pos hc, if_pos hc, put_at]
      · rw [if_neg hc, if_neg hc]
        split <;> rfl
theorem envAt_eq (M : List Nat) (dsts : List (Option Nat)) (vals tm : List AV) (m i t : Nat) : envAt M dsts vals tm m i t = (tmG m.testBit 0 dsts vals (topI M i 0 dsts tm))[t]? := by
  unfold envAt
  rw [topAt_eq, tmAt_eq]
def aevalE (g : Nat → Option AV) : Operand → Option AV
  | .tmp t => g t
  | .const v => absV v
  | .func f => some (.sc (.f (.fn f)))
  | .global _ => none
theorem aevalE_eq (M : List Nat) (dsts : List (Option Nat)) (vals tm : List AV) (m i : Nat) : aevalE (envAt M dsts vals tm m i) = aeval (tmG m.testBit 0 dsts vals (topI M i 0 dsts tm)) := by
  funext x
  cases x with
  | tmp t => exact envAt_eq M dsts vals tm m i t
  | const v => rfl
  | func f => rfl
  | global g => rfl
def wantE (ops : Array Oper) (o : Oper) (g : Nat → Option AV) : Option Bool :=
  match o.guard with
  | none => some true
  | some (j, want) => match (ops[j]?).bind (·.dst) with
    | some d => match g d with
      | some (.sc (.f (.bool b))) => some (b == want)
      | _ => none
    | none => none
theorem wantE_eq (ops : Array Oper) (o : Oper) (M : List Nat) (dsts : List (Option Nat)) (vals tm : List AV) (m i : Nat) : wantE ops o (envAt M dsts vals tm m i) = wantA ops o (tmG m.testBit 0 dsts vals (topI M i 0 dsts tm)) := by
  have : envAt M dsts vals tm m i = fun t => (tmG m.testBit 0 dsts vals (topI M i 0 dsts tm))[t]? := funext fun t => envAt_eq M dsts vals tm m i t
  unfold wantE wantA
  rw [this]
  rfl
section
variable (P : Program) (ks : Nat → Bool × List FV → Bool) (cf : CF) (ops : Array Oper) (M : List Nat) (dsts : List (Option Nat)) (tm : List AV) (base : Nat)
def p1F : List Nat → List AV → List FlR → List Nat → AS → Option (List AV × List FlR × List ChR)
  | [], vals, fls, _, cur => some (vals, fls, [])
  | i :: rest, vals, fls, ab, cur => match ops[i]? with
    | none => none
    | some o =>
      let m := M.getD i 0
      match wantE ops o (envAt M dsts vals tm m i) with
      | none => none
      | some false => p1F rest (vals ++ [undA]) fls ab cur
      | some true =>
        if quietOp o.op then match aop P ks o (aevalE (envAt M dsts vals tm m i)) ⟨blk (avail fls ab m) ++ cur.H, cur.nx⟩ with
          | some [(v, _)] => p1F rest (vals ++ [v]) fls ab cur
          | _ => none
        else match fop P o (aevalE (envAt M dsts vals tm m i)) with
          | some (ty, L, sh) => p1F rest (vals ++ [sh.av (base + i)]) (fls ++ [⟨i, base + i, ty, L⟩]) ab cur
          | none => match evO P ks cf o (tmG m.testBit 0 dsts vals (topI M i 0 dsts tm)) ⟨blk (avail fls ab m) ++ cur.H, cur.nx⟩ with
            | some [(v, s')] => match p1F rest (vals ++ [v]) fls (ab ++ (avail fls ab m).map (·.op)) s' with
              | some (vals', fls', chs) => some (vals', fls', ⟨i, tmG m.testBit 0 dsts vals (topI M i 0 dsts tm), avail fls ab m, v, s'⟩ :: chs)
              | none => none
            | _ => none
theorem p1F_eq : ∀ (l : List Nat) (vals : List AV) (fls : List FlR) (ab : List Nat) (cur : AS), p1F P ks cf ops M dsts tm base l vals fls ab cur = p1 P ks cf ops M dsts tm base l vals fls ab cur
  | [], _, _, _, _ => rfl
  | i :: rest, vals, fls, ab, cur => by
    have ih := p1F_eq rest
    unfold p1F p1
    simp only [wantE_eq, aevalE_eq, ih]
    rfl
end
section
variable (P : Program) (ks : Nat → Bool × List FV → Bool) (ops : Array Oper) (M : List Nat) (dsts : List (Option Nat)) (tm : List AV) (base : Nat) (vals : List AV) (fls : List FlR) (chs : List ChR) (s0 : AS)
def okOpF (i : Nat) : Bool :=
  match ops[i]? with
  | none => false
  | some o =>
    if (chs.map (·.i)).contains i then true else
    fls.all (fun f => f.op != i) && (match wantE ops o (envAt M dsts vals tm (M.getD i 0) i) with
      | none => false
      | some false => decide (vals[i]? = some undA)
      | some true => quietOp o.op && (List.range (chs.length + 1)).all fun j => !allowedJ M (chs.map (·.i)) i j ||
          (match aop P ks o (aevalE (envAt M dsts vals tm (M.getD i 0) i)) ⟨blk (avail fls (abs' chs j) (M.getD i 0)) ++ (lvl s0 chs j).H, (lvl s0 chs j).nx⟩ with
          | some [(v, _)] => decide (vals[i]? = some v)
          | _ => false)) ||
    (match wantE ops o (envAt M dsts vals tm (M.getD i 0) i), fop P o (aevalE (envAt M dsts vals tm (M.getD i 0) i)) with
      | some true, some (ty, L, sh) => decide ((⟨i, base + i, ty, L⟩ : FlR) ∈ fls) && decide (vals[i]? = some (sh.av (base + i)))
      | _, _ => false)
theorem okOpF_eq : okOpF P ks ops M dsts tm base vals fls chs s0 = okOp P ks ops M dsts tm base vals fls chs s0 := by
  funext i
  unfold okOpF okOp
  simp only [wantE_eq, aevalE_eq]
  rfl
def okAllF : Bool :=
  earlier ops && okMask ops M && decide (vals.length = ops.size) && decide ((dsts.filterMap id).Nodup) && decide (dsts = ops.toList.map (·.dst)) && (List.range ops.size).all (okOpF P ks ops M dsts tm base vals fls chs s0) &&
    (chs.zipIdx.all fun x => okCh M dsts tm vals fls chs x.2 x.1) && decide (fls.map (·.op)).Nodup && fls.all (fun f => decide (f.b = base + f.op) && decide (f.op < ops.size))
theorem okAllF_eq : okAllF P ks ops M dsts tm base vals fls chs s0 = okAll P ks ops M dsts tm base vals fls chs s0 := by
  unfold okAllF okAll
  rw [okOpF_eq]
end
/-- a region that draws its order -/
def evDF (P : Program) (ks : Nat → Bool × List FV → Bool) (cf : CF) (ops : Array Oper) (tm : List AV) (s : AS) : Option (List (List AV × AS)) :=
  let M := masks ops.toList []
  let dsts := ops.toList.map (·.dst)
  let s0 : AS := ⟨s.H, s.nx + ops.size⟩
  match p1F P ks cf ops M dsts tm s.nx (List.range ops.size) [] [] [] s0 with
  | some (vals, fls, chs) =>
    if okAllF P ks ops M dsts tm s.nx vals fls chs s0 then
      some [(tmG (fun _ => true) 0 dsts vals tm, ⟨blk (fls.filter fun f => !(abs' chs chs.length).contains f.op) ++ (lvl s0 chs chs.length).H, (lvl s0 chs chs.length).nx⟩)]
    else none
  | none => none
theorem evDF_eq (P : Program) (ks : Nat → Bool × List FV → Bool) (cf : CF) (ops : Array Oper) (tm : List AV) (s : AS) : evDF P ks cf ops tm s = evD P ks cf ops tm s := by
  unfold evDF evD
  simp only [p1F_eq, okAllF_eq]
  rfl
def erF (P : Program) (ks : Nat → Bool × List FV → Bool) (cf : CF) : ER := fun ops draw tm s => if draw then evDF P ks cf ops tm s else evOps P ks cf ops (List.range ops.size) tm s
theorem erF_eq (P : Program) (ks : Nat → Bool × List FV → Bool) : erF P ks = erA P ks := by
  funext cf ops draw tm s
  unfold erF erA
  rw [evDF_eq]
def stageF (P : Program) (ks : Nat → Bool × List FV → Bool) (orc : OrcF) (n : Nat) (c : Cut) (old : List Nat) : Bool :=
  decide ((c.H0.map (·.1)).Nodup) && match evF P (fnA P) orc (erF P ks) n (.fn c.f) c.args ⟨kobj c.H0, c.nx⟩ with
  | some outs => outs.all fun r => chkOut c (renOf c old r) r
  | none => false
theorem stageF_orc {P : Program} {w0 : World} {ks : Nat → Bool × List FV → Bool} (hmix : P.follows .mixedOrders = true) (hname : P.funcs.all (fun fn => fn.name != "runtime.NumGoroutine") = true) (hK : KeyLaw P ks) {orc : OrcF} (hO : Orc P w0 orc) {n : Nat} {c : Cut} {old : List Nat}
    (h : stageF P ks orc n c old = true) : Orc P w0 (orcCut c) := by
  refine stage_orc (old := old) (n := n) hmix hname hK hO ?_
  unfold stageF at h
  rw [erF_eq] at h
  exact h
end Go.Proofs.YteigplfldhdakaaGreatDoor.Ev
