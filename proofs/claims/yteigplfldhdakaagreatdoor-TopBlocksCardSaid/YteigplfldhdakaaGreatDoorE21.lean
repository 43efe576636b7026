/- A call reckoned once is an oracle for the next stage. -/
import Derived.Test.YteigplfldhdakaaGreatDoorE20
import Derived.Test.YteigplfldhdakaaGreatDoorE10
import Derived.Test.YteigplfldhdakaaGreatDoorE03
import Derived.Shelf.Strings.Builder1
import Derived.Test.YteigplfldhdakaaGreatDoorE13
import Derived.Laws.RangeString
import Derived.Lib.OthersKept
import Derived.Lib.MapLaws
import Derived.Lib.ValidLaws
import Derived.Test.YteigplfldhdakaaGreatDoorE12
set_option linter.unusedVariables false
set_option linter.unusedSimpArgs false
namespace Go.Proofs.YteigplfldhdakaaGreatDoor.Ev
open Go Go.RowKit
abbrev OrcF := Nat → List AV → AS → Option (AV × AS)
def orcOr (a b : OrcF) : OrcF := fun f args s => match a f args s with | some r => some r | none => b f args s
theorem Orc.or {P : Program} {w0 : World} {a b : OrcF} (ha : Orc P w0 a) (hb : Orc P w0 b) : Orc P w0 (orcOr a b) :=
  ⟨fun f args s r γ w us hi hu h => by
    unfold orcOr at h
    split at h
    · rename_i r' h'
      cases h
      exact ha.ok f args s r γ w us hi hu h'
    · exact hb.ok f args s r γ w us hi hu h⟩
def orc0 : OrcF := fun _ _ _ => none
theorem Orc.none (P : Program) (w0 : World) : Orc P w0 orc0 := ⟨fun _ _ _ _ _ _ _ _ _ h => by cases h⟩
/-- the blocks that a cut asks for lie there -/
def hasBlk (H : List (Nat × AObj)) : List (Nat × KO) → Bool
  | [] => true
  | (b, k) :: r => (match fnd H b, k with
    | some (.cells ty L), .cells ty' L' => ty == ty' && decide (L = L')
    | some (.map es), .map es' => decide (es = es')
    | _, _ => false) && hasBlk H r
def inIds (l : List (Nat × KO)) (b : Nat) : Bool := l.any fun x => x.1 == b
def rest (H0 : List (Nat × KO)) (H : List (Nat × AObj)) : List (Nat × AObj) := H.filter fun x => !inIds H0 x.1
def orcCut (c : Cut) : OrcF := fun f args s =>
  if f = c.f ∧ args = c.args ∧ s.nx = c.nx ∧ hasBlk s.H c.H0 = true then some (c.v, ⟨kobj c.K ++ rest c.H0 s.H, c.nx'⟩) else none
theorem hasBlk_mem : ∀ {H0 : List (Nat × KO)} {H : List (Nat × AObj)}, hasBlk H H0 = true → ∀ x ∈ kobj H0, x ∈ H
  | [], _, _, x, hx => by simp [kobj] at hx
  | (b, k) :: r, H, h, x, hx => by
    unfold hasBlk at h
    rw [Bool.and_eq_true] at h
    rcases List.mem_cons.1 (show x ∈ (b, k.obj) :: kobj r from hx) with rfl | h1
    · have h2 := h.1
      split at h2
      · rename_i ty L ty' L' hf
        rw [Bool.and_eq_true] at h2
        have e1 := eq_of_beq h2.1
        have e2 := of_decide_eq_true h2.2
        subst e1 e2
        exact fnd_mem hf
      · rename_i es es' hf
        have e2 := of_decide_eq_true h2
        subst e2
        exact fnd_mem hf
      · cases h2
    · exact hasBlk_mem h.2 x h1
theorem inIds_iff {l : List (Nat × KO)} {b : Nat} : inIds l b = true ↔ b ∈ l.map (·.1) := by
  simp [inIds]
/-- blocks, said apart -/
theorem HR.apart {γ : Pl} {H : List (Nat × AObj)} {H0 : List (Nat × KO)} {n : Nat} {w : World} (h : HR γ ⟨H, n⟩ w) (hn : (H0.map (·.1)).Nodup) (hb : hasBlk H H0 = true) :
    HR γ ⟨kobj H0 ++ rest H0 H, n⟩ w ∧ ∀ k, k ∈ (kobj H0 ++ rest H0 H).map (·.1) ↔ k ∈ H.map (·.1) := by
  have hm := hasBlk_mem hb
  have hi : ∀ k, k ∈ (kobj H0 ++ rest H0 H).map (·.1) ↔ k ∈ H.map (·.1) := fun k => by
    rw [List.map_append, List.mem_append, kobj_ids]
    constructor
    · rintro (h1 | h1)
      · obtain ⟨y, hy, rfl⟩ := List.mem_map.1 h1
        exact List.mem_map.2 ⟨(y.1, y.2.obj), hm _ (List.mem_map.2 ⟨y, hy, rfl⟩), rfl⟩
      · obtain ⟨y, hy, rfl⟩ := List.mem_map.1 h1
        exact List.mem_map.2 ⟨y, (List.mem_filter.1 hy).1, rfl⟩
    · intro h1
      by_cases hk : inIds H0 k = true
      · exact .inl (inIds_iff.1 hk)
      · obtain ⟨y, hy, rfl⟩ := List.mem_map.1 h1
        exact .inr (List.mem_map.2 ⟨y, List.mem_filter.2 ⟨hy, by simpa using hk⟩, rfl⟩)
  refine ⟨⟨fun b o hx => ?_, ?_, fun b b' x y h1 h2 h3 h4 h5 => h.inj b b' x y ((hi b).1 h1) ((hi b').1 h2) h3 h4 h5, h.nxt⟩, hi⟩
  · rcases List.mem_append.1 hx with h1 | h1
    · exact h.obj b o (hm _ h1)
    · exact h.obj b o (List.mem_filter.1 h1).1
  · show ((kobj H0 ++ rest H0 H).map (·.1)).Nodup
    rw [List.map_append, kobj_ids, List.nodup_append]
    refine ⟨hn, ((List.filter_sublist).map _).nodup h.nod, fun a h1 b h2 e => ?_⟩
    subst e
    obtain ⟨y, hy, rfl⟩ := List.mem_map.1 h2
    have h3 := (List.mem_filter.1 hy).2
    rw [inIds_iff.2 h1] at h3
    cases h3
/-- new numbers as the result names them -/
def svIds : SV → List Nat
  | .f _ => [] | .pt b _ => [b] | .sl b _ _ _ _ => [b] | .se b _ => [b] | .mp b => [b] | .cl _ cs => cs | .yl b => [b]
def avIds : AV → List Nat
  | .sc x => svIds x
  | .ag xs => xs.flatMap svIds
  | .tu ys => ys.flatMap fun y => y.2.flatMap svIds
  | .top => []
/-- a cut's own numbers matched with an outcome's -/
def matchS : SV → SV → Ren → Ren
  | .pt b _, .pt b' _, ρ => if (ρ.to b).isSome then ρ else (b, b') :: ρ
  | .sl b _ _ _ _, .sl b' _ _ _ _, ρ => if (ρ.to b).isSome then ρ else (b, b') :: ρ
  | .se b _, .se b' _, ρ => if (ρ.to b).isSome then ρ else (b, b') :: ρ
  | .mp b, .mp b', ρ => if (ρ.to b).isSome then ρ else (b, b') :: ρ
  | .cl _ cs, .cl _ cs', ρ => (cs.zip cs').foldl (fun ρ p => if (ρ.to p.1).isSome then ρ else p :: ρ) ρ
  | _, _, ρ => ρ
def matchL : List SV → List SV → Ren → Ren
  | x :: xs, y :: ys, ρ => matchL xs ys (matchS x y ρ)
  | _, _, ρ => ρ
def matchA : AV → AV → Ren → Ren
  | .sc x, .sc y, ρ => matchS x y ρ
  | .ag xs, .ag ys, ρ => matchL xs ys ρ
  | .tu xs, .tu ys, ρ => matchL (xs.flatMap (·.2)) (ys.flatMap (·.2)) ρ
  | _, _, ρ => ρ
def matchO : AObj → KO → Ren → Ren
  | .cells _ L, .cells _ L', ρ => matchL L L' ρ
  | .map es, .map es', ρ => matchL (es.flatMap (·.2.2)) (es'.flatMap (·.2.2)) ρ
  | _, _, ρ => ρ
def matchK (H : List (Nat × AObj)) : List (Nat × KO) → Ren → Ren
  | [], ρ => ρ
  | (b, k) :: r, ρ => match ρ.back b with
    | some b0 => match fnd H b0 with
      | some o => matchK H r (matchO o k ρ)
      | none => matchK H r ρ
    | none => matchK H r ρ
/-- the cut's blocks stand in the order in which they are met -/
def renOf (c : Cut) (old : List Nat) (r : AV × AS) : Ren := matchK r.2.H c.K (matchA r.1 c.v (old.map fun b => (b, b)))
/-- the stage: the call comes to the cut -/
def stage (P : Program) (ks : Nat → Bool × List FV → Bool) (orc : OrcF) (n : Nat) (c : Cut) (old : List Nat) : Bool :=
  decide ((c.H0.map (·.1)).Nodup) && match run P ks orc n c.f c.args ⟨kobj c.H0, c.nx⟩ with
  | some outs => outs.all fun r => chkOut c (renOf c old r) r
  | none => false
theorem stage_orc {P : Program} {w0 : World} {ks : Nat → Bool × List FV → Bool} (hmix : P.follows .mixedOrders = true) (hname : P.funcs.all (fun fn => fn.name != "runtime.NumGoroutine") = true) (hK : KeyLaw P ks) {orc : OrcF} (hO : Orc P w0 orc) {n : Nat} {c : Cut} {old : List Nat}
    (h : stage P ks orc n c old = true) : Orc P w0 (orcCut c) := by
  refine ⟨fun f args s r γ w us hi hu he => ?_⟩
  unfold orcCut at he
  split at he
  · rename_i hq
    obtain ⟨rfl, rfl, hnx, hb⟩ := hq
    cases he
    obtain ⟨H, nx⟩ := s
    cases (show nx = c.nx from hnx)
    unfold stage at h
    rw [Bool.and_eq_true] at h
    obtain ⟨h1, h2⟩ := h
    have hn := of_decide_eq_true h1
    obtain ⟨a1, a2⟩ := hi.hr.apart hn hb
    have hi1 : Inv w0 γ ⟨kobj c.H0 ++ rest c.H0 H, c.nx⟩ w := ⟨a1, fun k hk => hi.im k (by
      obtain ⟨b, d, z, q1, q2⟩ := hk
      exact ⟨b, d, z, (a2 b).1 q1, q2⟩), hi.bel⟩
    have hi0 : Inv w0 γ ⟨kobj c.H0, c.nx⟩ w := Inv.sub hi1 (fun x hx => List.mem_append_left _ hx) (by rw [kobj_ids]; exact hn)
    split at h2
    · rename_i outs hr
      refine (run_ok hmix hname hK hO hi0 hu hr).mono fun e w' hd => ?_
      obtain ⟨v, s1, u, k1, k2, k3⟩ := hd
      have hc := List.all_eq_true.1 h2 _ k1
      obtain ⟨γ1, d1, d2, d3⟩ := cut_done a1 k3 hc
      refine ⟨u, k2, γ1, d1, ⟨d2.sub, d2.size, fun k hk hk2 => d2.keep k hk fun hk3 => hk2 ?_, fun k hk => ?_, d2.same, d2.ids, d2.nxle⟩, d3⟩
      · obtain ⟨b, d, z, q1, q2⟩ := hk3
        exact ⟨b, d, z, (a2 b).1 q1, q2⟩
      · rcases d2.im k hk with ⟨b, d, z, q1, q2⟩ | q
        · exact .inl ⟨b, d, z, (a2 b).1 q1, q2⟩
        · exact .inr q
    · cases h2
  · cases he
end Go.Proofs.YteigplfldhdakaaGreatDoor.Ev
/- Keys of maps in this program. -/
namespace Go.Proofs.YteigplfldhdakaaGreatDoor.Ev
open Go Go.RowKit Go.Proofs.YteigplfldhdakaaGreatDoor
def ksT (t : Nat) (k : Bool × List FV) : Bool := match t, k with
  | 3, (false, [.int .i64 _]) => true
  | 21, (false, [.int .i32 _]) => true
  | 9, (false, [.str _]) => true
  | 140, (true, [.str _, .str _]) => true
  | 335, (true, [.int .i64 _, .int .i64 _, .str _]) => true
  | _, _ => false
theorem now_ok {γ : Pl} {kt : Nat} {kind : TypeDesc} {k : Bool × List FV} (hs : ∀ k', ksT kt k' = true → Instr.sameNow kind (keyVal k) (keyVal k') = some (decide (k = k'))) : ∀ {es : List Ent} {cs : List MapEntry} {b : Nat} (i : Nat), (∀ e ∈ es, ksT kt e.1 = true) → entsR γ b es cs → ∃ r, Instr.findNow kind (keyVal k) cs i = some r ∧ FR γ (afind k es i) r
  | [], [], _, i, _, _ => ⟨none, rfl, trivial⟩
  | e :: es, c :: cs, b, i, he, hr => by
    have h1 := hs e.1 (he e (List.mem_cons_self ..))
    rw [← hr.1.1] at h1
    unfold Instr.findNow afind
    rw [h1]
    by_cases hk : k = e.1
    · rw [if_pos hk, decide_eq_true hk]
      exact ⟨_, rfl, rfl, hr.1.2.1⟩
    · rw [if_neg hk, decide_eq_false hk]
      exact now_ok hs (i + 1) (fun e' h => he e' (List.mem_cons_of_mem _ h)) hr.2
  | [], _ :: _, _, _, _, hr => hr.elim
  | _ :: _, [], _, _, _, hr => hr.elim
theorem ask_ok {γ : Pl} {kt : Nat} {k : Bool × List FV} {w : World} (hs : ∀ k', ksT kt k' = true → (Op.equal kt (keyVal k) (keyVal k')).run Tryz.prog w = .ok (decide (k = k')) w) : ∀ {es : List Ent} {cs : List MapEntry} {b : Nat} (i : Nat), (∀ e ∈ es, ksT kt e.1 = true) → entsR γ b es cs → ∃ r, (Instr.findAsking kt (keyVal k) cs i).run Tryz.prog w = .ok r w ∧ FR γ (afind k es i) r
  | [], [], _, i, _, _ => ⟨none, by simp [Instr.findAsking], trivial⟩
  | e :: es, c :: cs, b, i, he, hr => by
    have h1 := hs e.1 (he e (List.mem_cons_self ..))
    rw [← hr.1.1] at h1
    unfold Instr.findAsking afind
    by_cases hk : k = e.1
    · rw [if_pos hk]
      rw [decide_eq_true hk] at h1
      exact ⟨some (i, c.val), by simp [h1], ⟨rfl, hr.1.2.1⟩⟩
    · rw [if_neg hk]
      rw [decide_eq_false hk] at h1
      obtain ⟨r, q1, q2⟩ := ask_ok hs (i + 1) (fun e' h => he e' (List.mem_cons_of_mem _ h)) hr.2
      exact ⟨r, by simp [h1, q1], q2⟩
  | [], _ :: _, _, _, _, hr => hr.elim
  | _ :: _, [], _, _, _, hr => hr.elim
theorem by_now {kt : Nat} {kind : TypeDesc} (hu : Tryz.prog.underlying kt = some kind) (hs : ∀ k k', ksT kt k = true → ksT kt k' = true → Instr.sameNow kind (keyVal k) (keyVal k') = some (decide (k = k'))) {k : Bool × List FV} {es : List Ent} {cs : List MapEntry} {γ : Pl} {b : Nat} {w : World}
    (hk : ksT kt k = true) (he : ∀ e ∈ es, ksT kt e.1 = true) (hr : entsR γ b es cs) : ∃ r, (Instr.findKey kt (keyVal k) cs).run Tryz.prog w = .ok r w ∧ FR γ (afind k es 0) r := by
  obtain ⟨r, h1, h2⟩ := now_ok (fun k' => hs k k' hk) 0 he hr
  exact ⟨r, by simp [Instr.findKey, run_underlying hu, h1], h2⟩
theorem by_ask {kt : Nat} {kind : TypeDesc} (hu : Tryz.prog.underlying kt = some kind) (hn : ∀ k k', ksT kt k = true → ksT kt k' = true → Instr.sameNow kind (keyVal k) (keyVal k') = none) (hs : ∀ k k' w, ksT kt k = true → ksT kt k' = true → (Op.equal kt (keyVal k) (keyVal k')).run Tryz.prog w = .ok (decide (k = k')) w) {k : Bool × List FV} {es : List Ent} {cs : List MapEntry} {γ : Pl} {b : Nat} {w : World}
    (hk : ksT kt k = true) (he : ∀ e ∈ es, ksT kt e.1 = true) (hr : entsR γ b es cs) : ∃ r, (Instr.findKey kt (keyVal k) cs).run Tryz.prog w = .ok r w ∧ FR γ (afind k es 0) r := by
  match es, cs, hr with
  | [], [], _ => exact ⟨none, by simp [Instr.findKey, run_underlying hu, Instr.findNow], trivial⟩
  | [], _ :: _, hr => exact hr.elim
  | _ :: _, [], hr => exact hr.elim
  | e :: es', c :: cs', hr =>
    obtain ⟨r, h1, h2⟩ := ask_ok (w := w) (fun k' => hs k k' w hk) 0 he hr
    have h3 := hn k e.1 hk (he e (List.mem_cons_self ..))
    have h4 : c.key = keyVal e.1 := hr.1.1
    rw [← h4] at h3
    exact ⟨r, by simp [Instr.findKey, run_underlying hu, Instr.findNow, h3, h1], h2⟩
theorem str_eq (a b : List UInt8) : ((⟨⟨a⟩⟩ : ByteArray) = ⟨⟨b⟩⟩) ↔ a = b := ⟨fun h => by cases h; rfl, fun h => by rw [h]⟩
theorem stood335 : Tryz.prog.stoodInHeld 335 = false := by kernel_rfl
theorem eq335 (a b : Int) (f : ByteArray) (a' b' : Int) (f' : ByteArray) (w : World) : (Op.equal 335 (.agg #[.int .i64 a, .int .i64 b, .string f]) (.agg #[.int .i64 a', .int .i64 b', .string f'])).run Tryz.prog w = .ok (decide (a = a' ∧ b = b' ∧ f = f')) w := by
  have h335 := Tryz.underlying335
  have hf : Tryz.prog.underlying 335 = some (.struct (Tryz.prog.fieldsOf 335)) := by simp [Program.fieldsOf, h335]
  show (Op.equalIn (9998 + 1 + 1) 335 _ _).run Tryz.prog w = _
  rw [run_equalIn_struct (P := Tryz.prog) w (9998 + 1) 335 _ _ hf stood335]
  have h9 := Tryz.underlying9
  have h3 := Tryz.underlying3
  simp only [Program.fieldsOf, h335]
  by_cases h1 : a = a'
  · subst h1
    by_cases h2 : b = b'
    · subst h2
      by_cases hff : f = f'
      · subst hff
        go_simp
      · have h2 : ¬ f.toList = f'.toList := fun h => hff (bytesEq h)
        go_simp
    · go_simp
  · go_simp
theorem check3 (em : Bool) (n : Nat) (a : Int) (w : World) : (Instr.checkKey em (n + 1) 3 (.int .i64 a)).run Tryz.prog w = .ok () w := by
  have h3 := Tryz.underlying3
  rw [Instr.checkKey]
  go_simp
theorem check21 (em : Bool) (n : Nat) (a : Int) (w : World) : (Instr.checkKey em (n + 1) 21 (.int .i32 a)).run Tryz.prog w = .ok () w := by
  have h3 := Tryz.underlying21
  rw [Instr.checkKey]
  go_simp
theorem check335 (em : Bool) (a b : Int) (f : ByteArray) (w : World) : (Instr.checkKey em 10000 335 (.agg #[.int .i64 a, .int .i64 b, .string f])).run Tryz.prog w = .ok () w := by
  show (Instr.checkKey em (9998 + 1 + 1) 335 _).run Tryz.prog w = _
  have h9 := Tryz.underlying9
  have h3 := Tryz.underlying3
  have h335 := Tryz.underlying335
  have e1 := check3 em 9998 a w
  have e2 := check3 em 9998 b w
  have e3 := check9 em 9998 f w
  rw [Instr.checkKey]
  go_simp
theorem ksT_inv {t : Nat} {k : Bool × List FV} (h : ksT t k = true) : (t = 3 ∧ ∃ n, k = (false, [.int .i64 n])) ∨ (t = 21 ∧ ∃ n, k = (false, [.int .i32 n])) ∨ (t = 9 ∧ ∃ l, k = (false, [.str l])) ∨ (t = 140 ∧ ∃ a b, k = (true, [.str a, .str b])) ∨ (t = 335 ∧ ∃ a b c, k = (true, [.int .i64 a, .int .i64 b, .str c])) := by
  unfold ksT at h
  split at h
  · exact .inl ⟨rfl, _, rfl⟩
  · exact .inr (.inl ⟨rfl, _, rfl⟩)
  · exact .inr (.inr (.inl ⟨rfl, _, rfl⟩))
  · exact .inr (.inr (.inr (.inl ⟨rfl, _, _, rfl⟩)))
  · exact .inr (.inr (.inr (.inr ⟨rfl, _, _, _, rfl⟩)))
  · cases h
theorem keyLaw : KeyLaw Tryz.prog ksT := by
  refine ⟨fun kt k es cs γ b w hk he hr => ?_, fun kt k e w hk => ?_, fun kt k hk => ?_⟩
  · rcases ksT_inv hk with ⟨rfl, h⟩ | ⟨rfl, h⟩ | ⟨rfl, h⟩ | ⟨rfl, h⟩ | ⟨rfl, h⟩
    · refine by_now Tryz.underlying3 (fun k k' h1 h2 => ?_) hk he hr
      obtain ⟨n, rfl⟩ : ∃ n, k = (false, [.int .i64 n]) := by rcases ksT_inv h1 with ⟨_, h⟩ | ⟨h, _⟩ | ⟨h, _⟩ | ⟨h, _⟩ | ⟨h, _⟩ <;> first | exact h | (exact absurd h (by decide))
      obtain ⟨m, rfl⟩ : ∃ n, k' = (false, [.int .i64 n]) := by rcases ksT_inv h2 with ⟨_, h⟩ | ⟨h, _⟩ | ⟨h, _⟩ | ⟨h, _⟩ | ⟨h, _⟩ <;> first | exact h | (exact absurd h (by decide))
      simp only [Instr.sameNow, keyVal, FV.val, if_true]
      congr 1
      rw [Bool.eq_iff_iff]
      simp
    · refine by_now Tryz.underlying21 (fun k k' h1 h2 => ?_) hk he hr
      obtain ⟨n, rfl⟩ : ∃ n, k = (false, [.int .i32 n]) := by rcases ksT_inv h1 with ⟨h, _⟩ | ⟨_, h⟩ | ⟨h, _⟩ | ⟨h, _⟩ | ⟨h, _⟩ <;> first | exact h | (exact absurd h (by decide))
      obtain ⟨m, rfl⟩ : ∃ n, k' = (false, [.int .i32 n]) := by rcases ksT_inv h2 with ⟨h, _⟩ | ⟨_, h⟩ | ⟨h, _⟩ | ⟨h, _⟩ | ⟨h, _⟩ <;> first | exact h | (exact absurd h (by decide))
      simp only [Instr.sameNow, keyVal, FV.val, if_true]
      congr 1
      rw [Bool.eq_iff_iff]
      simp
    · refine by_now Tryz.underlying9 (fun k k' h1 h2 => ?_) hk he hr
      obtain ⟨n, rfl⟩ : ∃ n, k = (false, [.str n]) := by rcases ksT_inv h1 with ⟨h, _⟩ | ⟨h, _⟩ | ⟨_, h⟩ | ⟨h, _⟩ | ⟨h, _⟩ <;> first | exact h | (exact absurd h (by decide))
      obtain ⟨m, rfl⟩ : ∃ n, k' = (false, [.str n]) := by rcases ksT_inv h2 with ⟨h, _⟩ | ⟨h, _⟩ | ⟨_, h⟩ | ⟨h, _⟩ | ⟨h, _⟩ <;> first | exact h | (exact absurd h (by decide))
      show some ((⟨⟨n⟩⟩ : ByteArray) == ⟨⟨m⟩⟩) = _
      rw [beq_toListBytes]
      congr 1
      rw [Bool.eq_iff_iff, beq_iff_eq, decide_eq_true_iff]
      exact ⟨fun h => by
        have := bytesEq h
        cases this
        rfl, fun h => by cases h; rfl⟩
    · refine by_ask Tryz.underlying140 (fun k k' h1 h2 => rfl) (fun k k' w h1 h2 => ?_) hk he hr
      obtain ⟨a, c, rfl⟩ : ∃ a b, k = (true, [.str a, .str b]) := by rcases ksT_inv h1 with ⟨h, _⟩ | ⟨h, _⟩ | ⟨h, _⟩ | ⟨_, h⟩ | ⟨h, _⟩ <;> first | exact h | (exact absurd h (by decide))
      obtain ⟨a', c', rfl⟩ : ∃ a b, k' = (true, [.str a, .str b]) := by rcases ksT_inv h2 with ⟨h, _⟩ | ⟨h, _⟩ | ⟨h, _⟩ | ⟨_, h⟩ | ⟨h, _⟩ <;> first | exact h | (exact absurd h (by decide))
      refine (eq140 ⟨⟨a⟩⟩ ⟨⟨c⟩⟩ ⟨⟨a'⟩⟩ ⟨⟨c'⟩⟩ w).trans ?_
      congr 1
      simp [str_eq]
    · refine by_ask Tryz.underlying335 (fun k k' h1 h2 => rfl) (fun k k' w h1 h2 => ?_) hk he hr
      obtain ⟨a, c, d, rfl⟩ : ∃ a b c, k = (true, [.int .i64 a, .int .i64 b, .str c]) := by rcases ksT_inv h1 with ⟨h, _⟩ | ⟨h, _⟩ | ⟨h, _⟩ | ⟨h, _⟩ | ⟨_, h⟩ <;> first | exact h | (exact absurd h (by decide))
      obtain ⟨a', c', d', rfl⟩ : ∃ a b c, k' = (true, [.int .i64 a, .int .i64 b, .str c]) := by rcases ksT_inv h2 with ⟨h, _⟩ | ⟨h, _⟩ | ⟨h, _⟩ | ⟨h, _⟩ | ⟨_, h⟩ <;> first | exact h | (exact absurd h (by decide))
      refine (eq335 a c ⟨⟨d⟩⟩ a' c' ⟨⟨d'⟩⟩ w).trans ?_
      congr 1
      simp [str_eq]
  · rcases ksT_inv hk with ⟨rfl, n, rfl⟩ | ⟨rfl, n, rfl⟩ | ⟨rfl, l, rfl⟩ | ⟨rfl, a, c, rfl⟩ | ⟨rfl, a, c, d, rfl⟩
    · exact check3 e 9999 n w
    · exact check21 e 9999 n w
    · exact check9 e 9999 ⟨⟨l⟩⟩ w
    · exact check140 e ⟨⟨a⟩⟩ ⟨⟨c⟩⟩ w
    · exact check335 e a c ⟨⟨d⟩⟩ w
  · rcases ksT_inv hk with ⟨rfl, n, rfl⟩ | ⟨rfl, n, rfl⟩ | ⟨rfl, l, rfl⟩ | ⟨rfl, a, c, rfl⟩ | ⟨rfl, a, c, d, rfl⟩ <;> simp [keyVal, FV.val, Instr.sameBits, beq_toListBytes]
end Go.Proofs.YteigplfldhdakaaGreatDoor.Ev
/- Two functions of strings.Builder, said of the very world that they leave. -/
namespace Go.Proofs.YteigplfldhdakaaGreatDoor.Ev
open Go Go.RowKit Go.Proofs.YteigplfldhdakaaGreatDoor Go.Shelf
theorem mixT : Tryz.prog.follows .mixedOrders = true := by kernel_rfl
theorem sizeB : (Tryz.prog.info? 121).map (·.size) = some 2 := by kernel_rfl
theorem liesB : liesAt Tryz.prog Tryz.prog.depth 121 (2 / Tryz.prog.cellsOf 121) 0 121 1 = true := by kernel_rfl
theorem cellsY : Tryz.prog.cellsOf 5 = 1 := by kernel_rfl
set_option maxHeartbeats 1000000 in
set_option maxRecDepth 100000 in
theorem check_used (b : Nat) (w : World) (h0 : w.cell? ⟨b, 0, none⟩ = some (.pointer (some ⟨b, 0, none⟩))) :
    Calls Tryz.prog 80 #[.pointer (some ⟨b, 0, none⟩)] w fun e w' => e = .returned (.tuple #[]) ∧ w' = w := by
  obtain ⟨j, hj, hjs⟩ := Option.map_eq_some_iff.1 sizeB
  go_enter Tryz.func80, Tryz.ntmps80
  go_wp2
  rw [Lib.run_neq_ptr_same w _ Tryz.underlying118 hj]
  go_wp2
  go_end0
  exact ⟨rfl, rfl⟩
set_option maxHeartbeats 1000000 in
set_option maxRecDepth 100000 in
theorem check_fresh (b : Nat) (w : World) (h0 : w.cell? ⟨b, 0, none⟩ = some (.pointer none)) (hsh : w.shape? b = some (121, 2)) (hfz : w.frozen? ⟨b, 0, none⟩ = false) :
    Calls Tryz.prog 80 #[.pointer (some ⟨b, 0, none⟩)] w fun e w' => e = .returned (.tuple #[]) ∧ w' = w.setCell ⟨b, 0, none⟩ (.pointer (some ⟨b, 0, none⟩)) := by
  obtain ⟨j, hj, hjs⟩ := Option.map_eq_some_iff.1 sizeB
  go_enter Tryz.func80, Tryz.ntmps80
  go_wp2
  rw [Lib.run_to_unsafe w ⟨b, 0, none⟩ Tryz.underlying118 Tryz.underlying234 hj (by rw [hjs]; decide) hsh (Nat.zero_lt_succ 1)]
  simp only [Result.andThen]
  rw [Oper.upon_value]
  go_wp2
  rw [run_callFunc_extern Tryz.func123 (by kernel_rfl) (by kernel_rfl) (by kernel_rfl) (e := Extern.AbiNoEscape.same) (by kernel_rfl)]
  rw [Lib.run_noEscape]
  simp only [Result.andThen]
  rw [Oper.upon_value]
  go_wp2
  rw [Lib.run_from_unsafe w ⟨b, 0, none⟩ Tryz.underlying234 Tryz.underlying118 hj hsh liesB]
  simp only [Result.andThen]
  rw [Oper.upon_value]
  go_wp2
  go_end0
  exact ⟨rfl, rfl⟩
/-- bytes side by side, from anywhere in a row of bytes -/
theorem lies_bytes {P : Program} {e : TypeId} (hc : P.cellsOf e = 1) (count q n : Nat) (hn : q + n ≤ count) : liesAt P P.depth e count q e n = true := by
  have hd : P.depth = (2 * (P.types.size + Made.depth) + 1) + 1 := rfl
  rw [hd]
  simp only [liesAt, Bool.or_eq_true]
  left
  rw [hd]
  simp [rowAt, hc, hn, sameLayout, Nat.mod_one]
theorem run_uString {P : Program} (w : World) (pt it ty e : TypeId) (hp : P.underlying pt = some (.pointer e)) (hc : P.cellsOf e = 1) (g q cells : Nat) (hsh : w.shape? g = some (e, cells)) (l : List UInt8) (h0 : l ≠ []) (hn : q + l.length ≤ cells) (h63 : l.length ≤ 9223372036854775807)
    (hcell : ∀ j x, l[j]? = some x → w.cell? ((⟨g, q, none⟩ : Addr).add j) = some (.int .u8 x.toNat)) :
    (Builtin.unsafeString_ #[pt, it] ty #[.pointer (some ⟨g, q, none⟩), .int .i64 l.length]).run P w = .ok (.string ⟨l.toArray⟩) (w.freeze ⟨g, q, none⟩ l.length) := by
  have hl : l.length ≠ 0 := by simpa using h0
  have hlb := Lib.run_loadBytes (P := P) w l ⟨g, q, none⟩ .empty hcell
  have hlies := lies_bytes (P := P) hc (cells / P.cellsOf e) q l.length (by rw [hc]; simpa using hn)
  have h63' : ¬ (9223372036854775807 : Int) < (l.length : Int) := by omega
  have hmax : IntKind.i64.max = 9223372036854775807 := rfl
  have hneg : ¬ (l.length : Int) < 0 := by omega
  change Sem.run P (asInt (Value.int .i64 (l.length : Int)) >>= _) w = _
  simp [asInt, asIntOf, hmax, h63', hneg, hl, variablesAt, hsh, elemOf, run_underlying hp, hlies, hlb]
set_option maxHeartbeats 1000000 in
set_option maxRecDepth 100000 in
theorem string_of (b g q c cells : Nat) (l : List UInt8) (w : World) (h1 : w.cell? ⟨b, 1, none⟩ = some (.slice (some ⟨g, q, none⟩) l.length c)) (h0 : l ≠ []) (hc : l.length ≤ c) (hsh : w.shape? g = some (5, cells)) (hn : q + l.length ≤ cells) (h63 : l.length ≤ 9223372036854775807)
    (hcell : ∀ j x, l[j]? = some x → w.cell? ((⟨g, q, none⟩ : Addr).add j) = some (.int .u8 x.toNat)) :
    Calls Tryz.prog 46 #[.pointer (some ⟨b, 0, none⟩)] w fun e w' => e = .returned (.string ⟨l.toArray⟩) ∧ w' = w.drew.freeze ⟨g, q, none⟩ l.length := by
  have hl0 : l.length ≠ 0 := by simpa using h0
  have c1 : w.drew.cell? ⟨b, 1, none⟩ = some (.slice (some ⟨g, q, none⟩) l.length c) := h1
  have hSD : (Builtin.unsafeSliceData_ #[119] 180 #[.slice (some ⟨g, q, none⟩) l.length c]).run Tryz.prog w.drew = .ok (.pointer (some ⟨g, q, none⟩)) w.drew :=
    Lib.run_unsafeSliceData_row _ _ _ _ _ _ (by omega)
  have hUS : (Builtin.unsafeString_ #[180, 3] 9 #[.pointer (some ⟨g, q, none⟩), .int .i64 l.length]).run Tryz.prog w.drew = .ok (.string ⟨l.toArray⟩) (w.drew.freeze ⟨g, q, none⟩ l.length) :=
    run_uString w.drew 180 3 9 5 Tryz.underlying180 cellsY g q cells hsh l h0 hn h63 hcell
  have mixed := mixT
  go_enter Tryz.func46, Tryz.ntmps46
  go_wp2
  go_region_o
  all_goals (go_wp2; go_ret; exact ⟨rfl, rfl⟩)
end Go.Proofs.YteigplfldhdakaaGreatDoor.Ev
/- runes.Letter. -/
namespace Go.Proofs.YteigplfldhdakaaGreatDoor
open Go.RowKit Go.Shelf
attribute [local go_sem ↓] Go.wp_at_zero Go.wp_at_succ
set_option maxRecDepth 100000 in
set_option maxHeartbeats 1000000 in
theorem between_c (r lo hi : Int) (w : World) : Calls Tryz.prog 167 #[.int .i32 r, .int .i32 lo, .int .i32 hi] w fun e w' => e = .returned (.bool (decide (lo ≤ r) && decide (r ≤ hi))) ∧ w' = w := by
  by_cases h1 : lo ≤ r
  · go_enter Tryz.func167, Tryz.ntmps167
    go_wp2
    go_ret
    exact ⟨by simp [h1], rfl⟩
  · go_enter Tryz.func167, Tryz.ntmps167
    go_wp2
    go_ret
    exact ⟨by have h2 : ¬ lo ≤ r := by omega
              simp [h2], rfl⟩
def btw (r lo hi : Int) : Bool := decide (lo ≤ r) && decide (r ≤ hi)
/-- is a rune a letter? -/
def letF (r : Int) : Bool := if Lib.validRune r = false ∨ r = 215 ∨ r = 247 ∨ btw r 8192 8303 = true then false else decide (192 ≤ r) || btw r 65 90 || btw r 97 122
theorem btw_c (r lo hi : Int) (w : World) : Calls Tryz.prog 167 #[.int .i32 r, .int .i32 lo, .int .i32 hi] w fun e w' => e = .returned (.bool (btw r lo hi)) ∧ w' = w := between_c r lo hi w
set_option maxRecDepth 100000 in
set_option maxHeartbeats 4000000 in
theorem letter_c (r : Int) (w : World) : Calls Tryz.prog 116 #[.int .i32 r] w fun e w' => e = .returned (.bool (letF r)) ∧ w' = w := by
  have hv := fun W => Tryz.utf8_ValidRune r W
  obtain ⟨vb, hvb⟩ : ∃ b, Lib.validRune r = b := ⟨_, rfl⟩
  have HE : Hid (letF r = if vb = false ∨ r = 215 ∨ r = 247 ∨ btw r 8192 8303 = true then false else decide (192 ≤ r) || btw r 65 90 || btw r 97 122) := hid (by rw [letF, hvb])
  rw [hvb] at hv
  have HV := hid hv
  clear hv hvb
  cases vb
  · have HE2 : Hid (letF r = false) := hid (by rw [HE.out]; simp)
    go_enter Tryz.func116, Tryz.ntmps116
    go_wp2_with (go_at_call 166; refine (HV.out _).mono ?_; rintro e w1 ⟨rfl, rfl⟩)
    go_ret
    exact ⟨by rw [HE2.out]; rfl, rfl⟩
  · by_cases h1 : r = 215
    · have HE2 : Hid (letF r = false) := hid (by rw [HE.out]; simp [h1])
      subst h1
      go_enter Tryz.func116, Tryz.ntmps116
      go_wp2_with (go_at_call 166; refine (HV.out _).mono ?_; rintro e w1 ⟨rfl, rfl⟩)
      go_ret
      exact ⟨by rw [HE2.out]; rfl, rfl⟩
    · by_cases h2 : r = 247
      · have HE2 : Hid (letF r = false) := hid (by rw [HE.out]; simp [h2])
        subst h2
        go_enter Tryz.func116, Tryz.ntmps116
        go_wp2_with (go_at_call 166; refine (HV.out _).mono ?_; rintro e w1 ⟨rfl, rfl⟩)
        go_ret
        exact ⟨by rw [HE2.out]; rfl, rfl⟩
      · have e1 : (r == 215) = false := by rw [beq_eq_false_iff_ne]; exact h1
        have e2 : (r == 247) = false := by rw [beq_eq_false_iff_ne]; exact h2
        cases hb1 : btw r 8192 8303
        · have HE2 : Hid (letF r = (decide (192 ≤ r) || btw r 65 90 || btw r 97 122)) := hid (by rw [HE.out]; simp [h1, h2, hb1])
          clear HE
          by_cases h3 : 192 ≤ r
          · have HE3 : Hid (letF r = true) := hid (by rw [HE2.out]; simp [h3])
            clear HE2
            go_enter Tryz.func116, Tryz.ntmps116
            go_wp2_with (first
              | (go_at_call 166; refine (HV.out _).mono ?_; rintro e w1 ⟨rfl, rfl⟩)
              | (go_at_call 167; refine (btw_c _ _ _ _).mono ?_; rintro e w1 ⟨rfl, rfl⟩; simp only [hb1]))
            go_ret
            exact ⟨by rw [HE3.out]; rfl, rfl⟩
          · cases hb2 : btw r 65 90
            · cases hb3 : btw r 97 122
              · have HE3 : Hid (letF r = false) := hid (by rw [HE2.out]; simp [h3, hb2, hb3])
                clear HE2
                go_enter Tryz.func116, Tryz.ntmps116
                go_wp2_with (first
                  | (go_at_call 166; refine (HV.out _).mono ?_; rintro e w1 ⟨rfl, rfl⟩)
                  | (go_at_call 167; refine (btw_c _ _ _ _).mono ?_; rintro e w1 ⟨rfl, rfl⟩; simp only [hb1, hb2, hb3]))
                go_ret
                exact ⟨by have h9 : ¬ 192 ≤ r := by omega
                          rw [HE3.out]; simp [h9], rfl⟩
              · have HE3 : Hid (letF r = true) := hid (by rw [HE2.out]; simp [h3, hb2, hb3])
                clear HE2
                go_enter Tryz.func116, Tryz.ntmps116
                go_wp2_with (first
                  | (go_at_call 166; refine (HV.out _).mono ?_; rintro e w1 ⟨rfl, rfl⟩)
                  | (go_at_call 167; refine (btw_c _ _ _ _).mono ?_; rintro e w1 ⟨rfl, rfl⟩; simp only [hb1, hb2, hb3]))
                go_ret
                exact ⟨by rw [HE3.out]; rfl, rfl⟩
            · have HE3 : Hid (letF r = true) := hid (by rw [HE2.out]; simp [h3, hb2])
              clear HE2
              go_enter Tryz.func116, Tryz.ntmps116
              go_wp2_with (first
                | (go_at_call 166; refine (HV.out _).mono ?_; rintro e w1 ⟨rfl, rfl⟩)
                | (go_at_call 167; refine (btw_c _ _ _ _).mono ?_; rintro e w1 ⟨rfl, rfl⟩; simp only [hb1, hb2]))
              go_ret
              exact ⟨by rw [HE3.out]; rfl, rfl⟩
        · have HE2 : Hid (letF r = false) := hid (by rw [HE.out]; simp [hb1])
          go_enter Tryz.func116, Tryz.ntmps116
          go_wp2_with (first
            | (go_at_call 166; refine (HV.out _).mono ?_; rintro e w1 ⟨rfl, rfl⟩)
            | (go_at_call 167; refine (btw_c _ _ _ _).mono ?_; rintro e w1 ⟨rfl, rfl⟩; simp only [hb1]))
          go_ret
          exact ⟨by rw [HE2.out]; rfl, rfl⟩
/- text.row. -/
/-- how far a row of letters, or of others, goes -/
def rowG (s : ByteArray) (l : Bool) : Nat → Nat → Int → Int
  | 0, _, n => n
  | f + 1, p, n => if p < s.size then (if letF (Utf8.decode s p).1 = l then rowG s l f (p + (Utf8.decode s p).2) (p + Lib.runeLen (Utf8.decode s p).1) else n) else n
def rowF (s : ByteArray) (l : Bool) : Int := rowG s l s.size 0 0
theorem width_pos (s : ByteArray) (pos : Nat) (h : pos < s.size) : 1 ≤ (Utf8.decode s pos).2 := by
  unfold Utf8.decode
  dsimp only
  split
  · exact Nat.le_refl _
  · split
    · split <;> dsimp only <;> omega
    · split
      · split <;> dsimp only <;> omega
      · split
        · split <;> dsimp only <;> omega
        · exact Nat.le_refl _
theorem iterPos_of {w : World} {k : Nat} {s : ByteArray} {p : Nat} (h : w.heap[k]? = some (.stringIter s p)) : w.iterPos k = p := by simp [World.iterPos, h]
set_option maxRecDepth 100000 in
set_option maxHeartbeats 4000000 in
theorem row_c (s : ByteArray) (l : Bool) (hs : s.size ≤ 1048576) (w : World) : Calls Tryz.prog 75 #[.string s, .bool l] w fun e w' => e = .returned (.int .i64 (rowF s l)) ∧ Below w.heap.size w w' := by
  have hlet := fun r W => letter_c r W
  have hlen := fun r W => Tryz.utf8_RuneLen r W
  refine (callsIn_wide (n := 6)).1 ?_
  refine callsIn_of_wp Tryz.func75 rfl trivial ?_ rfl
  simp only [Tryz.ntmps75, List.size_toArray, List.length_cons, List.length_nil, Nat.reduceAdd, Nat.reduceSub, Array.replicate_succ, Array.replicate_zero, List.push_toArray, List.append_toArray, List.nil_append, List.cons_append]
  gi_wp2
  refine wpIn_scope_straight ?_
  gi_wp2
  refine wpIn_label ?_
  gi_wp2
  have hit0 := World.iter_heap w s 0
  have hb0 : Below w.heap.size w (w.iter s 0) := balloc (Below.refl _ w) _
  gi_loopw [4] (fun nv wr => ∃ (pos fuel : Nat) (n : Int), wr.heap[w.heap.size]? = some (.stringIter s pos) ∧ nv = .int .i64 n ∧ Below w.heap.size w wr ∧ Hid (rowF s l = rowG s l fuel pos n) ∧ s.size ≤ pos + fuel ∧ -1 ≤ n ∧ n ≤ pos + 4) (fun _ wr => s.size - wr.iterPos w.heap.size)
  case atStart => exact ⟨0, s.size, 0, hit0, rfl, hb0, hid rfl, by omega, by omega, by omega⟩
  case round =>
    obtain ⟨pos, fuel, n, hit, rfl, hb, HE, hf, hn0, hn1⟩ := hrel
    have hpos0 := iterPos_of hit
    by_cases hp : pos < s.size
    · have hnx : ∀ ty, (Instr.next (.pointer (some ⟨w.heap.size, 0, none⟩)) true ty).run Tryz.prog wr = _ := fun ty => Lib.run_next_any_at wr w.heap.size s pos ty hit hp
      have hwd := width_pos s pos hp
      obtain ⟨fuel, rfl⟩ : ∃ f', fuel = f' + 1 := ⟨fuel - 1, by omega⟩
      have hit2 := Lib.iterAt_heap wr w.heap.size s pos (pos + (Utf8.decode s pos).2) hit
      have hb2 := Lib.below_iterAt hb (k := w.heap.size) (Nat.le_refl _) s (pos + (Utf8.decode s pos).2)
      have hE2 : rowF s l = if letF (Utf8.decode s pos).1 = l then rowG s l fuel (pos + (Utf8.decode s pos).2) (pos + Lib.runeLen (Utf8.decode s pos).1) else n := by rw [HE.out, rowG, if_pos hp]
      obtain ⟨W1, hW1⟩ : ∃ W1, W1 = wr.iterAt w.heap.size s (pos + (Utf8.decode s pos).2) := ⟨_, rfl⟩
      rw [← hW1] at hnx hit2 hb2
      obtain ⟨dw, hdw⟩ : ∃ dw, (Utf8.decode s pos).2 = dw := ⟨_, rfl⟩
      obtain ⟨r, hr⟩ : ∃ r, (((Utf8.decode s pos).1 : Nat) : Int) = r := ⟨_, rfl⟩
      obtain ⟨rl, hrl⟩ : ∃ rl, Lib.runeLen r = rl := ⟨_, rfl⟩
      have hrl2 : -1 ≤ rl ∧ rl ≤ 4 := by
        rw [← hrl]
        unfold Lib.runeLen
        repeat (first | split | omega)
      have hle := hlet r
      have hln := hlen r
      rw [hr, hrl, hdw] at hE2
      rw [hdw] at hit2 hwd
      rw [hrl] at hln
      simp only [hr] at hnx
      obtain ⟨b, hbl⟩ : ∃ b, letF r = b := ⟨_, rfl⟩
      rw [hbl] at hle hE2
      have HLE := hid hle
      have HLN := hid hln
      have HE2 := hid hE2
      have hw1 : IntKind.i64.wrap ((pos : Int) + rl) = (pos : Int) + rl := by rw [IntKind.wrap_i64]; omega
      clear hle hln hE2 hlet hlen hbl hrl hr hdw hW1 HE hit hb
      cases b <;> cases l
      case false.false =>
        have HE3 : Hid (rowF s false = rowG s false fuel (pos + dw) (pos + rl)) := hid (by rw [HE2.out]; simp)
        gi_wp2_with (first
          | (refine ⟨trivial, ?_⟩; gi_at_call 116; refine (callsIn_wide.2 (HLE.out _)).mono ?_; rintro e w1 ⟨rfl, rfl⟩)
          | (refine ⟨trivial, ?_⟩; gi_at_call 117; refine (callsIn_wide.2 (HLN.out _)).mono ?_; rintro e w1 ⟨rfl, rfl⟩))
        exact ⟨⟨pos + dw, fuel, pos + rl, hit2, rfl, hb2, HE3, by omega, by omega, by omega⟩, by rw [iterPos_of hit2, hpos0]; omega⟩
      case true.true =>
        have HE3 : Hid (rowF s true = rowG s true fuel (pos + dw) (pos + rl)) := hid (by rw [HE2.out]; simp)
        gi_wp2_with (first
          | (refine ⟨trivial, ?_⟩; gi_at_call 116; refine (callsIn_wide.2 (HLE.out _)).mono ?_; rintro e w1 ⟨rfl, rfl⟩)
          | (refine ⟨trivial, ?_⟩; gi_at_call 117; refine (callsIn_wide.2 (HLN.out _)).mono ?_; rintro e w1 ⟨rfl, rfl⟩))
        exact ⟨⟨pos + dw, fuel, pos + rl, hit2, rfl, hb2, HE3, by omega, by omega, by omega⟩, by rw [iterPos_of hit2, hpos0]; omega⟩
      case false.true =>
        have HE3 : Hid (rowF s true = n) := hid (by rw [HE2.out]; simp)
        gi_wp2_with (refine ⟨trivial, ?_⟩; gi_at_call 116; refine (callsIn_wide.2 (HLE.out _)).mono ?_; rintro e w1 ⟨rfl, rfl⟩)
        simp only [Exit.noGoto]
        go_ret
        exact ⟨by rw [HE3.out]; rfl, hb2⟩
      case true.false =>
        have HE3 : Hid (rowF s false = n) := hid (by rw [HE2.out]; simp)
        gi_wp2_with (refine ⟨trivial, ?_⟩; gi_at_call 116; refine (callsIn_wide.2 (HLE.out _)).mono ?_; rintro e w1 ⟨rfl, rfl⟩)
        simp only [Exit.noGoto]
        go_ret
        exact ⟨by rw [HE3.out]; rfl, hb2⟩
    · have hnx : ∀ ty, (Instr.next (.pointer (some ⟨w.heap.size, 0, none⟩)) true ty).run Tryz.prog wr = _ := fun ty => Lib.run_next_end_at wr w.heap.size s pos ty hit hp
      have HE3 : Hid (rowF s l = n) := hid (by rw [HE.out]; cases fuel <;> simp [rowG, hp])
      gi_wp2
      simp only [Exit.noGoto]
      go_ret
      exact ⟨by rw [HE3.out]; rfl, hb⟩
end Go.Proofs.YteigplfldhdakaaGreatDoor
/- text, plain: rows of valid texts. -/
namespace Go.Proofs.YteigplfldhdakaaGreatDoor
open Go.Lib
/-- how many bytes a row of letters, or of others, takes -/
def runB (l : Bool) : Nat → List UInt8 → Nat
  | 0, _ => 0
  | f + 1, L => if L = [] then 0 else if letF (decodeL L).1 = l then (decodeL L).2 + runB l f (L.drop (decodeL L).2) else 0
theorem runB_le (l : Bool) : ∀ (f : Nat) (L : List UInt8), runB l f L ≤ L.length
  | 0, L => Nat.zero_le _
  | f + 1, L => by
    unfold runB
    split
    · exact Nat.zero_le _
    · next h =>
      split
      · have h1 := runB_le l f (L.drop (decodeL L).2)
        have h2 := decodeL_le L h
        rw [List.length_drop] at h1
        omega
      · exact Nat.zero_le _
/-- of a lawful rune the length is its width -/
theorem width_eq {L : List UInt8} (hne : L ≠ []) (hv : validD L = true) : runeLen ((decodeL L).1 : Int) = ((decodeL L).2 : Int) := by
  by_cases h : (decodeL L).1 = 65533
  · rw [validD_step L hne] at hv
    have h2 : (decodeL L).2 ≠ 1 := fun e => by rw [if_pos ⟨h, e⟩] at hv; cases hv
    rw [h]
    have h3 : (decodeL L).2 = 3 := by
      clear hv
      unfold decodeL at h h2 ⊢
      revert h h2
      unfold Utf8.decode
      dsimp only
      split
      · intro _ h; exact absurd rfl h
      · split
        · split
          · intro h _; dsimp only at h; omega
          · intro _ h; exact absurd rfl h
        · split
          · split
            · intro _ _; rfl
            · intro _ h; exact absurd rfl h
          · split
            · split
              · next hc =>
                intro h _
                dsimp only at h
                simp only [Bool.and_eq_true, decide_eq_true_eq] at hc
                omega
              · intro _ h; exact absurd rfl h
            · intro _ h; exact absurd rfl h
    rw [h3]
    rfl
  · exact runeLen_decode L h
theorem valid_drop {L : List UInt8} (hne : L ≠ []) (hv : validD L = true) : validD (L.drop (decodeL L).2) = true := by
  rw [validD_step L hne] at hv
  split at hv
  · cases hv
  · exact hv
theorem rowG_eq (s : ByteArray) (l : Bool) : ∀ (f pos : Nat), validD ((bys s).drop pos) = true → s.size ≤ pos + f → rowG s l f pos pos = ((pos + runB l f ((bys s).drop pos) : Nat) : Int)
  | 0, pos, _, hf => by simp [rowG, runB]
  | f + 1, pos, hv, hf => by
    unfold rowG runB
    have hlen : ((bys s).drop pos).length = s.size - pos := by rw [List.length_drop, bys_size]
    have hd : decodeL ((bys s).drop pos) = Utf8.decode s pos := decodeL_drop s pos
    by_cases hp : pos < s.size
    · have hne : (bys s).drop pos ≠ [] := fun e => by rw [e] at hlen; simp at hlen; omega
      rw [if_pos hp, if_neg hne, hd]
      have hw := width_eq hne hv
      have hvd := valid_drop hne hv
      rw [hd] at hw hvd
      by_cases hl : letF (Utf8.decode s pos).1 = l
      · rw [if_pos hl, if_pos hl, hw]
        have hle := width_pos s pos hp
        rw [List.drop_drop] at hvd ⊢
        have := rowG_eq s l f (pos + (Utf8.decode s pos).2) hvd (by omega)
        rw [show ((pos : Int) + ((Utf8.decode s pos).2 : Int)) = ((pos + (Utf8.decode s pos).2 : Nat) : Int) by omega, this, Nat.add_assoc]
      · rw [if_neg hl, if_neg hl]; simp
    · have he : (bys s).drop pos = [] := List.eq_nil_of_length_eq_zero (by rw [hlen]; omega)
      rw [if_neg hp, if_pos he]; simp
theorem rowF_eq (s : ByteArray) (l : Bool) (hv : validD (bys s) = true) : rowF s l = ((runB l s.size (bys s) : Nat) : Int) := by
  obtain ⟨f, hf⟩ : ∃ f, s.size = f := ⟨_, rfl⟩
  unfold rowF
  rw [hf]
  have h := rowG_eq s l f 0 (by rw [List.drop_zero]; exact hv) (by omega)
  rw [List.drop_zero, Nat.zero_add] at h
  exact h
end Go.Proofs.YteigplfldhdakaaGreatDoor
/- What is taken by contract: seven functions, said of runs that are reckoned. -/
namespace Go.Proofs.YteigplfldhdakaaGreatDoor.Ev
open Go Go.RowKit Go.Proofs.YteigplfldhdakaaGreatDoor Go.Shelf
section
variable {w0 w w' : World} {γ : Pl} {s : AS}
/-- a call that leaves all blocks as they were -/
theorem Done.below {v : AV} {u : Value} (h : HR γ s w) (hb : Below w.heap.size w w') (hv : RA γ v u) : Done γ s w v s u w' := by
  refine ⟨γ, ⟨fun b o ho => OR.mono (Sub.refl _) (fun B d S hg => hb.block B ?_) (h.obj b o ho), h.nod, h.inj, h.nxt⟩, ⟨Sub.refl _, hb.size, fun k hk _ => hb.block k hk, fun k hk => .inl hk, ⟨hb.os, hb.tape, hb.output⟩, fun k x hx => .inl hx, Nat.le_refl _⟩, hv⟩
  obtain ⟨B', d', S', h1, h2⟩ := OR.at_ (h.obj b o ho)
  rw [hg] at h1
  cases h1
  exact h2
theorem Inv.tab (hi : Inv w0 γ s w) (hT : Tab w0) : Tab w := hT.bel hi.bel
end
theorem args1 {γ : Pl} {x : AV} {us : List Value} (h : All2 (RA γ) [x] us) : ∃ u, us = [u] ∧ RA γ x u := by
  match us, h with
  | [u], h => exact ⟨u, rfl, h.1⟩
  | [], h => exact h.elim
  | _ :: _ :: _, h => exact h.2.elim
theorem args2 {γ : Pl} {x y : AV} {us : List Value} (h : All2 (RA γ) [x, y] us) : ∃ u v, us = [u, v] ∧ RA γ x u ∧ RA γ y v := by
  match us, h with
  | [u, v], h => exact ⟨u, v, rfl, h.1, h.2.1⟩
  | [], h => exact h.elim
  | [_], h => exact h.2.elim
  | _ :: _ :: _ :: _, h => exact h.2.2.elim
theorem args3 {γ : Pl} {x y z : AV} {us : List Value} (h : All2 (RA γ) [x, y, z] us) : ∃ u v t, us = [u, v, t] ∧ RA γ x u ∧ RA γ y v ∧ RA γ z t := by
  match us, h with
  | [u, v, t], h => exact ⟨u, v, t, rfl, h.1, h.2.1, h.2.2.1⟩
  | [], h => exact h.elim
  | [_], h => exact h.2.elim
  | [_, _], h => exact h.2.2.elim
  | _ :: _ :: _ :: _ :: _, h => exact h.2.2.2.elim
/-- logcost.Cost at (1, 1, 1) -/
def o26 : OrcF := fun f args s => if f = 26 ∧ args = [.sc (.f (.int .i64 1)), .sc (.f (.int .i64 1)), .sc (.f (.int .i64 1))] then some (.tu [(false, [.f (.int .i64 1)]), (false, [.f (.int .i64 0)])], s) else none
theorem cost_one : Lc.costV 1 1 1 = 1 ∧ Lc.costE 1 1 1 = 0 := by
  have hn : ¬ Lc.NoCost 1 1 1 := by decide
  have hr := Lc.ratio_lit 2 2 0 (by decide +kernel) (by decide) (by decide +kernel) (by decide +kernel)
  rw [Lc.costV_yes hn, Lc.costE_yes hn]
  show min (max (Lc.ratioK 2 2) 1) 255 = 1 ∧ Lc.ratioE 2 2 = 0
  rw [hr.1, hr.2]
  decide
theorem tup2_rel {γ : Pl} {x y : FV} : RA γ (.tu [(false, [.f x]), (false, [.f y])]) (.tuple #[x.val, y.val]) := ⟨[x.val, y.val], rfl, ⟨_, rfl, rfl⟩, ⟨_, rfl, rfl⟩, trivial⟩
theorem o26_ok (w0 : World) : Orc Tryz.prog w0 o26 := ⟨fun f args s r γ w us hi hu h => by
  unfold o26 at h
  split at h
  · rename_i hc
    obtain ⟨rfl, rfl⟩ := hc
    cases h
    obtain ⟨u, v, t, rfl, rfl, rfl, rfl⟩ := args3 hu
    refine (Lc.cost_any 1 1 1 w).mono fun e w' ⟨h1, h2⟩ => ?_
    rw [cost_one.1, cost_one.2] at h1
    exact ⟨_, h1, Done.below hi.hr h2 tup2_rel⟩
  · cases h⟩
def ascii (l : List UInt8) : Bool := l.all fun c => decide (c.toNat < 128)
theorem ascii_at {l : List UInt8} (h : ascii l = true) {c : UInt8} (hc : c ∈ l) : c.toNat < 128 := by
  have := List.all_eq_true.1 h c hc
  simpa using this
/-- utf8.DecodeRuneInString -/
def o199 : OrcF := fun f args s => if f = 199 then match args with
  | [.sc (.f (.str []))] => some (.tu [(false, [.f (.int .i32 65533)]), (false, [.f (.int .i64 0)])], s)
  | [.sc (.f (.str (c :: r)))] => if c.toNat < 128 then some (.tu [(false, [.f (.int .i32 c.toNat)]), (false, [.f (.int .i64 1)])], s) else none
  | _ => none
  else none
theorem o199_ok {w0 : World} (hT : Tab w0) : Orc Tryz.prog w0 o199 := ⟨fun f args s r γ w us hi hu h => by
  unfold o199 at h
  split at h
  · rename_i hf
    subst hf
    split at h
    · cases h
      obtain ⟨u, rfl, rfl⟩ := args1 hu
      exact (Tryz.utf8_DecodeRuneInString _ w (hi.tab hT)).mono fun e w' ⟨h1, h2⟩ => ⟨_, h1, Done.below hi.hr h2 (tup2_rel (x := .int .i32 65533) (y := .int .i64 0))⟩
    · rename_i c r0
      split at h
      · rename_i hc
        cases h
        obtain ⟨u, rfl, rfl⟩ := args1 hu
        refine (Tryz.utf8_DecodeRuneInString _ w (hi.tab hT)).mono fun e w' ⟨h1, h2⟩ => ⟨_, h1, Done.below hi.hr h2 ?_⟩
        have hd : Lib.decodeGo ⟨⟨c :: r0⟩⟩ = (c.toNat, 1) := by
          unfold Lib.decodeGo
          rw [if_neg (show ¬ ((⟨⟨c :: r0⟩⟩ : ByteArray).size = 0) from Nat.succ_ne_zero _)]
          exact decode_ascii ⟨⟨c :: r0⟩⟩ 0 (Nat.succ_pos _) hc
        rw [hd]
        exact tup2_rel (x := .int .i32 c.toNat) (y := .int .i64 1)
      · cases h
    · cases h
  · cases h⟩
/-- utf8.ValidString -/
def o74 : OrcF := fun f args s => if f = 74 then match args with
  | [.sc (.f (.str l))] => if ascii l = true ∧ l.length ≤ 1000 then some (.sc (.f (.bool true)), s) else none
  | _ => none
  else none
theorem o74_ok {w0 : World} (hT : Tab w0) : Orc Tryz.prog w0 o74 := ⟨fun f args s r γ w us hi hu h => by
  unfold o74 at h
  split at h
  · rename_i hf
    subst hf
    split at h
    · rename_i l
      split at h
      · rename_i hc
        cases h
        obtain ⟨u, rfl, rfl⟩ := args1 hu
        have hs : (⟨⟨l⟩⟩ : ByteArray).size = l.length := rfl
        refine (valid_c ⟨⟨l⟩⟩ (by omega) w (hi.tab hT)).mono fun e w' ⟨h1, h2⟩ => ⟨_, h1, Done.below hi.hr h2 ?_⟩
        have hv : Lib.validD (bys ⟨⟨l⟩⟩) = true := by
          rw [show bys ⟨⟨l⟩⟩ = l from rfl, Lib.validD_ascii l.length l fun b hb => ascii_at hc.1 (List.mem_of_mem_take hb), List.drop_length]
          rfl
        rw [hv]
        rfl
      · cases h
    · cases h
  · cases h⟩
/-- utf8.RuneCountInString -/
def o23 : OrcF := fun f args s => if f = 23 then match args with
  | [.sc (.f (.str l))] => if ascii l = true ∧ l.length ≤ 1000 then some (.sc (.f (.int .i64 l.length)), s) else none
  | _ => none
  else none
theorem o23_ok (w0 : World) : Orc Tryz.prog w0 o23 := ⟨fun f args s r γ w us hi hu h => by
  unfold o23 at h
  split at h
  · rename_i hf
    subst hf
    split at h
    · rename_i l
      split at h
      · rename_i hc
        cases h
        obtain ⟨u, rfl, rfl⟩ := args1 hu
        have hs : (⟨⟨l⟩⟩ : ByteArray).size = l.length := rfl
        refine (rcnt_c ⟨⟨l⟩⟩ (by omega) w).mono fun e w' ⟨h1, h2⟩ => ⟨_, h1, Done.below hi.hr h2 ?_⟩
        have hv : Lib.runeCount ⟨⟨l⟩⟩ = l.length := by
          rw [Lib.runeCount_ascii ⟨⟨l⟩⟩ fun j h => ascii_at hc.1 (List.getElem_mem _)]
          rfl
        rw [hv]
        rfl
      · cases h
    · cases h
  · cases h⟩
/-- text.row -/
def rowL (b : Bool) : List UInt8 → Nat
  | [] => 0
  | c :: r => if letF c.toNat = b then rowL b r + 1 else 0
theorem rowL_ok {b : Bool} : ∀ (r pre l : List UInt8), l = pre ++ r → ascii l = true → rowG ⟨⟨l⟩⟩ b r.length pre.length pre.length = ((pre.length + rowL b r : Nat) : Int)
  | [], pre, l, _, _ => by simp [rowG, rowL]
  | c :: r, pre, l, he, ha => by
    have hlt : pre.length < (⟨⟨l⟩⟩ : ByteArray).size := by
      show pre.length < l.length
      rw [he]
      simp
    have hl : l[pre.length]'hlt = c := by
      subst he
      simp
    have hg : ((⟨⟨l⟩⟩ : ByteArray)[pre.length]'hlt) = c := hl
    have hcm : c ∈ l := by rw [he]; simp
    have hd := decode_ascii ⟨⟨l⟩⟩ pre.length hlt (by rw [hg]; exact ascii_at ha hcm)
    rw [hg] at hd
    have hc := ascii_at ha hcm
    have hrl : Lib.runeLen (c.toNat : Int) = 1 := by
      unfold Lib.runeLen
      rw [if_neg (by omega), if_pos (by omega)]
    rw [List.length_cons, rowG, if_pos hlt, hd, rowL]
    dsimp only
    by_cases hq : letF (c.toNat : Int) = b
    · rw [if_pos hq, if_pos hq, hrl]
      have := rowL_ok (b := b) r (pre ++ [c]) l (by rw [he]; simp) ha
      rw [List.length_append, List.length_singleton] at this
      rw [show ((pre.length : Int) + 1) = ((pre.length + 1 : Nat) : Int) by omega, this]
      omega
    · rw [if_neg hq, if_neg hq]
      simp
def o75 : OrcF := fun f args s => if f = 75 then match args with
  | [.sc (.f (.str l)), .sc (.f (.bool b))] => if ascii l = true ∧ l.length ≤ 1000 then some (.sc (.f (.int .i64 (rowL b l))), s) else none
  | _ => none
  else none
theorem o75_ok (w0 : World) : Orc Tryz.prog w0 o75 := ⟨fun f args s r γ w us hi hu h => by
  unfold o75 at h
  split at h
  · rename_i hf
    subst hf
    split at h
    · rename_i l b
      split at h
      · rename_i hc
        cases h
        obtain ⟨u, v, rfl, rfl, rfl⟩ := args2 hu
        have hs : (⟨⟨l⟩⟩ : ByteArray).size = l.length := rfl
        refine (row_c ⟨⟨l⟩⟩ b (by omega) w).mono fun e w' ⟨h1, h2⟩ => ⟨_, h1, Done.below hi.hr h2 ?_⟩
        have hv : rowF ⟨⟨l⟩⟩ b = ((rowL b l : Nat) : Int) := by
          have := rowL_ok (b := b) l [] l rfl hc.1
          rw [List.length_nil, Nat.zero_add] at this
          exact this
        rw [hv]
        rfl
      · cases h
    · cases h
  · cases h⟩
end Go.Proofs.YteigplfldhdakaaGreatDoor.Ev
/- strings.Builder's copyCheck and String, said of runs that are reckoned; all that is taken by contract. -/
namespace Go.Proofs.YteigplfldhdakaaGreatDoor.Ev
open Go Go.RowKit Go.Proofs.YteigplfldhdakaaGreatDoor Go.Shelf
/-- a block is lost: nothing more is known of it -/
theorem HR.lose {γ : Pl} {s : AS} {w w' : World} {b B d S : Nat} (h : HR γ s w) (hm : b ∈ s.H.map (·.1)) (hb : γ b = some (B, d, S)) (hsz : w'.heap.size = w.heap.size) (hk : ∀ k, k ≠ B → w'.heap[k]? = w.heap[k]?) (hsm : w'.os = w.os ∧ w'.tape = w.tape ∧ w'.output = w.output) :
    HR γ ⟨ers s.H b, s.nx⟩ w' ∧ Fr γ s w γ ⟨ers s.H b, s.nx⟩ w' := by
  have h1 := h.forget b
  have hnot := ers_not (b := b) h.nod
  have hsub : ∀ k, k ∈ (ers s.H b).map (·.1) → k ∈ s.H.map (·.1) := fun k hk => by
    obtain ⟨x, hx, rfl⟩ := List.mem_map.1 hk
    exact List.mem_map.2 ⟨x, ers_mem hx, rfl⟩
  refine ⟨⟨fun k o ho => OR.mono (Sub.refl _) (fun B1 d1 S1 hg => hk B1 ?_) (h1.obj k o ho), h1.nod, h1.inj, h1.nxt⟩, ⟨Sub.refl _, by omega, fun k hk1 hk2 => hk k fun e => hk2 ⟨b, d, S, hm, by rw [hb, e]⟩, fun k ⟨q, e1, e2, q1, q2⟩ => .inl ⟨q, e1, e2, hsub _ q1, q2⟩, hsm, fun _ _ hx => .inl hx, Nat.le_refl _⟩⟩
  have hkm : k ∈ (ers s.H b).map (·.1) := List.mem_map.2 ⟨_, ho, rfl⟩
  exact h.inj k b _ _ (hsub k hkm) hm (fun e => hnot (e ▸ hkm)) hg hb
theorem freeze_other (w : World) (p : Addr) (n k : Nat) (h : k ≠ p.block) : (w.freeze p n).heap[k]? = w.heap[k]? := by
  unfold World.freeze
  split
  · rfl
  · simp only [Array.getElem?_modify]
    rw [if_neg (fun e => h e.symm)]
theorem freeze_size (w : World) (p : Addr) (n : Nat) : (w.freeze p n).heap.size = w.heap.size := by
  unfold World.freeze
  split <;> simp
theorem freeze_same (w : World) (p : Addr) (n : Nat) : (w.freeze p n).os = w.os ∧ (w.freeze p n).tape = w.tape ∧ (w.freeze p n).output = w.output := by
  unfold World.freeze
  split <;> exact ⟨rfl, rfl, rfl⟩
/-- copyCheck -/
def o80 : OrcF := fun f args s => if f = 80 then match args with
  | [.sc (.pt b 0)] => match fnd s.H b with
    | some (.cells ty [p, x]) => if ty = 121 ∧ p = .f .nilp then some (.tu [], ⟨(b, .cells ty [.pt b 0, x]) :: ers s.H b, s.nx⟩) else if ty = 121 ∧ p = .pt b 0 then some (.tu [], s) else none
    | _ => none
  | _ => none
  else none
theorem o80_ok (w0 : World) : Orc Tryz.prog w0 o80 := ⟨fun f args s r γ w us hi hu h => by
  unfold o80 at h
  split at h
  · rename_i hf
    subst hf
    split at h
    · rename_i b
      split at h
      · rename_i ty p x hfd
        obtain ⟨u, rfl, hub⟩ := args1 hu
        obtain ⟨B, d, S, hg, rfl⟩ := hub
        obtain ⟨B', d', S', C, g1, g2, g3, g4, g5⟩ := hi.hr.obj _ _ (fnd_mem hfd)
        rw [hg] at g1
        cases g1
        split at h
        · rename_i hc
          obtain ⟨rfl, rfl⟩ := hc
          cases h
          obtain ⟨rfl, hS⟩ := g4.2 rfl
          obtain ⟨u0, q1, q2⟩ := g5 0 _ rfl
          have q2 : u0 = .pointer none := q2
          subst q2
          have hS2 : C.size = 2 := by rw [g3, hS]; rfl
          have hrow := row_done (xs := [.pt b 0]) (vs := [Value.pointer (some ⟨B, 0, none⟩)]) (o := 0) hi.hr hfd hg (by simp) ⟨⟨B, 0, S, hg, rfl⟩, trivial⟩
          obtain ⟨C', r1, r2, r3, r4, r5⟩ := hrow
          rw [g2] at r1
          cases r1
          refine (check_fresh B w (by simp only [World.cell?, g2]; simpa using q1) (by simp only [World.shape?, g2, hS2]) (by simp [World.frozen?, g2])).mono fun e w' ⟨h1, h2⟩ => ⟨_, h1, ?_⟩
          have hset : w' = w.setRow B (C.toList.take (0 + 0) ++ [Value.pointer (some ⟨B, 0, none⟩)] ++ C.toList.drop (0 + 0 + 1)).toArray := by
            rw [h2]
            exact setCells_row (vs := [Value.pointer (some ⟨B, 0, none⟩)]) (o := 0) g2 (by simp; omega) (fun v hv => by simp at hv; rw [hv]; rfl)
          rw [hset]
          exact ⟨γ, r4, r5, [], rfl, trivial⟩
        · split at h
          · rename_i hc
            obtain ⟨rfl, rfl⟩ := hc
            cases h
            obtain ⟨rfl, hS⟩ := g4.2 rfl
            obtain ⟨u0, q1, q2⟩ := g5 0 _ rfl
            obtain ⟨B2, d2, S2, q3, rfl⟩ := q2
            rw [hg] at q3
            cases q3
            refine (check_used B w (by simp only [World.cell?, g2]; simpa using q1)).mono fun e w' ⟨h1, h2⟩ => ⟨_, h1, ?_⟩
            subst h2
            exact Done.quiet hi.hr ⟨[], rfl, trivial⟩
          · cases h
      · cases h
    · cases h
  · cases h⟩
def u8s : List SV → Option (List UInt8)
  | [] => some []
  | .f (.int .u8 v) :: r => if 0 ≤ v ∧ v < 256 then (match u8s r with | some l => some (UInt8.ofNat v.toNat :: l) | none => none) else none
  | _ => none
theorem u8s_cons {x : SV} {r : List SV} {l : List UInt8} (h : u8s (x :: r) = some l) : ∃ c l', x = .f (.int .u8 (c : UInt8).toNat) ∧ u8s r = some l' ∧ l = c :: l' := by
  unfold u8s at h
  split at h
  · rename_i he; cases he
  · rename_i v r' he
    cases he
    split at h
    · rename_i hv
      split at h
      · rename_i l' hl
        cases h
        refine ⟨_, l', ?_, hl, rfl⟩
        congr 2
        have e : (UInt8.ofNat v.toNat).toNat = v.toNat := by
          rw [UInt8.toNat_ofNat']
          omega
        rw [e]
        omega
      · cases h
    · cases h
  · cases h
theorem u8s_len : ∀ {xs : List SV} {l : List UInt8}, u8s xs = some l → l.length = xs.length
  | [], _, h => by cases h; rfl
  | y :: r, _, h => by
    obtain ⟨c, l', rfl, h2, rfl⟩ := u8s_cons h
    simp [u8s_len h2]
theorem u8s_at : ∀ {xs : List SV} {l : List UInt8} {j : Nat} {x : UInt8}, u8s xs = some l → l[j]? = some x → xs[j]? = some (.f (.int .u8 x.toNat))
  | [], _, j, x, h, hx => by cases h; simp at hx
  | y :: r, _, j, x, h, hx => by
    obtain ⟨c, l', rfl, h2, rfl⟩ := u8s_cons h
    cases j with
    | zero =>
      have : c = x := by simpa using hx
      rw [this]
      rfl
    | succ j =>
      have := u8s_at (j := j) h2 (by simpa using hx)
      simpa using this
/-- String -/
def o46 : OrcF := fun f args s => if f = 46 then match args with
  | [.sc (.pt b 0)] => match fnd s.H b with
    | some (.cells ty [p, .sl g o n c z]) => match fnd s.H g with
      | some (.cells ty' L) => match u8s ((L.drop o).take n) with
        | some l => if ty = 121 ∧ ty' = 5 ∧ z = 1 ∧ 0 < n ∧ n ≤ 1000 ∧ o + n ≤ L.length then some (.sc (.f (.str l)), ⟨ers s.H g, s.nx⟩) else none
        | none => none
      | _ => none
    | _ => none
  | _ => none
  else none
theorem o46_ok (w0 : World) : Orc Tryz.prog w0 o46 := ⟨fun f args s r γ w us hi hu h => by
  unfold o46 at h
  split at h
  · rename_i hf
    subst hf
    split at h
    · rename_i b
      split at h
      · rename_i ty p g o n c z hfd
        split at h
        · rename_i ty' L hfg
          split at h
          · rename_i l hl
            split at h
            · rename_i hc
              obtain ⟨rfl, rfl, rfl, hn0, hn1, hol⟩ := hc
              cases h
              obtain ⟨u, rfl, hub⟩ := args1 hu
              obtain ⟨B, d, S, hg, rfl⟩ := hub
              obtain ⟨B', d', S', C, g1, g2, g3, g4, g5⟩ := hi.hr.obj _ _ (fnd_mem hfd)
              rw [hg] at g1
              cases g1
              obtain ⟨rfl, hS⟩ := g4.2 rfl
              obtain ⟨G, dg, SG, CG, k1, k2, k3, k4, k5⟩ := hi.hr.obj _ _ (fnd_mem hfg)
              obtain ⟨u1, q1, q2⟩ := g5 1 _ rfl
              obtain ⟨G', dg', SG', c', q3, rfl, q4, q5⟩ := q2
              rw [k1] at q3
              cases q3
              have hll : l.length = n := by
                rw [u8s_len hl, List.length_take, List.length_drop]
                omega
              have hl0 : l ≠ [] := fun e => by
                rw [e] at hll
                have : 0 = n := hll
                omega
              have hcell : ∀ j x, l[j]? = some x → w.cell? ((⟨G, dg + o, none⟩ : Addr).add j) = some (.int .u8 x.toNat) := fun j x hx => by
                have hlt : j < n := by
                  have := (List.getElem?_eq_some_iff.1 hx).1
                  omega
                have h1 := u8s_at hl hx
                rw [List.getElem?_take, if_pos hlt, List.getElem?_drop] at h1
                obtain ⟨u2, r1, r2⟩ := k5 _ _ h1
                have r2 : u2 = .int .u8 x.toNat := r2
                subst r2
                rw [Addr.add_mid]
                simp only [World.cell?, k2]
                rw [show dg + o + j = dg + (o + j) by omega]
                simpa using r1
              refine (string_of B G (dg + o) c' SG l w (by simp only [World.cell?, g2]; rw [hll]; simpa using q1) hl0 (by omega) (by simp only [World.shape?, k2, k3]) (by have := k4.1; omega) (by omega) hcell).mono fun e w' ⟨h1, h2⟩ => ⟨_, h1, ?_⟩
              subst h2
              obtain ⟨m1, m2⟩ := HR.lose (w' := w.drew.freeze ⟨G, dg + o, none⟩ l.length) hi.hr (List.mem_map.2 ⟨_, fnd_mem hfg, rfl⟩) k1 (freeze_size _ _ _) (fun k hk => freeze_other w.drew _ _ k hk) (freeze_same w.drew _ _)
              exact ⟨γ, m1, m2, rfl⟩
            · cases h
          · cases h
        · cases h
      · cases h
    · cases h
  · cases h⟩
def orcT : OrcF := orcOr o199 (orcOr o23 (orcOr o74 (orcOr o75 (orcOr o80 (orcOr o46 o26)))))
theorem orcT_ok {w0 : World} (hT : Tab w0) : Orc Tryz.prog w0 orcT :=
  (o199_ok hT).or ((o23_ok w0).or ((o74_ok hT).or ((o75_ok w0).or ((o80_ok w0).or ((o46_ok w0).or (o26_ok w0))))))
theorem nameT : Tryz.prog.funcs.all (fun fn => fn.name != "runtime.NumGoroutine") = true := by kernel_rfl
end Go.Proofs.YteigplfldhdakaaGreatDoor.Ev
