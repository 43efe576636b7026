/- What is proved: the law BucketActs of the given program answers true whatever its arguments are, and leaves them as they were. No condition beside the row's own. -/
import Derived.Test.YtmbpdboengaclaaRows
import Derived.WalkKit
import Derived.ProofKit
import Derived.OpenShut
import Derived.Below
import Derived.Carry
import Derived.Lib.SmallJoins
import Derived.Test.YtmbpdboengaclaaSlf
import Derived.Test.YtmbpdboengaclaaQacts
namespace Go.Proofs.Ytmbpdboengaclaa.bucketActs
open Go.ChangeShapes Go.WideShapes Go.ChangeAt Go.RowKit Go.Joins
open Go.ChangeMaps (open_string)
set_option linter.unusedVariables false
theorem own : ownKnob Try.prog.godebug = none := by kernel_rfl
theorem laidOut : laidOutB Try.prog = true := by kernel_rfl
set_option maxRecDepth 100000 in
theorem lifted (os : Os) (started : os.Started) (H : Type) (enc : TypeId × Value → H) :
    ReturnsInHanded {} Try.checked os 6 .any (Rows.bucketActsSpec.pre6 enc Try.prog Try.f6 Rows.bucketActsRow.domain false) (Rows.bucketActsSpec.post enc Try.prog Try.f6 false true false false) := by
  refine returnsInHanded_of_change (C := Try.checked) own started (by kernel_rfl) Try.func6
    (ChangeSpec.witness6 (enc := enc) (C := Try.checked) false ⟨#[], #[.int .i64 0, .slice none 0 0], []⟩ 8 (by kernel_rfl) (by kernel_rfl) (by kernel_rfl) (by kernel_rfl)) ?_
  intro W base args ds gs before hval0 hW hcnd _
  have hval : ∀ (j : Nat) t v, Try.f6.params[j]? = some t → args[j]? = some v → Value.okWide Try.prog W .any base t v := hval0
  have hW' := hW
  obtain ⟨p, q, hA0, hV, rfl, hfz, hnd⟩ := hW
  have hA : DataW.TrodAll enc Try.prog W 0 (fun _ => true) true Try.f6.params.toList args.toList ds p := hA0
  rw [Try.params6] at hA hval
  obtain ⟨v0, vs0, d0, ds0, p0, q0, hargs, rfl, rfl, h0, r0⟩ := trodAll_cons hA
  obtain ⟨v1, vs1, d1, ds1, p1, q1, rfl, rfl, rfl, h1, r1⟩ := trodAll_cons r0
  obtain ⟨rfl, rfl, rfl⟩ := trodAll_nil r1
  obtain rfl : args = #[v0, v1] := by cases args; simp_all
  obtain ⟨rfl, rfl⟩ := trodVars_none hV
  have k0 := h0
  have lt0 : ∀ x ∈ p0, x.block < W.heap.size := by obtain ⟨m, hm⟩ := k0; exact DataW.trod_lt m _ _ _ hm
  have k1 := h1
  have lt1 : ∀ x ∈ p1, x.block < W.heap.size := by obtain ⟨m, hm⟩ := k1; exact DataW.trod_lt m _ _ _ hm
  obtain ⟨a0, rfl, -, -, w0⟩ := open_int Try.underlying3 (hval 0 3 v0 rfl rfl) h0
  obtain ⟨a1, len1, cap1, rfl⟩ := okWide_slice Try.underlying39 (hval 1 39 v1 rfl rfl)
  obtain ⟨z1, w1⟩ : ∃ acts, IsActs W a1 len1 cap1 acts := by
    obtain ⟨fuel, hf⟩ := h1
    rcases open_slice_fields Try.underlying39 Try.underlying45 (by kernel_rfl) (by kernel_rfl) hf with ⟨hcs, _⟩ | ⟨x, l, c, m, D, Pl, hcs, _, hl, hm, hmm, _, hi⟩
    · simp [Value.cells] at hcs
      obtain ⟨rfl, rfl, rfl⟩ := hcs
      exact ⟨fun _ => (false, 0, 0), .inl ⟨rfl, rfl, rfl⟩⟩
    · simp [Value.cells] at hcs
      obtain ⟨rfl, rfl, rfl⟩ := hcs
      have hlm : len1 ≤ m := by rw [hmm]; split <;> omega
      have key : ∀ i, ∃ t : Bool × Int × Int, i < len1 → W.cell? (x.add (i * 3)) = some (.bool t.1) ∧ W.cell? ⟨(x.add (i * 3)).block, (x.add (i * 3)).off + 1, none⟩ = some (.int .i64 t.2.1) ∧ W.cell? ⟨(x.add (i * 3)).block, (x.add (i * 3)).off + 2, none⟩ = some (.int .i64 t.2.2) := fun i => by
        by_cases hil : i < len1
        · obtain ⟨ys, n, _, _, _, hg⟩ := hi i (by omega)
          obtain ⟨u0, y0, hc0, _, ht0⟩ := hg 0 _ rfl
          obtain ⟨u1, y1, hc1, _, ht1⟩ := hg 1 _ rfl
          obtain ⟨u2, y2, hc2, _, ht2⟩ := hg 2 _ rfl
          obtain ⟨b, hb, _⟩ := DataW.trod_bool Try.underlying4 ht0
          obtain ⟨c, hcc, _⟩ := DataW.trod_int Try.underlying3 ht1
          obtain ⟨v, hv, _⟩ := DataW.trod_int Try.underlying3 ht2
          obtain rfl := (List.cons.inj hb).1
          obtain rfl := (List.cons.inj hcc).1
          obtain rfl := (List.cons.inj hv).1
          exact ⟨(b, c, v), fun _ => ⟨hc0, by rw [← add_fld _ _ 1 (by omega)]; exact hc1, by rw [← add_fld _ _ 2 (by omega)]; exact hc2⟩⟩
        · exact ⟨(false, 0, 0), fun h => absurd h hil⟩
      obtain ⟨f, hf2⟩ := Classical.axiomOfChoice key
      exact ⟨f, .inr ⟨x, rfl, hl, hm, fun i hil => hf2 i hil⟩⟩
  clear hA0 hval0
  refine (acts_row a0 a1 len1 cap1 z1 W w0 w1).mono fun e W' ⟨he, bel⟩ => ?_
  subst he
  exact ⟨_, rfl, _, _, _, [], _, [], hW', trodAll_mk1 (shut_bool Try.underlying4 _), (trodAll_cons_mk (Below.trod laidOut (by kernel_rfl) (of_decide_eq_true (by kernel_rfl)) k0 bel lt0) (trodAll_cons_mk (Below.trod laidOut (by kernel_rfl) (of_decide_eq_true (by kernel_rfl)) k1 bel lt1) trodAll_mk0)), rfl, bel.frame _, fun h => by cases h⟩
theorem over : Rows.bucketActsRow.holds Try.pinned (OpenSpec.ofChange Rows.bucketActsSpec) :=
  OpenClaim.holds_of_wide 6 Try.f6 rfl rfl rfl rfl rfl rfl rfl ⟨rfl, rfl, rfl, rfl, rfl⟩ rfl rfl rfl rfl rfl (by kernel_rfl) Try.func6 (by kernel_rfl)
    (of_decide_eq_true (by kernel_rfl)) (by unfold Func.isWrapper; first | (rw [if_pos (by decide +kernel)]; kernel_rfl) | (rw [if_neg (by decide +kernel)]; exact ⟨rfl, rfl⟩))
    (fun os started H enc _ => lifted os started H enc)
/-- The statement. -/
theorem proved : Rows.BucketActsSaid :=
  over
#print axioms proved
end Go.Proofs.Ytmbpdboengaclaa.bucketActs
