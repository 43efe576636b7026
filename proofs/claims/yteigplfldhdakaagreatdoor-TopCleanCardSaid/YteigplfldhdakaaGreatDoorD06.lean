/- align: Collect over a grid's steps. -/
import Derived.Test.YteigplfldhdakaaGreatDoorD05
set_option linter.unusedVariables false
set_option linter.unusedSimpArgs false
namespace Go.Proofs.YteigplfldhdakaaGreatDoor
open Go.RowKit Go.Shelf
attribute [local go_sem] Oper.semAt_some
theorem back_seq (n : Nat) (hn : 1 ≤ n) (Bn g : Nat) (va vb vf vk : Value) (A B fl kl : List Int) (hA : A.length ≤ 64) (hB : B.length ≤ 64) (hkl : kl.length = (A.length + 1) * (B.length + 1)) (hok : okGrid A B kl) (w : World)
    (hBn : w.heap[Bn]? = some (.cells #[.pointer (some ⟨g, 0, none⟩)] 184 (0, 0))) (hG : GridAt w g va vb vf vk A B fl kl) :
    SeqL Fence.wide n Tryz.prog 132 #[.pointer (some ⟨Bn, 0, none⟩)] (stpArgs (stepsB A B kl A.length B.length)) (stepsB A B kl A.length B.length).length (fun _ k => k < w.heap.size) (fun _ _ => False) w := fun l J Jx W hW hJ hJx hY h0 =>
  back1_in n hn l Bn g va vb vf vk A B fl kl hA hB hkl hok J Jx hJ w W hW hY hBn hG h0
def stpC (s : Stp) : List Value := [.int .i64 s.1, .int .i32 s.2.1, .int .i32 s.2.2]
def stpsC (L : List Stp) : List Value := L.flatMap stpC
theorem stpsC_append (L M : List Stp) : stpsC (L ++ M) = stpsC L ++ stpsC M := by simp [stpsC]
/-- v is a slice of steps: these -/
def StS (w : World) (v : Value) (L : List Stp) : Prop := SL w 189 3 v L.length (stpsC L)
theorem info189 : (Tryz.prog.info? 189).map (fun i => (i.zero, i.size, i.bytes)) = some (some (.agg #[.int .i64 0, .int .i32 0, .int .i32 0]), 3, 16) := by kernel_rfl
def ColI (w : World) (L : List Stp) (k : Nat) (W : World) : Prop :=
  (∃ A c, W.heap[w.heap.size]? = some (.cells #[.slice A k c] 129 (0, 0)) ∧ SL W 189 3 (.slice A k c) k (stpsC (L.take k)) ∧ (∀ b, (Value.slice A k c).ownBlock = some b → w.heap.size < b)) ∧ Below w.heap.size w W
def ColP (L : List Stp) (w : World) (e : Ending) (w' : World) : Prop :=
  ∃ A c, e = .returned (.slice A L.length c) ∧ StS w' (.slice A L.length c) L ∧ (∀ b, (Value.slice A L.length c).ownBlock = some b → w.heap.size ≤ b) ∧ Below w.heap.size w w'
set_option maxRecDepth 100000 in
set_option maxHeartbeats 2000000 in
theorem appS_in (n : Nat) (hn : 6 ≤ n) (w : World) (gf : Nat) (lb : Array Value) (eg : ∀ args w, (callFunc gf args).run Tryz.prog w = .ok (.enter gf args) w) (L : List Stp) (hL : L.length ≤ 1000000) (w0 : World) (hw0 : Below w0.heap.size w0 w) (R : Nat → Prop)
    (hseq : SeqL Fence.wide (n - 1) Tryz.prog gf lb (stpArgs L) L.length (fun _ => R) (fun _ _ => False) w0) (hR : ∀ k, R k → k < w0.heap.size) :
    CallsIn Fence.wide n Tryz.prog 131 #[.slice none 0 0, .func (.func gf) #[] lb] w (ColP L w) := by
  obtain ⟨i0, hi, hz0, hz1, hz2⟩ := info_parts info189
  refine callsIn_of_wp_marks Tryz.func131 rfl trivial ?_ rfl
  simp only [Tryz.ntmps131, List.size_toArray, List.length_cons, List.length_nil, Nat.reduceAdd, Nat.reduceSub, Array.replicate_succ, Array.replicate_zero, List.push_toArray, List.append_toArray, List.nil_append, List.cons_append]
  gi_wp2
  have hsz : (w.alloc (.cells #[.slice none 0 0] 129)).heap.size = w.heap.size + 1 := World.size_alloc _ _
  have hle := hw0.size
  refine wpIn_rangeA rfl (by omega) (gf := gf) (lb := lb) rfl trivial eg hseq (balloc hw0 _ |>.trans (Below.refl _ _)) (fun _ => rfl) (fun k hk => by have := hR k hk; omega)
    (fun k hk W o h => Below.heap_alloc W o k (by have := hR k hk; omega)) (fun k hk => hk.elim)
    (ColI w L) (fun _ _ _ => False) ?hI ?hIx ?h0 ?round ?done ?stop
  case hI =>
    rintro k X Y ⟨⟨A, c, h1, h2, h3⟩, h4⟩ hcs
    exact ⟨⟨A, c, hcs.cells h1 (fun h => h), SL.cs h2 hcs (fun b hb h => h), h3⟩, hcs.below h4 (by omega) (fun b hb h => h)⟩
  case hIx => exact fun _ _ _ _ h _ => h
  case h0 => exact ⟨⟨none, 0, heap_alloc_new _ _, SL.nil _ _ _, fun b hb => by simp [Value.ownBlock] at hb⟩, balloc (Below.refl _ w) _⟩
  case round =>
    intro l k W hk hIk hszW
    obtain ⟨x, hx⟩ : ∃ x, L.getD k (0, 0, 0) = x := ⟨_, rfl⟩
    unfold stpArgs
    rw [hx, stpV]
    apply Exists.intro
    apply Exists.intro
    refine ⟨?_, fun K hK => ?_, ?_⟩
    rotate_left
    · gi_wp2
      exact hK
    · rintro W' ⟨⟨A, c, h1, h2, h3⟩, h4⟩ hbx hszW' hn1 hn2
      obtain ⟨a0, a1⟩ := box_cell h1
      have x0 : W'.cell? ⟨W.heap.size, 0, none⟩ = some (.int .i64 x.1) := by rw [cell_of_row W' _ 0 _ _ _ hbx]; rfl
      have x1 : W'.cell? ⟨W.heap.size, 1, none⟩ = some (.int .i32 x.2.1) := by rw [cell_of_row W' _ 1 _ _ _ hbx]; rfl
      have x2 : W'.cell? ⟨W.heap.size, 2, none⟩ = some (.int .i32 x.2.2) := by rw [cell_of_row W' _ 2 _ _ _ hbx]; rfl
      have HSL : Hid (SL (W'.alloc (.cells #[.int .i64 x.1, .int .i32 x.2.1, .int .i32 x.2.2] 189)) 189 3 (.slice A k c) k (stpsC (L.take k))) := hid (h2.alloc _)
      have HL := hid (SL.lit W' 189 3 1 #[.int .i64 x.1, .int .i32 x.2.1, .int .i32 x.2.2] rfl (by simp [maxLen]))
      have hone : ∀ u ∈ [Value.int .i64 x.1, .int .i32 x.2.1, .int .i32 x.2.2], u.oneCell' = true := by simp [Value.oneCell']
      have h63 : k + 1 ≤ maxLen := by simp only [maxLen]; omega
      have hby : (k + 1) * 16 ≤ 140737488355328 := by omega
      have H1 := hid h1
      have H2 := hid h2
      have H3 := hid h3
      have H4 := hid h4
      have HX := hid hx
      clear h1 h2 h3 h4 hbx hx
      gi_wp2_with (gi_at_builtin; refine wpListIn_append_SLs rfl _ _ _ rfl 189 i0 _ 3 16 Tryz.underlying129 hi hz0 hz1 hz2 rfl (by decide) (.slice A k c) k (stpsC (L.take k)) rfl HSL.out _ 1 _ rfl HL.out hone (k + 1) _ rfl rfl h63 hby ?_; intro A2 c2 w2 hs2 hg2 ho2; obtain ⟨g1, g2, g3, g4⟩ := col_step H1.out (by decide) H2.out _ hg2 hs2 ho2; have hv2 : w2.heap[w.heap.size]? = some (.cells #[.slice A k c] 129 (0, 0)) := (hg2.block _ (by have := blk_lt H1.out; rw [World.size_alloc]; omega) (fun h => by have := H3.out _ h.symm; omega)).trans (alloc_keep H1.out _); obtain ⟨e2, f2⟩ := box_cell hv2; have G1 := hid g1; have G2 := hid g2; have G3 := hid g3; have G4 := hid g4; clear hs2 hg2 ho2 g1 g2 g3 g4 hv2)
      have hob : ∀ D, NC W' D → D ≠ w.heap.size → ¬ (D = w.heap.size ∨ (Value.slice A k c).ownBlock = some D) := fun D hD hne h => by
        rcases h with h | h
        · exact hne h
        · obtain ⟨cur, hc⟩ := SL.typed H2.out D h
          exact hD.ne hc rfl
      have hRl : ∀ b, R b → b < w.heap.size := fun b hb => by have := hR b hb; omega
      rw [hsz] at hszW' hn1 hn2
      refine ⟨RK.of_touch G3.out (by omega) (hob _ hn1 (by omega)) (hob _ hn2 (by omega)), Keep.of_touch G3.out (fun b hb2 => ⟨by have := hRl b hb2; omega, fun h => ?_⟩), ⟨A2, c2, G1.out, ?_, fun b hb2 => ?_⟩, G3.out.below H4.out (fun b h => ?_)⟩
      · have := hRl b hb2
        rcases h with h | h
        · omega
        · have := H3.out b h; omega
      · have h := G2.out
        have e : stpsC (L.take (k + 1)) = stpsC (L.take k) ++ [.int .i64 x.1, .int .i32 x.2.1, .int .i32 x.2.2] := by
          rw [List.take_add_one, List.getElem?_eq_getElem hk, stpsC_append]
          have hx2 : L[k] = x := by rw [← HX.out]; simp [List.getD_eq_getElem?_getD, hk]
          rw [hx2]
          rfl
        rw [e]
        exact h
      · rcases G4.out b hb2 with h | h
        · exact H3.out b h
        · omega
      · rcases h with h | h
        · omega
        · have := H3.out b h; omega
    · rfl
  case done =>
    rintro D W hD ⟨⟨A, c, h1, h2, h3⟩, h4⟩ hK
    obtain ⟨e0, f0⟩ := box_cell h1
    have H2 := hid h2
    have H3 := hid h3
    have H4 := hid h4
    rw [List.take_length] at H2
    clear h1 h2 h3 h4
    gi_wp2
    refine ⟨by simp, .inl ⟨_, _, rfl, run_takeDeferred hK, ?_⟩⟩
    refine ⟨_, results_tmp (fn := Tryz.f131) (t := 4) rfl _ _ _, ?_⟩
    exact ⟨A, c, rfl, fin_SL H2.out hK rfl, fun b hb => Nat.le_of_lt (H3.out b hb), fin_below H4.out (by omega)⟩
  case stop => exact fun _ _ _ _ _ _ h _ => h.elim
end Go.Proofs.YteigplfldhdakaaGreatDoor
