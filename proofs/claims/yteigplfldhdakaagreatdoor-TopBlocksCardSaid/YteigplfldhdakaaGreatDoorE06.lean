/- align: back, the iterator over a grid's steps. -/
import Derived.Test.YteigplfldhdakaaGreatDoorE05
set_option linter.unusedVariables false
set_option linter.unusedSimpArgs false
namespace Go.Proofs.YteigplfldhdakaaGreatDoor
open Go.RowKit Go.Shelf
attribute [local go_sem] Oper.semAt_some
def stpV (s : Stp) : Value := .agg #[.int .i64 s.1, .int .i32 s.2.1, .int .i32 s.2.2]
def stpArgs (L : List Stp) (k : Nat) : Array Value := #[stpV (L.getD k (0, 0, 0))]
theorem al_cell {w : World} {p : Addr} {v : Value} (h : w.cell? p = some v) (o : Obj) : (w.alloc o).cell? p = some v := by
  have hl : p.block < w.heap.size := World.block_lt_of_cell? w _ h
  exact (World.cell?_of_block (Below.heap_alloc w o p.block hl)).trans h
set_option maxRecDepth 100000 in
set_option maxHeartbeats 1000000 in
theorem back_c (g : Nat) (w : World) : Calls Tryz.prog 87 #[.pointer (some ⟨g, 0, none⟩)] w fun e w' => e = .returned (.func (.func 132) #[] #[.pointer (some ⟨w.heap.size, 0, none⟩)]) ∧ w' = w.alloc (.cells #[.pointer (some ⟨g, 0, none⟩)] 184) := by
  go_enter Tryz.func87, Tryz.ntmps87
  go_wp2
  go_ret
  exact ⟨rfl, rfl⟩
/-- what the walk reads of a grid at (i, j), in whatever world has its blocks -/
theorem grid_at {w : World} {g : Nat} {va vb vf vk : Value} {A B fl kl : List Int} (h : GridAt w g va vb vf vk A B fl kl) :
    ∃ A1 c1 A2 c2 A4 c4, va = .slice A1 A.length c1 ∧ vb = .slice A2 B.length c2 ∧ vk = .slice A4 kl.length c4 :=  by
  obtain ⟨A1, c1, h1, _⟩ := SL.form h.a
  obtain ⟨A2, c2, h2, _⟩ := SL.form h.b
  obtain ⟨A4, c4, h4, _⟩ := BS.form h.k
  exact ⟨A1, c1, A2, c2, A4, c4, h1, h2, h4⟩
set_option maxRecDepth 100000 in
set_option maxHeartbeats 2000000 in
theorem back1_in (n : Nat) (hn : 1 ≤ n) (lp Bn g : Nat) (va vb vf vk : Value) (A B fl kl : List Int) (hA : A.length ≤ 64) (hB : B.length ≤ 64) (hkl : kl.length = (A.length + 1) * (B.length + 1)) (hok : okGrid A B kl) (J Jx : Nat → World → Prop)
    (hJ : ∀ k X Y, J k X → Touch (fun _ => False) X Y → J k Y)
    (w0 W : World) (hW0 : Below w0.heap.size w0 W) (hY : ∀ k W1, k < (stepsB A B kl A.length B.length).length → J k W1 → YieldAt Fence.wide (n - 1) Tryz.prog lp (stpArgs (stepsB A B kl A.length B.length) k) W1 fun e W' =>
      (e = .returned (.bool true) ∧ J (k + 1) W' ∧ Keep (fun j => j < w0.heap.size) W1 W') ∨ (e = .returned (.bool false) ∧ Jx (k + 1) W'))
    (hBn : w0.heap[Bn]? = some (.cells #[.pointer (some ⟨g, 0, none⟩)] 184 (0, 0))) (hG : GridAt w0 g va vb vf vk A B fl kl) (h0 : J 0 W) :
    CallsIn Fence.wide n Tryz.prog 132 #[.func (.yield lp) #[] #[], .pointer (some ⟨Bn, 0, none⟩)] W fun e W' => (∃ v, e = .returned v) ∧ (J (stepsB A B kl A.length B.length).length W' ∨ ∃ k, k < (stepsB A B kl A.length B.length).length ∧ Jx (k + 1) W') := by
  obtain ⟨A1, c1, A2, c2, A4, c4, rfl, rfl, rfl⟩ := grid_at hG
  obtain ⟨L, hL⟩ : ∃ L, stepsB A B kl A.length B.length = L := ⟨_, rfl⟩
  rw [hL] at hY ⊢
  have HL := hid hL
  have HY := hid hY
  have HG := hid hG
  have HBn := hid hBn
  have HOK := hid hok
  have HKL := hid hkl
  have hBl := blk_lt hBn
  have hgl := blk_lt hG.head
  obtain ⟨b0, -⟩ := box_cell hBn
  obtain ⟨q0, q1, q2, q3⟩ := grid_cells hG.head
  -- the blocks that are read lie as they lay
  have hrd : ∀ W' : World, (∀ k, k < w0.heap.size → W'.heap[k]? = w0.heap[k]?) → W'.cell? ⟨Bn, 0, none⟩ = some (.pointer (some ⟨g, 0, none⟩)) ∧ W'.cell? ⟨g, 0, none⟩ = some (.slice A1 A.length c1) ∧ W'.cell? ⟨g, 1, none⟩ = some (.slice A2 B.length c2) ∧ W'.cell? ⟨g, 3, none⟩ = some (.slice A4 kl.length c4) := fun W' h =>
    ⟨(World.cell?_of_block (h Bn hBl)).trans b0, (World.cell?_of_block (h g hgl)).trans q0, (World.cell?_of_block (h g hgl)).trans q1, (World.cell?_of_block (h g hgl)).trans q3⟩
  have HRD := hid hrd
  clear hBn hG hL hY hok hkl b0 q0 q1 q2 q3
  obtain ⟨b0, q0, q1, q3⟩ := hrd W (fun k hk => hW0.block k hk)
  clear hrd
  refine callsIn_of_wp Tryz.func132 rfl trivial ?_ rfl
  simp only [Tryz.ntmps132, List.size_toArray, List.length_cons, List.length_nil, Nat.reduceAdd, Nat.reduceSub, Array.replicate_succ, Array.replicate_zero, List.push_toArray, List.append_toArray, List.nil_append, List.cons_append]
  gi_wp2
  refine wpIn_scope_straight ?_
  gi_wp2
  refine wpIn_wide.2 ?_
  go_quiet (fail)
  gi_wp2
  refine wpIn_label ?_
  gi_wp2
  gi_loopw [3, 4] (fun iv jv wr => ∃ (i j t : Nat), i ≤ A.length ∧ j ≤ B.length ∧ iv = .int .i64 (i : Int) ∧ jv = .int .i64 (j : Int) ∧ t ≤ L.length ∧ Hid (L.drop t = stepsB A B kl i j) ∧ J t wr ∧ Hid (∀ k, k < w0.heap.size → wr.heap[k]? = w0.heap[k]?) ∧ w0.heap.size ≤ wr.heap.size) (fun iv jv _ => (intOf iv).toNat + (intOf jv).toNat)
  case atStart => exact ⟨A.length, B.length, 0, Nat.le_refl _, Nat.le_refl _, rfl, rfl, Nat.zero_le _, hid HL.out.symm, hJ _ _ _ h0 ((Touch.refl _ W).drewN nq), hid (fun k hk => hW0.block k hk), hW0.size⟩
  case round =>
    obtain ⟨i, j, t, hi, hj, rfl, rfl, ht, HD, hJt, HS, hsz⟩ := hrel
    clear b0 q0 q1 q3 h0
    obtain ⟨b0, q0, q1, q3⟩ := HRD.out wr HS.out
    by_cases hij : 0 < i + j
    · have hij2 : (0 : Int) < (i : Int) + (j : Int) := by omega
      have hgl : gat B.length i j < kl.length := by rw [HKL.out]; exact gat_lt hi hj
      have hGr : GridAt wr g (.slice A1 A.length c1) (.slice A2 B.length c2) vf (.slice A4 kl.length c4) A B fl kl := by
        have h := HG.out
        exact ⟨(HS.out g (blk_lt h.head)).trans h.head, SL.keep h.a fun k hk => HS.out k (SL.lt h.a k hk), SL.keep h.b fun k hk => HS.out k (SL.lt h.b k hk), h.f.keep fun k hk => HS.out k (h.f.lt k hk), h.k.keep fun k hk => HS.out k (h.k.lt k hk)⟩
      obtain ⟨gk, ok, rfl, hck, -, -⟩ := BS.item hGr.k hgl
      have hke : kl[gat B.length i j] = kl.getD (gat B.length i j) 0 := by simp [List.getD_eq_getElem?_getD, hgl]
      have hok := HOK.out i j hi hj hij
      have hcons := stepsB_cons HOK.out hi hj hij
      rw [hke] at hck
      obtain ⟨kd, hkd⟩ : ∃ kd, kl.getD (gat B.length i j) 0 = kd := ⟨_, rfl⟩
      rw [hkd] at hck hok hcons
      have HCO := hid hcons
      obtain ⟨k1, k2, k3, k4⟩ := hok
      have htl : t < L.length := by
        rcases Nat.lt_or_ge t L.length with h | h
        · exact h
        · have h1 := HD.out
          rw [List.drop_of_length_le h, hcons] at h1
          cases h1
      have hLt : L.getD t (0, 0, 0) = stpAt A B kd i j := by
        have h1 := HD.out
        rw [hcons, List.drop_eq_getElem_cons htl] at h1
        simp [List.getD_eq_getElem?_getD, htl, (List.cons.inj h1).1]
      have hDn : L.drop (t + 1) = stepsB A B kl (fromI kd i) (fromJ kd j) := by
        have h1 := HD.out
        rw [hcons, List.drop_eq_getElem_cons htl] at h1
        exact (List.cons.inj h1).2
      have HDN := hid hDn
      have HYT := hid (HY.out t)
      have HGR := hid hGr
      have hgI : ((gat B.length i j : Nat) : Int) < (kl.length : Int) := by omega
      have hg0 : (0 : Int) ≤ ((gat B.length i j : Nat) : Int) := by omega
      have hin := World.new_ne wr
      have hwk : IntKind.i64.wrap kd = kd := by rw [IntKind.wrap_i64]; omega
      clear hcons hDn hkd hke hGr
      by_cases e3 : kd = 3
      · skip
        subst e3
        obtain ⟨j, rfl⟩ : ∃ j', j = j' + 1 := ⟨j - 1, by have := k4 (by decide); omega⟩
        have hjb : j < B.length := by omega
        obtain ⟨gb, ob, cb', hvb, _, _, hcb, -⟩ := SL.open_ HGR.out.b (by omega)
        obtain rfl : A2 = some ⟨gb, ob, none⟩ := (Value.slice.inj hvb).1
        have hdb := hcb j (by omega)
        rw [show (i32 B)[j]? = some (.int .i32 (B[j]'hjb)) by simp [i32, hjb]] at hdb
        clear hcb hvb
        have hst : stpAt A B 3 i (j + 1) = (3, 0, B[j]) := by
          simp [stpAt, List.getD_eq_getElem?_getD, hjb]
        have hy0 := HYT.out
        rw [stpArgs, hLt, hst, stpV] at hy0
        dsimp only at hy0
        have HY0 := hid hy0
        have aqb := fun o => al_cell hdb o
        have ab0 := fun o => al_cell b0 o
        have aq0 := fun o => al_cell q0 o
        have aq1 := fun o => al_cell q1 o
        clear hLt hy0 hst
        gi_wp2
        refine wpIn_wide.2 ?_
        go_region_held3 (fun w' => w'.cell? ⟨Bn, 0, none⟩ = some (.pointer (some ⟨g, 0, none⟩)) ∧ w'.cell? ⟨g, 1, none⟩ = some (.slice (some ⟨gb, ob, none⟩) B.length c2) ∧ w'.cell? ⟨g, 3, none⟩ = some (.slice (some ⟨gk, ok, none⟩) kl.length c4) ∧ w'.cell? ⟨gk, ok + gat B.length i (j + 1), none⟩ = some (.int .u8 3))
          (first | exact ⟨b0, q1, q3, hck⟩ | exact ⟨al_cell b0 _, al_cell q1 _, al_cell q3 _, al_cell hck _⟩ | go_keep)
          ((first | (go_at_call 130; refine (at_i g _ B.length c2 i (j + 1) (by omega) (by omega) hB _ _ _ (by first | exact q1 | exact al_cell q1 _) (by omega) (by omega)).mono ?_; rintro e w' ⟨rfl, rfl⟩)))
        all_goals
          obtain ⟨fn, tmps, assign, body, hy, hR⟩ := HY0.out ((wr.alloc (.cells #[.int .i64 3, .int .i32 0, .int .i32 (B[j])] 189)).drew) htl (hJ _ _ _ hJt (((Touch.refl _ wr).alloc _).drew))
          gi_wp2
          refine hR.mono ?_
          rintro e W3 (⟨rfl, hJ3, hk3⟩ | ⟨rfl, hJx3⟩)
          · have HS3 : Hid (∀ k, k < w0.heap.size → W3.heap[k]? = w0.heap[k]?) := hid (fun k hk => (hk3.block k hk).trans ((Below.heap_alloc wr _ k (by omega)).trans (HS.out k hk)))
            have hsz3 : w0.heap.size ≤ W3.heap.size := by have := hk3.size; simp at this; omega
            have HD3 : Hid (L.drop (t + 1) = stepsB A B kl i j) := hid (by have h := HDN.out; simpa [fromI, fromJ] using h)
            clear hy hR hk3
            gi_wp2
            exact ⟨⟨i, j, t + 1, by omega, by omega, by simp, by simp, by omega, HD3, hJ3, HS3, hsz3⟩, by simp [intOf] <;> omega⟩
          · clear hy hR
            gi_wp2
            simp only [Exit.noGoto]
            go_end0
            exact ⟨⟨_, rfl⟩, .inr ⟨t, htl, hJx3⟩⟩
      · by_cases e2 : kd = 2
        · skip
          subst e2
          obtain ⟨i, rfl⟩ : ∃ i', i = i' + 1 := ⟨i - 1, by have := k3 (by decide); omega⟩
          have hia : i < A.length := by omega
          obtain ⟨ga, oa, ca', hva, _, _, hca, -⟩ := SL.open_ HGR.out.a (by omega)
          obtain rfl : A1 = some ⟨ga, oa, none⟩ := (Value.slice.inj hva).1
          have hda := hca i (by omega)
          rw [show (i32 A)[i]? = some (.int .i32 (A[i]'hia)) by simp [i32, hia]] at hda
          clear hca hva
          have hst : stpAt A B 2 (i + 1) j = (2, A[i], 0) := by
            simp [stpAt, List.getD_eq_getElem?_getD, hia]
          have hy0 := HYT.out
          rw [stpArgs, hLt, hst, stpV] at hy0
          dsimp only at hy0
          have HY0 := hid hy0
          have aqa := fun o => al_cell hda o
          have ab0 := fun o => al_cell b0 o
          have aq0 := fun o => al_cell q0 o
          have aq1 := fun o => al_cell q1 o
          clear hLt hy0 hst
          gi_wp2
          refine wpIn_wide.2 ?_
          go_region_held3 (fun w' => w'.cell? ⟨Bn, 0, none⟩ = some (.pointer (some ⟨g, 0, none⟩)) ∧ w'.cell? ⟨g, 1, none⟩ = some (.slice A2 B.length c2) ∧ w'.cell? ⟨g, 3, none⟩ = some (.slice (some ⟨gk, ok, none⟩) kl.length c4) ∧ w'.cell? ⟨gk, ok + gat B.length (i + 1) j, none⟩ = some (.int .u8 2))
            (first | exact ⟨b0, q1, q3, hck⟩ | exact ⟨al_cell b0 _, al_cell q1 _, al_cell q3 _, al_cell hck _⟩ | go_keep)
            ((first | (go_at_call 130; refine (at_i g _ B.length c2 (i + 1) j (by omega) (by omega) hB _ _ _ (by first | exact q1 | exact al_cell q1 _) (by omega) (by omega)).mono ?_; rintro e w' ⟨rfl, rfl⟩)))
          all_goals
            obtain ⟨fn, tmps, assign, body, hy, hR⟩ := HY0.out ((wr.alloc (.cells #[.int .i64 2, .int .i32 (A[i]), .int .i32 0] 189)).drew) htl (hJ _ _ _ hJt (((Touch.refl _ wr).alloc _).drew))
            gi_wp2
            refine hR.mono ?_
            rintro e W3 (⟨rfl, hJ3, hk3⟩ | ⟨rfl, hJx3⟩)
            · have HS3 : Hid (∀ k, k < w0.heap.size → W3.heap[k]? = w0.heap[k]?) := hid (fun k hk => (hk3.block k hk).trans ((Below.heap_alloc wr _ k (by omega)).trans (HS.out k hk)))
              have hsz3 : w0.heap.size ≤ W3.heap.size := by have := hk3.size; simp at this; omega
              have HD3 : Hid (L.drop (t + 1) = stepsB A B kl i j) := hid (by have h := HDN.out; simpa [fromI, fromJ] using h)
              clear hy hR hk3
              gi_wp2
              exact ⟨⟨i, j, t + 1, by omega, by omega, by simp, by simp, by omega, HD3, hJ3, HS3, hsz3⟩, by simp [intOf] <;> omega⟩
            · clear hy hR
              gi_wp2
              simp only [Exit.noGoto]
              go_end0
              exact ⟨⟨_, rfl⟩, .inr ⟨t, htl, hJx3⟩⟩
        · skip
          obtain ⟨j, rfl⟩ : ∃ j', j = j' + 1 := ⟨j - 1, by have := k4 e2; omega⟩
          obtain ⟨i, rfl⟩ : ∃ i', i = i' + 1 := ⟨i - 1, by have := k3 e3; omega⟩
          have hjb : j < B.length := by omega
          have hia : i < A.length := by omega
          have e3b : (kd != 3) = true := by rw [bne_iff_ne]; exact e3
          have e2b : (kd != 2) = true := by rw [bne_iff_ne]; exact e2
          obtain ⟨ga, oa, ca', hva, _, _, hca, -⟩ := SL.open_ HGR.out.a (by omega)
          obtain rfl : A1 = some ⟨ga, oa, none⟩ := (Value.slice.inj hva).1
          have hda := hca i (by omega)
          rw [show (i32 A)[i]? = some (.int .i32 (A[i]'hia)) by simp [i32, hia]] at hda
          clear hca hva
          obtain ⟨gb, ob, cb', hvb, _, _, hcb, -⟩ := SL.open_ HGR.out.b (by omega)
          obtain rfl : A2 = some ⟨gb, ob, none⟩ := (Value.slice.inj hvb).1
          have hdb := hcb j (by omega)
          rw [show (i32 B)[j]? = some (.int .i32 (B[j]'hjb)) by simp [i32, hjb]] at hdb
          clear hcb hvb
          have hst : stpAt A B kd (i + 1) (j + 1) = (kd, A[i], B[j]) := by
            simp [stpAt, e3, e2, List.getD_eq_getElem?_getD, hia, hjb]
          have hy0 := HYT.out
          rw [stpArgs, hLt, hst, stpV] at hy0
          dsimp only at hy0
          have HY0 := hid hy0
          have aqa := fun o => al_cell hda o
          have aqb := fun o => al_cell hdb o
          have ab0 := fun o => al_cell b0 o
          have aq0 := fun o => al_cell q0 o
          have aq1 := fun o => al_cell q1 o
          clear hLt hy0 hst
          gi_wp2
          refine wpIn_wide.2 ?_
          go_region_held3 (fun w' => w'.cell? ⟨Bn, 0, none⟩ = some (.pointer (some ⟨g, 0, none⟩)) ∧ w'.cell? ⟨g, 1, none⟩ = some (.slice (some ⟨gb, ob, none⟩) B.length c2) ∧ w'.cell? ⟨g, 3, none⟩ = some (.slice (some ⟨gk, ok, none⟩) kl.length c4) ∧ w'.cell? ⟨gk, ok + gat B.length (i + 1) (j + 1), none⟩ = some (.int .u8 kd))
            (first | exact ⟨b0, q1, q3, hck⟩ | exact ⟨al_cell b0 _, al_cell q1 _, al_cell q3 _, al_cell hck _⟩ | go_keep)
            ((first | (go_at_call 130; refine (at_i g _ B.length c2 (i + 1) (j + 1) (by omega) (by omega) hB _ _ _ (by first | exact q1 | exact al_cell q1 _) (by omega) (by omega)).mono ?_; rintro e w' ⟨rfl, rfl⟩)))
          all_goals
            obtain ⟨fn, tmps, assign, body, hy, hR⟩ := HY0.out ((wr.alloc (.cells #[.int .i64 kd, .int .i32 (A[i]), .int .i32 (B[j])] 189)).drew) htl (hJ _ _ _ hJt (((Touch.refl _ wr).alloc _).drew))
            gi_wp2
            refine hR.mono ?_
            rintro e W3 (⟨rfl, hJ3, hk3⟩ | ⟨rfl, hJx3⟩)
            · have HS3 : Hid (∀ k, k < w0.heap.size → W3.heap[k]? = w0.heap[k]?) := hid (fun k hk => (hk3.block k hk).trans ((Below.heap_alloc wr _ k (by omega)).trans (HS.out k hk)))
              have hsz3 : w0.heap.size ≤ W3.heap.size := by have := hk3.size; simp at this; omega
              have HD3 : Hid (L.drop (t + 1) = stepsB A B kl i j) := hid (by have h := HDN.out; simpa [fromI, fromJ, e3, e2] using h)
              clear hy hR hk3
              gi_wp2
              exact ⟨⟨i, j, t + 1, by omega, by omega, by simp, by simp, by omega, HD3, hJ3, HS3, hsz3⟩, by simp [intOf] <;> omega⟩
            · clear hy hR
              gi_wp2
              simp only [Exit.noGoto]
              go_end0
              exact ⟨⟨_, rfl⟩, .inr ⟨t, htl, hJx3⟩⟩
    · obtain ⟨rfl, rfl⟩ : i = 0 ∧ j = 0 := by omega
      have htl : t = L.length := by
        have h1 := congrArg List.length HD.out
        rw [stepsB_zero, List.length_drop, List.length_nil] at h1
        omega
      subst htl
      gi_wp2
      simp only [Exit.noGoto]
      go_end0
      exact ⟨⟨_, rfl⟩, .inl hJt⟩
/- align: Collect over a grid's steps. -/
theorem back_seq (n : Nat) (hn : 1 ≤ n) (Bn g : Nat) (va vb vf vk : Value) (A B fl kl : List Int) (hA : A.length ≤ 64) (hB : B.length ≤ 64) (hkl : kl.length = (A.length + 1) * (B.length + 1)) (hok : okGrid A B kl) (w : World)
    (hBn : w.heap[Bn]? = some (.cells #[.pointer (some ⟨g, 0, none⟩)] 184 (0, 0))) (hG : GridAt w g va vb vf vk A B fl kl) :
    SeqL Fence.wide n Tryz.prog 132 #[.pointer (some ⟨Bn, 0, none⟩)] (stpArgs (stepsB A B kl A.length B.length)) (stepsB A B kl A.length B.length).length (fun _ k => k < w.heap.size) (fun _ _ => False) w := fun l J Jx W hW hJ hJx hY h0 =>
  back1_in n hn l Bn g va vb vf vk A B fl kl hA hB hkl hok J Jx hJ w W hW hY hBn hG h0
def stpC (s : Stp) : List Value := [.int .i64 s.1, .int .i32 s.2.1, .int .i32 s.2.2]
def stpsC (L : List Stp) : List Value := L.flatMap stpC
theorem stpsC_append (L M : List Stp) : stpsC (L ++ M) = stpsC L ++ stpsC M := by simp [stpsC]
theorem stpsC_length (L : List Stp) : (stpsC L).length = L.length * 3 := by
  induction L with
  | nil => rfl
  | cons a r ih => rw [show stpsC (a :: r) = stpC a ++ stpsC r from rfl, List.length_append, ih, List.length_cons]; simp [stpC]; omega
/-- v is a slice of steps: these -/
def StS (w : World) (v : Value) (L : List Stp) : Prop := SL w 189 3 v L.length (stpsC L)
theorem info189 : (Tryz.prog.info? 189).map (fun i => (i.zero, i.size, i.bytes)) = some (some (.agg #[.int .i64 0, .int .i32 0, .int .i32 0]), 3, 16) := by kernel_rfl
def ColI (w : World) (L : List Stp) (k : Nat) (W : World) : Prop :=
  (∃ A c, W.heap[w.heap.size]? = some (.cells #[.slice A k c] 129 (0, 0)) ∧ SL W 189 3 (.slice A k c) k (stpsC (L.take k)) ∧ (∀ b, (Value.slice A k c).ownBlock = some b → w.heap.size < b)) ∧ Below w.heap.size w W
def ColP (L : List Stp) (w : World) (e : Ending) (w' : World) : Prop :=
  ∃ A c, e = .returned (.slice A L.length c) ∧ StS w' (.slice A L.length c) L ∧ (∀ b, (Value.slice A L.length c).ownBlock = some b → w.heap.size ≤ b) ∧ Below w.heap.size w w'
set_option maxRecDepth 100000 in
set_option maxHeartbeats 2000000 in
theorem appS_in (n : Nat) (hn : 6 ≤ n) (w : World) (gf : Nat) (lb : Array Value) (eg : ∀ args w, (callFunc gf args).run Tryz.prog w = .ok (.enter gf args) w) (L : List Stp) (hL : L.length ≤ 1000000) (w0 : World) (hw0 : Below w0.heap.size w0 w) (R : Nat → Prop)
    (hseq : SeqL Fence.wide (n - 1) Tryz.prog gf lb (stpArgs L) L.length (fun _ => R) (fun _ _ => False) w0) (hR : ∀ k, R k → k < w0.heap.size) :
    CallsIn Fence.wide n Tryz.prog 131 #[.slice none 0 0, .func (.func gf) #[] lb] w (ColP L w) := by
  obtain ⟨i0, hi, hz0, hz1, hz2⟩ := info_parts info189
  refine callsIn_of_wp_marks Tryz.func131 rfl trivial ?_ rfl
  simp only [Tryz.ntmps131, List.size_toArray, List.length_cons, List.length_nil, Nat.reduceAdd, Nat.reduceSub, Array.replicate_succ, Array.replicate_zero, List.push_toArray, List.append_toArray, List.nil_append, List.cons_append]
  gi_wp2
  have hsz : (w.alloc (.cells #[.slice none 0 0] 129)).heap.size = w.heap.size + 1 := World.size_alloc _ _
  have hle := hw0.size
  refine wpIn_rangeA rfl (by omega) (gf := gf) (lb := lb) rfl trivial eg hseq (balloc hw0 _ |>.trans (Below.refl _ _)) (fun _ => rfl) (fun k hk => by have := hR k hk; omega)
    (fun k hk W o h => Below.heap_alloc W o k (by have := hR k hk; omega)) (fun k hk => hk.elim)
    (ColI w L) (fun _ _ _ => False) ?hI ?hIx ?h0 ?round ?done ?stop
  case hI =>
    rintro k X Y ⟨⟨A, c, h1, h2, h3⟩, h4⟩ hcs
    exact ⟨⟨A, c, hcs.cells h1 (fun h => h), SL.cs h2 hcs (fun b hb h => h), h3⟩, hcs.below h4 (by omega) (fun b hb h => h)⟩
  case hIx => exact fun _ _ _ _ h _ => h
  case h0 => exact ⟨⟨none, 0, heap_alloc_new _ _, SL.nil _ _ _, fun b hb => by simp [Value.ownBlock] at hb⟩, balloc (Below.refl _ w) _⟩
  case round =>
    intro l k W hk hIk hszW
    obtain ⟨x, hx⟩ : ∃ x, L.getD k (0, 0, 0) = x := ⟨_, rfl⟩
    unfold stpArgs
    rw [hx, stpV]
    apply Exists.intro
    apply Exists.intro
    refine ⟨?_, fun K hK => ?_, ?_⟩
    rotate_left
    · gi_wp2
      exact hK
    · rintro W' ⟨⟨A, c, h1, h2, h3⟩, h4⟩ hbx hszW' hn1 hn2
      obtain ⟨a0, a1⟩ := box_cell h1
      have x0 : W'.cell? ⟨W.heap.size, 0, none⟩ = some (.int .i64 x.1) := by rw [cell_of_row W' _ 0 _ _ _ hbx]; rfl
      have x1 : W'.cell? ⟨W.heap.size, 1, none⟩ = some (.int .i32 x.2.1) := by rw [cell_of_row W' _ 1 _ _ _ hbx]; rfl
      have x2 : W'.cell? ⟨W.heap.size, 2, none⟩ = some (.int .i32 x.2.2) := by rw [cell_of_row W' _ 2 _ _ _ hbx]; rfl
      have HSL : Hid (SL (W'.alloc (.cells #[.int .i64 x.1, .int .i32 x.2.1, .int .i32 x.2.2] 189)) 189 3 (.slice A k c) k (stpsC (L.take k))) := hid (h2.alloc _)
      have HL := hid (SL.lit W' 189 3 1 #[.int .i64 x.1, .int .i32 x.2.1, .int .i32 x.2.2] rfl (by simp [maxLen]))
      have hone : ∀ u ∈ [Value.int .i64 x.1, .int .i32 x.2.1, .int .i32 x.2.2], u.oneCell' = true := by simp [Value.oneCell']
      have h63 : k + 1 ≤ maxLen := by simp only [maxLen]; omega
      have hby : (k + 1) * 16 ≤ 140737488355328 := by omega
      have H1 := hid h1
      have H2 := hid h2
      have H3 := hid h3
      have H4 := hid h4
      have HX := hid hx
      clear h1 h2 h3 h4 hbx hx
      gi_wp2_with (gi_at_builtin; refine wpListIn_append_SLs rfl _ _ _ rfl 189 i0 _ 3 16 Tryz.underlying129 hi hz0 hz1 hz2 rfl (by decide) (.slice A k c) k (stpsC (L.take k)) rfl HSL.out _ 1 _ rfl HL.out hone (k + 1) _ rfl rfl h63 hby ?_; intro A2 c2 w2 hs2 hg2 ho2; obtain ⟨g1, g2, g3, g4⟩ := col_step H1.out (by decide) H2.out _ hg2 hs2 ho2; have hv2 : w2.heap[w.heap.size]? = some (.cells #[.slice A k c] 129 (0, 0)) := (hg2.block _ (by have := blk_lt H1.out; rw [World.size_alloc]; omega) (fun h => by have := H3.out _ h.symm; omega)).trans (alloc_keep H1.out _); obtain ⟨e2, f2⟩ := box_cell hv2; have G1 := hid g1; have G2 := hid g2; have G3 := hid g3; have G4 := hid g4; clear hs2 hg2 ho2 g1 g2 g3 g4 hv2)
      have hob : ∀ D, NC W' D → D ≠ w.heap.size → ¬ (D = w.heap.size ∨ (Value.slice A k c).ownBlock = some D) := fun D hD hne h => by
        rcases h with h | h
        · exact hne h
        · obtain ⟨cur, hc⟩ := SL.typed H2.out D h
          exact hD.ne hc rfl
      have hRl : ∀ b, R b → b < w.heap.size := fun b hb => by have := hR b hb; omega
      rw [hsz] at hszW' hn1 hn2
      refine ⟨RK.of_touch G3.out (by omega) (hob _ hn1 (by omega)) (hob _ hn2 (by omega)), Keep.of_touch G3.out (fun b hb2 => ⟨by have := hRl b hb2; omega, fun h => ?_⟩), ⟨A2, c2, G1.out, ?_, fun b hb2 => ?_⟩, G3.out.below H4.out (fun b h => ?_)⟩
      · have := hRl b hb2
        rcases h with h | h
        · omega
        · have := H3.out b h; omega
      · have h := G2.out
        have e : stpsC (L.take (k + 1)) = stpsC (L.take k) ++ [.int .i64 x.1, .int .i32 x.2.1, .int .i32 x.2.2] := by
          rw [List.take_add_one, List.getElem?_eq_getElem hk, stpsC_append]
          have hx2 : L[k] = x := by rw [← HX.out]; simp [List.getD_eq_getElem?_getD, hk]
          rw [hx2]
          rfl
        rw [e]
        exact h
      · rcases G4.out b hb2 with h | h
        · exact H3.out b h
        · omega
      · rcases h with h | h
        · omega
        · have := H3.out b h; omega
    · rfl
  case done =>
    rintro D W hD ⟨⟨A, c, h1, h2, h3⟩, h4⟩ hK
    obtain ⟨e0, f0⟩ := box_cell h1
    have H2 := hid h2
    have H3 := hid h3
    have H4 := hid h4
    rw [List.take_length] at H2
    clear h1 h2 h3 h4
    gi_wp2
    refine ⟨by simp, .inl ⟨_, _, rfl, run_takeDeferred hK, ?_⟩⟩
    refine ⟨_, results_tmp (fn := Tryz.f131) (t := 4) rfl _ _ _, ?_⟩
    exact ⟨A, c, rfl, fin_SL H2.out hK rfl, fun b hb => Nat.le_of_lt (H3.out b hb), fin_below H4.out (by omega)⟩
  case stop => exact fun _ _ _ _ _ _ h _ => h.elim
end Go.Proofs.YteigplfldhdakaaGreatDoor
