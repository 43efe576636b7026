/- append(bytes, string...) at any place; the Writer's Raw, Text and Bytes, walked. -/
import Derived.Test.YtlonmjmjmnondaaBe
import Derived.Lib.AppendStr
namespace Go.Proofs.Ytlonmjmjmnondaa
set_option linter.unusedVariables false
set_option linter.unusedSimpArgs false
open Go.RowKit
open Go.Lib hiding intOf
attribute [local go_sem ↓] Go.wp_at_zero Go.wp_at_succ
/-- a string's bytes -/
def bytesS (s : ByteArray) : List Int := s.data.toList.map fun b => (b.toNat : Int)
theorem bytesS_length (s : ByteArray) : (bytesS s).length = s.size := by
  rw [bytesS, List.length_map, Array.length_toList]
  rfl
theorem bytesS_cells (s : ByteArray) : by8 (bytesS s) = strCells s := by
  simp [by8, bytesS, strCells]
section
variable {P : Program} {w : World} {e : TypeId} {size g off n cap : Nat} {xs : List Value}
theorem SL.setCells (h : SL w e size (.slice (some ⟨g, off, none⟩) n cap) n xs) {m : Nat} {news : List Value} (hl : news.length = m * size) (hr : n + m ≤ cap) :
    SL (w.setCells g (off + n * size) news) e size (.slice (some ⟨g, off, none⟩) (n + m) cap) (n + m) (xs ++ news) ∧ w.grownBy (w.setCells g (off + n * size) news) (some g) := by
  rcases h.2 with ⟨h2, _⟩ | ⟨g', off', cap', cur, hv, hg, hn, hm, hs, hx⟩
  · cases h2
  · simp only [Value.slice.injEq, Option.some.injEq, Addr.mk.injEq, and_true, true_and] at hv
    obtain ⟨⟨rfl, rfl⟩, rfl⟩ := hv
    have hnm : (n + m) * size ≤ cap * size := Nat.mul_le_mul_right _ hr
    rw [Nat.add_mul] at hnm
    have key : ∀ (vs : List Value) (o : Nat) (w : World) (cur : Array Value), w.heap[g]? = some (.cells cur e (0, 0)) → o + vs.length ≤ cur.size →
        ∃ cur', (w.setCells g o vs).heap[g]? = some (.cells cur' e (0, 0)) ∧ cur'.size = cur.size ∧ cur'.toList = cur.toList.take o ++ vs ++ cur.toList.drop (o + vs.length) ∧ w.grownBy (w.setCells g o vs) (some g) := by
      intro vs
      induction vs with
      | nil => intro o w cur hc _; exact ⟨cur, hc, rfl, by simp, ⟨rfl, rfl, rfl, Nat.le_refl _, fun _ _ _ => rfl⟩⟩
      | cons u r ih =>
        intro o w cur hc hl2
        rw [List.length_cons] at hl2
        obtain ⟨cur', i1, i2, i3, i4⟩ := ih (o + 1) (w.setCell ⟨g, o, none⟩ u) (cur.setIfInBounds o u) (heap_setCell_same w g o cur e u hc) (by simp; omega)
        refine ⟨cur', i1, by rw [i2]; simp, ?_, ?_⟩
        · rw [i3, Array.toList_setIfInBounds]
          apply List.ext_getElem?
          intro k
          simp only [List.getElem?_append, List.length_append, List.length_take, List.length_set, Array.length_toList, List.length_cons, List.getElem?_take, List.getElem?_set, List.getElem?_drop, List.getElem?_cons]
          grind
        · refine ⟨i4.os, i4.tape, i4.output, Nat.le_trans (by simp [World.setCell]) i4.size, fun k hk hne => ?_⟩
          exact (i4.block k (by simpa [World.setCell] using hk) hne).trans (Below.heap_setCell w _ u k (fun e => hne (by rw [e])))
    obtain ⟨cur', k1, k2, k3, k4⟩ := key news (off + n * size) w cur hg (by omega)
    refine ⟨⟨by rw [List.length_append, h.1, hl, Nat.add_mul], .inr ⟨g, off, cap, cur', rfl, k1, hr, hm, by rw [k2]; exact hs, ?_⟩⟩, k4⟩
    rw [k3, ← hx]
    apply List.ext_getElem?
    intro k
    simp only [List.getElem?_append, List.length_append, List.length_take, List.length_drop, Array.length_toList, List.getElem?_take, List.getElem?_drop, Nat.add_mul]
    grind
theorem run_append_str (w : World) (t u ty e : TypeId) (i : TypeInfo) (ht : P.underlying t = some (.slice e)) (hu : P.underlying u = some .string) (hi : P.info? e = some i) (hz : i.zero = some (.int .u8 0))
    (hsize : i.size = 1) (hby : i.bytes = 1) (v : Value) (n : Nat) (xs : List Value) (h : SL w e 1 v n xs) (s : ByteArray) (h63 : n + s.size ≤ 140737488355328) :
    ∃ A cap w', (Builtin.append_ #[t, u] ty #[v, .string s]).run P w = .ok (.slice A (n + s.size) cap) w' ∧ SL w' e 1 (.slice A (n + s.size) cap) (n + s.size) (xs ++ strCells s) ∧ w.grownBy w' v.ownBlock ∧ (∀ k, (Value.slice A (n + s.size) cap).ownBlock = some k → v.ownBlock = some k ∨ w.heap.size ≤ k) := by
  have hml : n + s.size ≤ maxLen := by simp only [maxLen]; omega
  rcases h.2 with ⟨rfl, rfl⟩ | ⟨g, off, cap, cur, rfl, hg, hn, hm, hs, hx⟩
  · obtain rfl : xs = [] := List.eq_nil_of_length_eq_zero (by simpa using h.1)
    obtain ⟨v', w', hrun, r1, r2, _⟩ := run_append_own_string (P := P) w w.heap.size t u ty e i ht hu hi hz hsize hby (.slice none 0 0) 0 [] (World.ownsRow_nil w _ e 1) s hml h63 (Nat.le_refl _)
    obtain ⟨A, c, rfl, hc⟩ := (SL.of_own r1).form
    exact ⟨A, c, w', hrun, SL.of_own r1, r2, fun k hk => .inr (ownsRow_ge r1 k hk)⟩
  · by_cases hr : n + s.size ≤ cap
    · have hf := run_firstCells_string (P := P) w 1 s
      have hst := run_storeCells_cells (P := P) g (off + n * 1) (strCells s) 0 w (fun j hj => by rw [strCells_length] at hj; rw [cell_of_row w g _ _ _ _ hg, Array.getElem?_eq_getElem (by omega)]; rfl) (fun j _ => frozen_of_row w g _ _ _ hg) (strCells_oneCell s)
      simp only [Nat.add_zero] at hst
      have hrun : (Builtin.append_ #[t, u] ty #[.slice (some ⟨g, off, none⟩) n cap, .string s]).run P w = .ok (.slice (some ⟨g, off, none⟩) (n + s.size) cap) (w.setCells g (off + n * 1) (strCells s)) := by
        simp only [Nat.mul_one] at hst ⊢
        simp [Builtin.append_, run_underlying ht, run_underlying hu, sizeOf, typeInfo, hi, hsize, Builtin.lenOf, hr, hf, Addr.add_lit, hst]
      obtain ⟨s1, s2⟩ := SL.setCells h (m := s.size) (news := strCells s) (by rw [strCells_length, Nat.mul_one]) hr
      exact ⟨_, _, _, hrun, s1, s2, fun k hk => .inl hk⟩
    · have hlen : xs.length = n * i.size := by rw [hsize]; exact h.1
      have hrun := run_append_grow_string (P := P) w t u ty e i (.int .u8 0) ht hu hi hz ⟨g, off, none⟩ n cap xs hlen (fun j u hj => by
        have hjl : j < xs.length := by
          rcases Nat.lt_or_ge j xs.length with h2 | h2
          · exact h2
          · rw [List.getElem?_eq_none h2] at hj; cases hj
        rw [Addr.add_lit, cell_of_row w g _ _ _ _ hg, ← Array.getElem?_toList, ← List.getElem?_drop]
        rw [← hx, List.getElem?_take, if_pos (by rw [h.1] at hjl; exact hjl)] at hj
        exact hj) s (by omega) (by omega) (by
          rw [hby]
          exact growslice_fits (by omega) (by omega))
      refine ⟨_, _, _, hrun, SL.of_own (base := 0) ?_, ⟨rfl, rfl, rfl, by simp, fun k hk _ => Below.heap_alloc w.drew _ k hk⟩, fun k hk => .inr (by
        have : w.heap.size = k := by simpa [Value.ownBlock] using hk
        omega)⟩
      have hG : n + s.size ≤ grownCap w (n + s.size) cap e := grownCap_ge w _ _ _
      refine ⟨by rw [List.length_append, h.1, strCells_length]; omega, .inr ⟨w.heap.size, grownCap w (n + s.size) cap e, _, rfl, Nat.zero_le _, heap_alloc_new w.drew _, hG, grownCap_le_maxLen w _ _ _ hml, ?_, ?_⟩⟩
      · simp [Builtin.zeroCells, Value.cells, strCells_length, h.1]; omega
      · simp only [Array.toList_append]
        rw [List.append_assoc, ← List.append_assoc, Nat.mul_one]
        have : (xs ++ strCells s).length = n + s.size := by rw [List.length_append, h.1, strCells_length]; omega
        rw [← this, List.take_left']
        rfl
theorem wpList_append_str {w : World} {ops : Array Oper} {rest : List Oper} {o : Oper} {a : Act} {Q : Exit → Act → World → Prop} (hgd : o.guard = none) (sl x : Operand) (t u : TypeId)
    (ho : o.op = .call { callee := .builtin .append, args := #[sl, x], argTypes := #[t, u] })
    (e : TypeId) (i : TypeInfo) (ht : P.underlying t = some (.slice e)) (hu : P.underlying u = some .string) (hi : P.info? e = some i) (hz : i.zero = some (.int .u8 0)) (hsize : i.size = 1) (hby : i.bytes = 1)
    (v : Value) (n : Nat) (xs : List Value) (hs : a.eval sl = v) (hown : SL w e 1 v n xs) (s : ByteArray) (hx : a.eval x = .string s) (N : Nat) (ys : List Value) (hN : n + s.size = N) (hys : xs ++ strCells s = ys) (h63 : N ≤ 140737488355328)
    (h : ∀ A cap w', SL w' e 1 (.slice A N cap) N ys → w.grownBy w' v.ownBlock → (∀ k, (Value.slice A N cap).ownBlock = some k → v.ownBlock = some k ∨ w.heap.size ≤ k) → wpList P ops Q rest (a.put o.dst (.slice A N cap)) w') : wpList P ops Q (o :: rest) a w := by
  refine wpList_plain hgd fun K hK => ?_
  subst hN hys
  obtain ⟨A, cap, w', hr, h2, h3, h4⟩ := run_append_str (P := P) w t u o.type e i ht hu hi hz hsize hby v n xs hown s h63
  unfold Oper.wp execOp
  simp only [ho, resolve, invoke, builtin, Sem.run_bind, Sem.run_pure, Result.andThen_ok, List.map_toArray, List.map_cons, List.map_nil, hs, hx, hr]
  exact hK _ _ (h A cap w' h2 h3 h4)
end
/-- something was laid: these bytes -/
def LaidP (F : Nat → Prop) (w : World) (p : Nat) (ys : List Int) (e : Ending) (w' : World) : Prop := e = .returned (.int .i64 0) ∧ WL 27 F w' p ys ∧ Touch F w w'
theorem laid_of {F : Nat → Prop} {w w3 : World} {p n c3 : Nat} {v : Value} {A3 : Option Addr} {xs ys : List Int} {vs : List Value} (h : WrAt 27 F w p v xs) (hF : ∀ k, w.heap.size ≤ k → F k) (hn : n = ys.length) (hvs : vs = by8 ys)
    (hs3 : SL w3 5 1 (.slice A3 n c3) n vs) (hg3 : w.grownBy w3 v.ownBlock) (ho3 : ∀ k, (Value.slice A3 n c3).ownBlock = some k → v.ownBlock = some k ∨ w.heap.size ≤ k) :
    (w3.heap[p]? = some (.cells #[v] 27 (0, 0))) ∧ WL 27 F (w3.setCell ⟨p, 0, none⟩ (.slice A3 n c3)) p ys ∧ Touch F w (w3.setCell ⟨p, 0, none⟩ (.slice A3 n c3)) := by
  subst hn hvs
  have hp3 : w3.heap[p]? = some (.cells #[v] 27 (0, 0)) := (hg3.block p (blk_lt h.head) (fun e => h.ne (by decide) p e.symm rfl)).trans h.head
  refine ⟨hp3, ⟨_, WrAt.put hp3 (by decide) hs3 h.fp (fun k hk => ?_)⟩, ((Touch.refl F w).grown hg3 (fun k hk => .inl (h.fv k hk))).setCell (p := ⟨p, 0, none⟩) (.inl h.fp) _⟩
  rcases ho3 k hk with h1 | h1
  · exact h.fv k h1
  · exact hF k h1
set_option maxRecDepth 100000 in
set_option maxHeartbeats 1000000 in
theorem raw_w {F : Nat → Prop} {w : World} {p : Nat} {xs ys : List Int} {u : Value} (h : WL 27 F w p xs) (hF : ∀ k, w.heap.size ≤ k → F k) (hl : xs.length ≤ 100000000) (hu : RB w u ys) (hy : ys.length ≤ 100000000) :
    Calls Try.prog 14 #[.pointer (some ⟨p, 0, none⟩), u] w (LaidP F w p (xs ++ ys)) := by
  obtain ⟨v, h⟩ := h
  obtain ⟨A, c, rfl, hc⟩ := h.bs.form
  obtain ⟨B, d, rfl, hd⟩ := hu.form
  obtain ⟨i0, hi, hz0, hz1, hz2⟩ := info_parts info5
  have e0 := h.cell
  have hp := blk_lt h.head
  have HH := hid h
  have HF := hid hF
  have HU := hid hu
  have hone := by8_one ys
  have h63 : xs.length + ys.length ≤ maxLen := by simp only [maxLen]; omega
  have hby : (xs.length + ys.length) * 1 ≤ 140737488355328 := by omega
  have HLn : Hid ((xs ++ ys).length = xs.length + ys.length) := hid List.length_append
  clear h hF hu
  go_enter Try.func14, Try.ntmps14
  go_wp2_with (at_builtin; refine wpList_append_SRs rfl _ _ _ rfl 5 i0 _ 1 Try.underlying25 hi hz0 hz1 hz2 rfl (.slice A xs.length c) xs.length (by8 xs) rfl HH.out.bs _ ys.length (by8 ys) rfl HU.out hone (xs.length + ys.length) (by8 xs ++ by8 ys) rfl rfl h63 hby ?_; intro A3 c3 w3 hs3 hg3 ho3; obtain ⟨hp3, hw3, ht3⟩ := laid_of (ys := xs ++ ys) HH.out HF.out HLn.out.symm (by8_append xs ys).symm hs3 hg3 ho3; have e3 : w3.cell? ⟨p, 0, none⟩ = some (.slice A xs.length c) := (by rw [cell_of_row _ p 0 _ _ _ hp3]; rfl); have f3 := frozen_of_row w3 p 0 _ _ hp3; have HW3 := hid hw3; have HT3 := hid ht3; clear hs3 hg3 ho3 hp3 hw3 ht3)
  go_ret
  exact ⟨rfl, HW3.out, HT3.out⟩
set_option maxRecDepth 100000 in
set_option maxHeartbeats 1000000 in
theorem bytes_w {F : Nat → Prop} {w : World} {p : Nat} {xs : List Int} (h : WL 27 F w p xs) (hl : xs.length ≤ 140737488351232) :
    Calls Try.prog 18 #[.pointer (some ⟨p, 0, none⟩)] w (NewB xs w) := by
  obtain ⟨v, h⟩ := h
  obtain ⟨A, c, rfl, hc⟩ := h.bs.form
  have e0 := h.cell
  have HH := hid h
  clear h
  go_enter Try.func18, Try.ntmps18
  go_wp2_with (go_at_call 34; refine (clone_any HH.out.bs.rb hl).mono ?_; rintro e w2 ⟨A2, c2, rfl, hb2, ho2, hw2⟩; have HB2 := hid hb2; have HO2 := hid ho2; have HW2 := hid hw2; clear hb2 ho2 hw2)
  go_ret
  exact ⟨A2, c2, rfl, HB2.out, HO2.out, HW2.out⟩
def TextP (F : Nat → Prop) (w : World) (p : Nat) (xs : List Int) (s : ByteArray) (e : Ending) (w' : World) : Prop :=
  (1048576 < s.size → e = .returned (.int .i64 5) ∧ w = w') ∧ (s.size ≤ 1048576 → e = .returned (.int .i64 0) ∧ WL 27 F w' p (xs ++ encN s.size ++ bytesS s) ∧ Touch F w w')
set_option maxRecDepth 100000 in
set_option maxHeartbeats 2000000 in
theorem text_w {F : Nat → Prop} {w : World} {p : Nat} {xs : List Int} (h : WL 27 F w p xs) (hF : ∀ k, w.heap.size ≤ k → F k) (hl : xs.length ≤ 90000000) (s : ByteArray) (hs63 : s.size ≤ 9223372036854775807) :
    Calls Try.prog 12 #[.pointer (some ⟨p, 0, none⟩), .string s] w (TextP F w p xs s) := by
  by_cases hs : 1048576 < s.size
  · have hs2 : (1048576 : Int) < (s.size : Int) := by omega
    go_enter Try.func12, Try.ntmps12
    go_wp2
    go_ret
    exact ⟨fun _ => ⟨rfl, rfl⟩, fun h => by omega⟩
  · have hs2 : (s.size : Int) ≤ 1048576 := by omega
    have HH := hid h
    have HF := hid hF
    obtain ⟨i0, hi, hz0, hz1, hz2⟩ := info_parts info5
    have hl2 : xs.length ≤ 100000000 := by omega
    have hm5 := encN_five (n := s.size) (by omega)
    clear h hF
    go_enter Try.func12, Try.ntmps12
    go_wp2_with fail
    refine (num_w HH.out HF.out hl2 _).mono ?_
    rintro e w2 ⟨-, hp⟩
    obtain ⟨rfl, ⟨v2, hw2⟩, ht2⟩ := hp (by omega) (by omega)
    rw [Int.toNat_natCast] at hw2
    obtain ⟨A, c, rfl, hc⟩ := hw2.bs.form
    have e2 := hw2.cell
    have HW2 := hid hw2
    have HT2 := hid ht2
    have HF2 : Hid (∀ k, w2.heap.size ≤ k → F k) := hid (fun k hk => HF.out k (Nat.le_trans HT2.out.size hk))
    obtain ⟨zs, hzs⟩ : ∃ zs, xs ++ encN s.size = zs := ⟨_, rfl⟩
    rw [hzs] at HW2 e2
    have hzl : zs.length ≤ 90000005 := by rw [← hzs, List.length_append]; omega
    rw [hzs] at hc
    have HZS := hid hzs
    have h63 : zs.length + s.size ≤ 140737488355328 := by omega
    have HLn : Hid (zs.length + s.size = (zs ++ bytesS s).length) := hid (by rw [List.length_append, bytesS_length])
    have HBn : Hid (by8 zs ++ strCells s = by8 (zs ++ bytesS s)) := hid (by rw [by8_append, bytesS_cells])
    clear hp hw2 ht2 hzs hm5
    go_wp2_with (at_builtin; refine wpList_append_str rfl _ _ 25 9 rfl 5 i0 Try.underlying25 Try.underlying9 hi hz0 hz1 hz2 (.slice A zs.length c) zs.length (by8 zs) rfl HW2.out.bs s rfl (zs.length + s.size) (by8 zs ++ strCells s) rfl rfl h63 ?_; intro A3 c3 w3 hs3 hg3 ho3; obtain ⟨hp3, hw3, ht3⟩ := laid_of (ys := zs ++ bytesS s) HW2.out HF2.out HLn.out HBn.out hs3 hg3 ho3; have e3 : w3.cell? ⟨p, 0, none⟩ = some (.slice A zs.length c) := (by rw [cell_of_row _ p 0 _ _ _ hp3]; rfl); have f3 := frozen_of_row w3 p 0 _ _ hp3; have HW3 := hid hw3; have HT3 := hid ht3; clear hs3 hg3 ho3 hp3 hw3 ht3)
    go_ret
    exact ⟨fun h => by omega, fun _ => ⟨rfl, by rw [HZS.out]; exact HW3.out, HT2.out.trans HT3.out (fun k hk => .inl hk)⟩⟩
end Go.Proofs.Ytlonmjmjmnondaa
