/- A number's bytes: the iterator, and the library's AppendSeq over it. -/
import Derived.Test.YtlonmjmjmnondaaBw
import Derived.Test.YtlonmjmjmnondaaBb
import Derived.Laws.BitsLemmas
namespace Go.Proofs.Ytlonmjmjmnondaa
set_option linter.unusedVariables false
set_option linter.unusedSimpArgs false
open Go.RowKit Go.Shelf
attribute [local go_sem] Oper.semAt_some
/-- a number's bytes -/
def encN (n : Nat) : List Int := if n < 128 then [(n : Int)] else ((n % 128 + 128 : Nat) : Int) :: encN (n / 128)
termination_by n
decreasing_by omega
theorem encN_lt {n : Nat} (h : n < 128) : encN n = [(n : Int)] := by rw [encN, if_pos h]
theorem encN_ge {n : Nat} (h : 128 ≤ n) : encN n = ((n % 128 + 128 : Nat) : Int) :: encN (n / 128) := by rw [encN, if_neg (by omega)]
theorem encN_length : ∀ (k n : Nat), n < 128 ^ k → 0 < k → (encN n).length ≤ k
  | 0, _, _, h => absurd h (by omega)
  | k + 1, n, h, _ => by
    by_cases hn : n < 128
    · rw [encN_lt hn]; simp
    · rw [encN_ge (by omega), List.length_cons]
      have hk : 0 < k := by
        rcases Nat.eq_zero_or_pos k with rfl | hk
        · simp at h; omega
        · exact hk
      have := encN_length k (n / 128) (by rw [Nat.pow_succ] at h; omega) hk
      omega
theorem encN_pos (n : Nat) : 0 < (encN n).length := by
  by_cases hn : n < 128
  · rw [encN_lt hn]; simp
  · rw [encN_ge (by omega)]; simp
theorem encN_five {n : Nat} (h : n ≤ 1073741824) : (encN n).length ≤ 5 := encN_length 5 n (by omega) (by omega)
theorem encN_bytes : ∀ (k n : Nat), n < 128 ^ k → ∀ x ∈ encN n, 0 ≤ x ∧ x ≤ 255
  | 0, n, h, x, hx => by
    obtain rfl : n = 0 := by simpa using h
    rw [encN_lt (by omega)] at hx
    simp at hx; omega
  | k + 1, n, h, x, hx => by
    by_cases hn : n < 128
    · rw [encN_lt hn] at hx
      simp at hx; omega
    · rw [encN_ge (by omega)] at hx
      rcases List.mem_cons.1 hx with rfl | hx
      · omega
      · exact encN_bytes k (n / 128) (by rw [Nat.pow_succ] at h; omega) x hx
theorem or128 (m : Nat) : bits BinOp.or IntKind.u8 ((m : Int) % 256) 128 = ((m % 128 + 128 : Nat) : Int) := by
  have key : ∀ x : Fin 256, bits BinOp.or IntKind.u8 ((x.val : Nat) : Int) 128 = ((x.val % 128 + 128 : Nat) : Int) := by decide +kernel
  have h := key ⟨m % 256, by omega⟩
  simp only at h
  rw [show ((m : Int) % 256) = ((m % 256 : Nat) : Int) by omega, h]
  omega
/-- the number in box b -/
def boxN (w : World) (b : Nat) : Nat := match w.cell? ⟨b, 0, none⟩ with
  | some (.int _ x) => x.toNat
  | _ => 0
theorem boxN_of {w : World} {b m : Nat} {t : TypeId} {k : IntKind} (h : w.heap[b]? = some (.cells #[.int k (m : Int)] t (0, 0))) : boxN w b = m := by
  unfold boxN
  rw [cell_of_row w b 0 _ _ _ h]
  rfl
set_option maxRecDepth 100000 in
set_option maxHeartbeats 2000000 in
theorem digits1_in (F : Fence) (n : Nat) (h39 : F.fn 39) (hro : F.round = none) (hn : 1 ≤ n) (l Bn : Nat) (G : Nat → Prop) (hGB : ¬ G Bn) (m0 : Nat) (hm0 : m0 ≤ 1073741824) (J : List Int → World → Prop)
    (hJw : ∀ s W v, J s W → J s (W.setCell ⟨Bn, 0, none⟩ v))
    (hY : ∀ pre x W, J pre W → pre.length < 5 → YieldAt F (n - 1) Try.prog l #[.int .u8 x] W fun e W' => e = .returned (.bool true) ∧ J (pre ++ [x]) W' ∧ Touch G W W')
    (W : World) (hBn : W.heap[Bn]? = some (.cells #[.int .i64 (m0 : Int)] 3 (0, 0))) (h0 : J [] W) :
    CallsIn F n Try.prog 39 #[.func (.yield l) #[] #[], .pointer (some ⟨Bn, 0, none⟩)] W fun e W' => (∃ v, e = .returned v) ∧ ∃ xs, xs = encN m0 ∧ J xs W' := by
  have HBn := hid hBn
  have hm5 := encN_five hm0
  clear hBn
  refine callsIn_of_wp Try.func39 rfl h39 ?_ hro
  simp only [Try.ntmps39, List.size_toArray, List.length_cons, List.length_nil, Nat.reduceAdd, Nat.reduceSub, Array.replicate_succ, Array.replicate_zero, List.push_toArray, List.append_toArray, List.nil_append, List.cons_append]
  gi_wp2
  gi_loopw [] (fun wr => ∃ (m : Nat) (pre : List Int), Hid (wr.heap[Bn]? = some (.cells #[.int .i64 (m : Int)] 3 (0, 0))) ∧ J pre wr ∧ Hid (pre ++ encN m = encN m0) ∧ m ≤ 1073741824) (fun wr => boxN wr Bn)
  case atStart => exact ⟨m0, [], HBn, h0, hid rfl, hm0⟩
  case round =>
    obtain ⟨m, pre, HB, hJ, HE, hm⟩ := hrel
    clear HBn
    have hc : wr.cell? ⟨Bn, 0, none⟩ = some (.int .i64 (m : Int)) := by rw [cell_of_row wr Bn 0 _ _ _ HB.out]; rfl
    have hf := frozen_of_row wr Bn 0 _ _ HB.out
    have hp5 : pre.length < 5 := by
      have h1 := congrArg List.length HE.out
      rw [List.length_append] at h1
      have := encN_pos m
      omega
    by_cases hge : 128 ≤ m
    · have hge2 : (128 : Int) ≤ (m : Int) := by omega
      obtain ⟨fn, tmps, assign, body, hy, hR⟩ := hY pre (bits BinOp.or IntKind.u8 ((m : Int) % 256) 128) wr hJ hp5
      gi_wp2
      refine hR.mono ?_
      rintro e W3 ⟨rfl, hJ3, hk3⟩
      rw [or128] at hJ3
      have hB3 := (hk3.block Bn (blk_lt HB.out) hGB).trans HB.out
      have hc3 : W3.cell? ⟨Bn, 0, none⟩ = some (.int .i64 (m : Int)) := by rw [cell_of_row W3 Bn 0 _ _ _ hB3]; rfl
      have hf3 := frozen_of_row W3 Bn 0 _ _ hB3
      have HB3 := hid hB3
      clear hB3 hy hR
      gi_wp2
      have hdv : (m : Int) / 128 = ((m / 128 : Nat) : Int) := by omega
      have hS3 : (W3.setCell ⟨Bn, 0, none⟩ (.int .i64 ((m : Int) / 128))).heap[Bn]? = some (.cells #[.int .i64 ((m / 128 : Nat) : Int)] 3 (0, 0)) := by rw [← hdv]; exact heap_setCell_same _ Bn 0 _ _ _ HB3.out
      have hm1 := boxN_of hS3
      have hm2 := boxN_of HB.out
      go_roundw
      case rel => exact ⟨m / 128, pre ++ [((m % 128 + 128 : Nat) : Int)], hid hS3, hJw _ _ _ hJ3, hid (by rw [← HE.out, encN_ge hge, List.append_assoc]; rfl), by omega⟩
      case measure => rw [hm1, hm2]; omega
    · have hge2 : (m : Int) < 128 := by omega
      obtain ⟨fn, tmps, assign, body, hy, hR⟩ := hY pre (m : Int) wr hJ hp5
      gi_wp2
      refine ⟨(fun f h => by cases h), ?_⟩
      gi_wp2
      refine hR.mono ?_
      rintro e W3 ⟨rfl, hJ3, hk3⟩
      have HE3 : Hid (pre ++ [(m : Int)] = encN m0) := hid (by rw [← HE.out, encN_lt (by omega)])
      clear hy hR
      gi_wp2
      go_end0
      exact ⟨⟨_, rfl⟩, _, HE3.out, hJ3⟩
/-- what digits hands back, as the loop's law asks it -/
theorem digits_seq (F : Fence) (n : Nat) (h39 : F.fn 39) (hro : F.round = none) (hn : 1 ≤ n) (Bn : Nat) (G : Nat → Prop) (hGB : ¬ G Bn) (m0 : Nat) (hm0 : m0 ≤ 1073741824) (w : World)
    (hB : w.heap[Bn]? = some (.cells #[.int .i64 (m0 : Int)] 3 (0, 0))) :
    SeqW F n Try.prog 39 #[.pointer (some ⟨Bn, 0, none⟩)] (fun x : Int => #[Value.int .u8 x]) (Touch G) Bn (fun ys => ys = encN m0) 5 w := fun l J W hW hJw hY h0 =>
  digits1_in F n h39 hro hn l Bn G hGB m0 hm0 J hJw hY W ((hW.block Bn (blk_lt hB)).trans hB) h0
set_option maxRecDepth 100000 in
set_option maxHeartbeats 1000000 in
/-- digits(n): n is boxed; the function value captures the box -/
theorem digits_in (F : Fence) (n : Nat) (h33 : F.fn 33) (hro : F.round = none) (m : Int) (w : World) :
    CallsIn F n Try.prog 33 #[.int .i64 m] w fun e w' => e = .returned (.func (.func 39) #[] #[.pointer (some ⟨w.heap.size, 0, none⟩)]) ∧ w' = w.alloc (.cells #[.int .i64 m] 3) := by
  refine callsIn_of_wp Try.func33 rfl h33 ?_ hro
  simp only [Try.ntmps33, List.size_toArray, List.length_cons, List.length_nil, Nat.reduceAdd, Nat.reduceSub, Array.replicate_succ, Array.replicate_zero, List.push_toArray, List.append_toArray, List.nil_append, List.cons_append]
  gi_wp2
  go_ret
  exact ⟨rfl, rfl⟩
section
variable {F : Fence} {n : Nat} {P : Program}
theorem wpListIn_append_SLs {w : World} {ops : Array Oper} {rest : List Oper} {o : Oper} {a : Act} {Q : Exit → Act → World → Prop} (hgd : o.guard = none) (s x : Operand) (t : TypeId)
    (ho : o.op = .call { callee := .builtin .append, args := #[s, x], argTypes := #[t, t] })
    (e : TypeId) (i : TypeInfo) (z : Value) (size bytes : Nat) (ht : P.underlying t = some (.slice e)) (hi : P.info? e = some i) (hz : i.zero = some z)
    (hsize : i.size = size) (hby : i.bytes = bytes) (hzs : z.cells.size = size) (hsz : 0 < size)
    (v : Value) (k : Nat) (xs : List Value) (hs : a.eval s = v) (hown : SL w e size v k xs)
    (u : Value) (m : Nat) (news : List Value) (hx : a.eval x = u) (hu : SL w e size u m news) (h1 : ∀ u ∈ news, u.oneCell' = true)
    (N : Nat) (ys : List Value) (hN : k + m = N) (hys : xs ++ news = ys) (h63 : N ≤ maxLen) (hbytes : N * bytes ≤ 140737488355328)
    (h : ∀ A cap w', SL w' e size (.slice A N cap) N ys → w.grownBy w' v.ownBlock → (∀ k, (Value.slice A N cap).ownBlock = some k → v.ownBlock = some k ∨ w.heap.size ≤ k) → wpListIn F n P ops Q rest (a.put o.dst (.slice A N cap)) w') : wpListIn F n P ops Q (o :: rest) a w := by
  refine wpListIn_plain hgd fun K hK' => ?_
  subst hN hys
  obtain ⟨A, cap, w', hrun, h2, h3, h4⟩ := run_append_SLs (P := P) w t o.type e i z size bytes ht hi hz hsize hby hzs hsz v k xs hown u m news hu h1 h63 hbytes
  unfold Oper.wpIn
  refine ⟨?_, ?_⟩
  · simp [Oper.about, ho, resolve, Target.leads, Sem.run_pure]
  · rw [Oper.semAt_plain F _ _ (by rw [ho]; intro c hc'; cases hc')]
    simp [execOp, ho, resolve, invoke, builtin, hs, hx, hrun, Result.andThen]
    exact hK' _ _ (h A cap w' h2 h3 h4)
end
end Go.Proofs.Ytlonmjmjmnondaa
