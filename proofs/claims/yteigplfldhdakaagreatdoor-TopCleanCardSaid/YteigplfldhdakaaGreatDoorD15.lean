/- rule: Learn. -/
import Derived.Test.YteigplfldhdakaaGreatDoorD14
import Derived.Test.YteigplfldhdakaaGreatDoorD01
import Derived.Laws.Strings
import Derived.Laws.Slices
import Derived.Laws.BytesString
set_option linter.unusedVariables false
set_option linter.unusedSimpArgs false
namespace Go.Proofs.YteigplfldhdakaaGreatDoor
open Go.RowKit Go.Shelf
attribute [local go_sem ↓] Go.wp_at_zero Go.wp_at_succ
theorem pw_lt {M : List Blk} (hs : srtd M) (ha : M.Pairwise apart) : M.Pairwise ltP := by
  rw [List.pairwise_iff_getElem] at ha ⊢
  intro i j hi hj hij
  have h1 := hs i j hij hj
  have h2 := ha i j hi hj hij
  rw [getD_at hi, getD_at hj] at h1
  by_cases h3 : ltP M[i] M[j]
  · exact h3
  · exact absurd (ltP_total h3 h1) h2
theorem costV_fit {t k n : Int} (h : ¬ Lc.NoCost t k n) : 1 ≤ Lc.costV t k n ∧ Lc.costV t k n ≤ 255 := by
  rw [Lc.costV_yes h]
  omega
/-- a lawful table -/
structure TabOk (M : List Blk) : Prop where
  sides : ∀ b ∈ M, sideOk b.1 b.2.1
  small : ∀ b ∈ M, smallB b
  pos : posC M
  tot : totB M ≤ 1073741824
  len : M.length ≤ 4096
  lt : M.Pairwise ltP
theorem makeR_mem {M : List Blk} {n : Int} {b : Blk} : b ∈ makeR M n ↔ ∃ x ∈ M, n ≤ x.2.2 ∧ b = (x.1, x.2.1, Lc.costV (totB M) M.length x.2.2) := by
  unfold makeR makeG ruleOf
  rw [List.mem_map]
  constructor
  · rintro ⟨x, hx, rfl⟩
    rw [List.mem_filter] at hx
    exact ⟨x, hx.1, of_decide_eq_true hx.2, rfl⟩
  · rintro ⟨x, hx, hn, rfl⟩
    exact ⟨x, List.mem_filter.2 ⟨hx, decide_eq_true hn⟩, rfl⟩
theorem TabOk.cost {M : List Blk} (h : TabOk M) {x : Blk} (hx : x ∈ M) : ¬ Lc.NoCost (totB M) M.length x.2.2 := by
  have h1 := le_totB h.pos x hx
  have h2 := h.pos x hx
  have h3 := h.tot
  have h4 := h.len
  have h5 := List.length_pos_of_mem hx
  unfold Lc.NoCost
  omega
theorem TabOk.rules {M : List Blk} (h : TabOk M) (n : Int) : (∀ b ∈ makeR M n, rokB b) ∧ srtR (makeR M n) ∧ (makeR M n).length ≤ 4096 := by
  refine ⟨fun b hb => ?_, fun i j hij hj => ?_, Nat.le_trans (makeG_len _ _ _ _) h.len⟩
  · obtain ⟨x, hx, _, rfl⟩ := makeR_mem.1 hb
    have hc := costV_fit (h.cost hx)
    refine ⟨(chkB_iff _).2 ⟨h.sides x hx, (by show (1 : Int) ≤ 1; decide), (by show (1 : Int) ≤ 1073741824; decide)⟩, hc.1, hc.2, ?_⟩
    have := h.small x hx
    exact this
  · have hp : (makeR M n).Pairwise ltP := by
      unfold makeR makeG
      rw [List.pairwise_map]
      exact (h.lt.filter _).imp fun {a b} h => h
    rw [List.pairwise_iff_getElem] at hp
    have := hp i j (by omega) hj hij
    rw [getD_at (by omega), getD_at hj]
    exact (cmpB_neg _ _).2 this
/-- what Learn hands back -/
def LearnP (L : List (ByteArray × ByteArray)) (n : Int) (w : World) (e : Ending) (w' : World) : Prop :=
  Below w.heap.size w w' ∧ ((∃ q, q ≠ 0 ∧ e = .returned (.tuple #[.slice none 0 0, .int .i64 q])) ∨
    (prE L = 0 ∧ ∃ M, TabOk M ∧ M.Perm (tabL (prM L)) ∧ ∃ A c, e = .returned (.tuple #[.slice A (makeR M n).length c, .int .i64 0]) ∧ RuS w' (.slice A (makeR M n).length c) (makeR M n)))
/-- what Pairs hands back, said of the table -/
theorem pairs_t {w : World} {v : Value} {L : List (ByteArray × ByteArray)} (h : PrS w v L) (hs : smallP L) (hT : Tab w) : Calls Tryz.prog 8 #[v] w fun e w' => Below w.heap.size w w' ∧ ((∃ q, q ≠ 0 ∧ e = .returned (.tuple #[.slice none 0 0, .int .i64 q])) ∨
    (prE L = 0 ∧ ∃ M, TabOk M ∧ chkC M = 0 ∧ M.Perm (tabL (prM L)) ∧ ∃ A c, e = .returned (.tuple #[.slice A M.length c, .int .i64 0]) ∧ BlS w' (.slice A M.length c) M)) :=
  (pairs_c h hs hT).mono fun e w' hq => by
    rcases hq with ⟨_, h1, h2⟩ | ⟨_, h0, h1, h2⟩ | ⟨_, h0, hsm, h1, h2⟩
    · exact ⟨h2, .inl ⟨6, by decide, h1⟩⟩
    · exact ⟨h2, .inl ⟨_, h0, h1⟩⟩
    · rcases h2 with ⟨h2, h3⟩ | ⟨_, _, h3⟩ | ⟨h2, h3, h4, A, c, M', h5, h6, h7, h8, _⟩
      · exact ⟨h1, .inl ⟨_, h2, h3⟩⟩
      · exact ⟨h1, .inl ⟨6, by decide, h3⟩⟩
      · obtain ⟨s, hs⟩ : ∃ s, sumG 0 (prM L) = some s := by
          cases hq : sumG 0 (prM L) with
          | none => exact absurd hq h3
          | some s => exact ⟨s, rfl⟩
        obtain ⟨k1, k2, k3, k4⟩ := table_ok h2 hs h4 h6 h7
        have hsum := sumG_some k2
        have hap : M'.Pairwise apart := (h6.pairwise_iff (fun h => apart_symm h)).2 (apart_fold _ _ List.Pairwise.nil)
        have hea := eachB_all (chkC_zero k1).1
        refine ⟨h1, .inr ⟨h0, M', ⟨fun b hb => ((chkB_iff b).1 (hea b hb)).1, table_small hsm h6, k3, ?_, k4, pw_lt h7 hap⟩, k1, h6, A, c, h5, h8⟩⟩
        have := hsum.2 (by omega)
        omega
set_option maxRecDepth 100000 in
set_option maxHeartbeats 4000000 in
theorem learn_c {w : World} {v : Value} {L : List (ByteArray × ByteArray)} (h : PrS w v L) (hs : smallP L) (hT : Tab w) (n : Int) (hn : 1 ≤ n ∧ n ≤ 1073741824) : Calls Tryz.prog 19 #[v, .int .i64 n] w (LearnP L n w) := by
  have hp := pairs_t h hs hT
  obtain ⟨a, c, rfl, -⟩ := h
  have HP := hid hp
  have HT := hid hT
  clear hp hT
  go_enter Tryz.func19, Tryz.ntmps19
  go_wp2_with (first
    | (go_at_call 8; refine HP.out.mono ?_; rintro e w1 ⟨hb1, ⟨q, hq, rfl⟩ | ⟨h0, M, hM, hc0, hp1, A, c1, rfl, hB⟩⟩)
    | (go_at_call 10; have HB1 := hid hb1; refine (make_c hB hM.small (HT.out.bel HB1.out) (by have := hM.len; omega) n (by omega)).mono ?_; rintro e w2 ⟨hb2, ⟨k1, _⟩ | ⟨_, k1, _⟩ | ⟨_, _, _, A2, c2, rfl, k2, _⟩⟩))
  · have hqb : (q != 0) = true := by rw [bne_iff_ne]; exact hq
    go_wp2
    go_ret2
    exact ⟨hb1, .inl ⟨q, hq, rfl⟩⟩
  · go_ret2
    exact ⟨bthen HB1.out hb2, .inr ⟨h0, M, hM, hp1, A2, c2, rfl, k2⟩⟩
end Go.Proofs.YteigplfldhdakaaGreatDoor
/- A map from [2]string to numbers: its laws, said of the entries themselves. -/
namespace Go.Proofs.YteigplfldhdakaaGreatDoor
open Go.RowKit Go.Shelf
end Go.Proofs.YteigplfldhdakaaGreatDoor
/- A run over memory whose places are not known: values and blocks as they are reckoned with, and what they stand for. -/
namespace Go.Proofs.YteigplfldhdakaaGreatDoor.Ev
open Go Go.RowKit
/-- a value without a place -/
inductive FV where
  | bool (b : Bool) | int (k : IntKind) (n : Int) | str (l : List UInt8) | nilp | nils | nilm | nilf | nili | fn (f : Nat)
  deriving DecidableEq
def FV.val : FV → Value
  | .bool b => .bool b
  | .int k n => .int k n
  | .str l => .string ⟨⟨l⟩⟩
  | .nilp => .pointer none
  | .nils => .slice none 0 0
  | .nilm => .map none
  | .nilf => .nilFunc
  | .nili => .nilIface
  | .fn f => .func (.func f) #[] #[]
/-- what lies in one cell -/
inductive SV where
  | f (x : FV)
  | pt (b o : Nat)
  | sl (b o n : Nat) (c : Option Nat) (z : Nat)
  | se (b z : Nat)
  | mp (b : Nat)
  | cl (f : Nat) (cs : List Nat)
  | yl (l : Nat)
  deriving DecidableEq
inductive AV where
  | sc (x : SV)
  | ag (xs : List SV)
  | tu (ys : List (Bool × List SV))
  | top
  deriving DecidableEq
/-- where a block lies: the memory's block, from which cell on, how many cells that has -/
abbrev Pl := Nat → Option (Nat × Nat × Nat)
def All2 {α β : Type} (R : α → β → Prop) : List α → List β → Prop
  | [], [] => True
  | x :: xs, y :: ys => R x y ∧ All2 R xs ys
  | _, _ => False
section
variable {α β : Type} {R R' : α → β → Prop}
theorem All2.len : ∀ {xs : List α} {ys : List β}, All2 R xs ys → xs.length = ys.length
  | [], [], _ => rfl
  | x :: xs, y :: ys, h => by simp [All2.len h.2]
  | [], _ :: _, h => h.elim
  | _ :: _, [], h => h.elim
theorem All2.mono (hm : ∀ x y, R x y → R' x y) : ∀ {xs : List α} {ys : List β}, All2 R xs ys → All2 R' xs ys
  | [], [], _ => trivial
  | x :: xs, y :: ys, h => ⟨hm _ _ h.1, All2.mono hm h.2⟩
  | [], _ :: _, h => h.elim
  | _ :: _, [], h => h.elim
theorem All2.get : ∀ {xs : List α} {ys : List β} (i : Nat) {x : α}, All2 R xs ys → xs[i]? = some x → ∃ y, ys[i]? = some y ∧ R x y
  | x :: xs, y :: ys, 0, _, h, e => ⟨y, rfl, by cases e; exact h.1⟩
  | x :: xs, y :: ys, i + 1, _, h, e => by
    obtain ⟨u, h1, h2⟩ := All2.get i h.2 (by simpa using e)
    exact ⟨u, by simpa using h1, h2⟩
  | [], _, _, _, _, e => by simp at e
  | _ :: _, [], _, _, h, _ => h.elim
theorem All2.get' : ∀ {xs : List α} {ys : List β} (i : Nat) {y : β}, All2 R xs ys → ys[i]? = some y → ∃ x, xs[i]? = some x ∧ R x y
  | x :: xs, y :: ys, 0, _, h, e => ⟨x, rfl, by cases e; exact h.1⟩
  | x :: xs, y :: ys, i + 1, _, h, e => by
    obtain ⟨u, h1, h2⟩ := All2.get' i h.2 (by simpa using e)
    exact ⟨u, by simpa using h1, h2⟩
  | _, [], _, _, _, e => by simp at e
  | [], _ :: _, _, _, h, _ => h.elim
theorem All2.set : ∀ {xs : List α} {ys : List β} (i : Nat) {x : α} {y : β}, All2 R xs ys → R x y → All2 R (xs.set i x) (ys.set i y)
  | [], [], _, _, _, _, _ => trivial
  | a :: xs, b :: ys, 0, x, y, h, e => ⟨e, h.2⟩
  | a :: xs, b :: ys, i + 1, x, y, h, e => ⟨h.1, All2.set i h.2 e⟩
  | [], _ :: _, _, _, _, h, _ => h.elim
  | _ :: _, [], _, _, _, h, _ => h.elim
theorem All2.app : ∀ {xs xs' : List α} {ys ys' : List β}, All2 R xs ys → All2 R xs' ys' → All2 R (xs ++ xs') (ys ++ ys')
  | [], _, [], _, _, h => h
  | x :: xs, _, y :: ys, _, h, h' => ⟨h.1, All2.app h.2 h'⟩
  | [], _, _ :: _, _, h, _ => h.elim
  | _ :: _, _, [], _, h, _ => h.elim
theorem All2.take : ∀ {xs : List α} {ys : List β} (n : Nat), All2 R xs ys → All2 R (xs.take n) (ys.take n)
  | _, _, 0, _ => by simp [All2]
  | [], [], n + 1, _ => by simp [All2]
  | x :: xs, y :: ys, n + 1, h => ⟨h.1, All2.take n h.2⟩
  | [], _ :: _, _ + 1, h => h.elim
  | _ :: _, [], _ + 1, h => h.elim
theorem All2.drop : ∀ {xs : List α} {ys : List β} (n : Nat), All2 R xs ys → All2 R (xs.drop n) (ys.drop n)
  | _, _, 0, h => by simpa using h
  | [], [], n + 1, _ => by simp [All2]
  | x :: xs, y :: ys, n + 1, h => All2.drop n h.2
  | [], _ :: _, _ + 1, h => h.elim
  | _ :: _, [], _ + 1, h => h.elim
theorem All2.rep {x : α} {y : β} (h : R x y) : ∀ n, All2 R (List.replicate n x) (List.replicate n y)
  | 0 => trivial
  | n + 1 => ⟨h, All2.rep h n⟩
theorem All2.of : ∀ {xs : List α} {ys : List β}, xs.length = ys.length → (∀ (i : Nat) (x : α) (y : β), xs[i]? = some x → ys[i]? = some y → R x y) → All2 R xs ys
  | [], [], _, _ => trivial
  | x :: xs, y :: ys, hl, h => ⟨h 0 x y rfl rfl, All2.of (by simpa using hl) fun i a b ha hb => h (i + 1) a b (by simpa using ha) (by simpa using hb)⟩
  | [], _ :: _, hl, _ => by simp at hl
  | _ :: _, [], hl, _ => by simp at hl
end
def RP (γ : Pl) (b : Nat) (u : Value) : Prop := ∃ B d S, γ b = some (B, d, S) ∧ u = .pointer (some ⟨B, d, none⟩)
def RS (γ : Pl) : SV → Value → Prop
  | .f x, u => u = x.val
  | .pt b o, u => ∃ B d S, γ b = some (B, d, S) ∧ u = .pointer (some ⟨B, d + o, none⟩)
  | .sl b o n c z, u => ∃ B d S c', γ b = some (B, d, S) ∧ u = .slice (some ⟨B, d + o, none⟩) n c' ∧ n ≤ c' ∧ (match c with | some c0 => c' = c0 ∧ d + o + c0 * z ≤ S | none => d + o + c' * z = S)
  | .se b z, u => ∃ B d S o' c', γ b = some (B, d, S) ∧ u = .slice (some ⟨B, o', none⟩) 0 c' ∧ (c' = 0 ∨ o' + c' * z = S)
  | .mp b, u => ∃ B d S, γ b = some (B, d, S) ∧ u = .map (some B)
  | .cl f cs, u => ∃ us : List Value, u = .func (.func f) #[] us.toArray ∧ All2 (RP γ) cs us
  | .yl l, u => ∃ B d S, γ l = some (B, d, S) ∧ u = .func (.yield B) #[] #[]
def RE (γ : Pl) : Bool × List SV → Value → Prop
  | (true, xs), u => ∃ us : List Value, u = .agg us.toArray ∧ All2 (RS γ) xs us
  | (false, xs), u => ∃ x, xs = [x] ∧ RS γ x u
def RA (γ : Pl) : AV → Value → Prop
  | .sc x, u => RS γ x u
  | .ag xs, u => ∃ us : List Value, u = .agg us.toArray ∧ All2 (RS γ) xs us
  | .tu ys, u => ∃ us : List Value, u = .tuple us.toArray ∧ All2 (RE γ) ys us
  | .top, _ => True
/-- more places are known -/
def Sub (γ γ' : Pl) : Prop := ∀ b x, γ b = some x → γ' b = some x
theorem Sub.refl (γ : Pl) : Sub γ γ := fun _ _ h => h
theorem Sub.trans {γ γ' γ'' : Pl} (h : Sub γ γ') (h' : Sub γ' γ'') : Sub γ γ'' := fun b x e => h' b x (h b x e)
theorem RP.mono {γ γ' : Pl} (h : Sub γ γ') {b : Nat} {u : Value} (hr : RP γ b u) : RP γ' b u := by
  obtain ⟨B, d, S, h1, h2⟩ := hr
  exact ⟨B, d, S, h _ _ h1, h2⟩
theorem RS.mono {γ γ' : Pl} (h : Sub γ γ') : ∀ {x : SV} {u : Value}, RS γ x u → RS γ' x u
  | .f _, _, hr => hr
  | .pt _ _, _, ⟨B, d, S, h1, h2⟩ => ⟨B, d, S, h _ _ h1, h2⟩
  | .sl _ _ _ _ _, _, ⟨B, d, S, c', h1, h2⟩ => ⟨B, d, S, c', h _ _ h1, h2⟩
  | .se _ _, _, ⟨B, d, S, o', c', h1, h2⟩ => ⟨B, d, S, o', c', h _ _ h1, h2⟩
  | .mp _, _, ⟨B, d, S, h1, h2⟩ => ⟨B, d, S, h _ _ h1, h2⟩
  | .cl _ _, _, ⟨us, h1, h2⟩ => ⟨us, h1, All2.mono (fun _ _ k => RP.mono h k) h2⟩
  | .yl _, _, ⟨B, d, S, h1, h2⟩ => ⟨B, d, S, h _ _ h1, h2⟩
theorem RE.mono {γ γ' : Pl} (h : Sub γ γ') : ∀ {x : Bool × List SV} {u : Value}, RE γ x u → RE γ' x u
  | (true, _), _, ⟨us, h1, h2⟩ => ⟨us, h1, All2.mono (fun _ _ k => RS.mono h k) h2⟩
  | (false, _), _, ⟨x, h1, h2⟩ => ⟨x, h1, RS.mono h h2⟩
theorem RA.mono {γ γ' : Pl} (h : Sub γ γ') : ∀ {x : AV} {u : Value}, RA γ x u → RA γ' x u
  | .sc _, _, hr => RS.mono h hr
  | .ag _, _, ⟨us, h1, h2⟩ => ⟨us, h1, All2.mono (fun _ _ k => RS.mono h k) h2⟩
  | .tu _, _, ⟨us, h1, h2⟩ => ⟨us, h1, All2.mono (fun _ _ k => RE.mono h k) h2⟩
  | .top, _, _ => trivial
theorem RS.one {γ : Pl} : ∀ {x : SV} {u : Value}, RS γ x u → u.oneCell' = true
  | .f x, _, rfl => by cases x <;> rfl
  | .pt _ _, _, ⟨_, _, _, _, h2⟩ => by rw [h2]; rfl
  | .sl _ _ _ _ _, _, ⟨_, _, _, _, _, h2, _⟩ => by rw [h2]; rfl
  | .se _ _, _, ⟨_, _, _, _, _, _, h2, _⟩ => by rw [h2]; rfl
  | .mp _, _, ⟨_, _, _, _, h2⟩ => by rw [h2]; rfl
  | .cl _ _, _, ⟨_, h2, _⟩ => by rw [h2]; rfl
  | .yl _, _, ⟨_, _, _, _, h2⟩ => by rw [h2]; rfl
theorem RS.cells {γ : Pl} {x : SV} {u : Value} (h : RS γ x u) : u.cells = #[u] := by
  have h1 := RS.one h
  cases u <;> first | rfl | (simp [Value.oneCell'] at h1)
/-- the cells that a value fills -/
def AV.cells : AV → Option (List SV)
  | .sc x => some [x]
  | .ag xs => some xs
  | .tu _ => none
  | .top => none
theorem RA.cells {γ : Pl} : ∀ {v : AV} {u : Value} {xs : List SV}, RA γ v u → v.cells = some xs → All2 (RS γ) xs u.cells.toList
  | .sc x, u, _, h, e => by
    cases e
    rw [RS.cells h]
    exact ⟨h, trivial⟩
  | .ag xs, u, _, ⟨us, h1, h2⟩, e => by
    cases e
    rw [h1]
    simpa [Value.cells] using h2
/-- what lies in a block -/
inductive AObj where
  | cells (ty : Nat) (L : List SV)
  | map (es : List ((Bool × List FV) × (Bool × List SV)))
  | loop (st : LoopState) (pend : Option Code) (fn : Nat) (tm : List AV) (params : Array Tmp) (assign body : Code) (df : Nat)
  | defs
  | mit (m : Nat) (since : Nat) (seen : List Nat) (stepped : Nat)
def keyVal : Bool × List FV → Value
  | (true, xs) => .agg (xs.map FV.val).toArray
  | (false, xs) => match xs with | [x] => x.val | _ => .tuple #[]
def entsR (γ : Pl) : Nat → List ((Bool × List FV) × (Bool × List SV)) → List MapEntry → Prop
  | _, [], [] => True
  | n, x :: xs, e :: es => (e.key = keyVal x.1 ∧ RE γ x.2 e.val ∧ e.born = n) ∧ entsR γ (n + 1) xs es
  | _, _, _ => False
def OR (γ : Pl) (w : World) (b : Nat) : AObj → Prop
  | .cells ty L => ∃ B d S C, γ b = some (B, d, S) ∧ w.heap[B]? = some (.cells C ty (0, 0)) ∧ C.size = S ∧ (d + L.length ≤ S ∧ (ty = 121 → d = 0 ∧ S = L.length)) ∧ ∀ i x, L[i]? = some x → ∃ u, C[d + i]? = some u ∧ RS γ x u
  | .map es => ∃ B d S es', γ b = some (B, d, S) ∧ w.heap[B]? = some (.map es' es.length) ∧ entsR γ 0 es es'.toList
  | .loop st pend fn tm params assign body df => ∃ B d S tmps D dd DS, γ b = some (B, d, S) ∧ γ df = some (D, dd, DS) ∧ w.heap[B]? = some (.loop { state := st, pending := pend, fn := fn, tmps := tmps, params := params, assign := assign, body := body, defers := D }) ∧ All2 (RA γ) tm tmps.toList
  | .defs => ∃ B d S, γ b = some (B, d, S) ∧ w.heap[B]? = some (.deferred (some []))
  | .mit m since seen stepped => ∃ B d S M d' S', γ b = some (B, d, S) ∧ γ m = some (M, d', S') ∧ d = 0 ∧ w.heap[B]? = some (.mapIter (some M) since seen.toArray stepped)
theorem entsR.mono {γ γ' : Pl} (h : Sub γ γ') : ∀ {n : Nat} {xs : List ((Bool × List FV) × (Bool × List SV))} {es : List MapEntry}, entsR γ n xs es → entsR γ' n xs es
  | _, [], [], _ => trivial
  | _, _ :: _, _ :: _, ⟨⟨h1, h2, h3⟩, h4⟩ => ⟨⟨h1, RE.mono h h2, h3⟩, entsR.mono h h4⟩
  | _, [], _ :: _, k => k.elim
  | _, _ :: _, [], k => k.elim
/-- the memory's block of a block -/
theorem OR.at_ {γ : Pl} {w : World} {b : Nat} : ∀ {o : AObj}, OR γ w b o → ∃ B d S, γ b = some (B, d, S) ∧ B < w.heap.size
  | .cells _ _, ⟨B, d, S, _, h1, h2, _⟩ => ⟨B, d, S, h1, (Array.getElem?_eq_some_iff.1 h2).1⟩
  | .map _, ⟨B, d, S, _, h1, h2, _⟩ => ⟨B, d, S, h1, (Array.getElem?_eq_some_iff.1 h2).1⟩
  | .loop _ _ _ _ _ _ _ _, ⟨B, d, S, _, _, _, _, h1, _, h2, _⟩ => ⟨B, d, S, h1, (Array.getElem?_eq_some_iff.1 h2).1⟩
  | .defs, ⟨B, d, S, h1, h2⟩ => ⟨B, d, S, h1, (Array.getElem?_eq_some_iff.1 h2).1⟩
  | .mit _ _ _ _, ⟨B, d, S, _, _, _, h1, _, _, h2⟩ => ⟨B, d, S, h1, (Array.getElem?_eq_some_iff.1 h2).1⟩
theorem OR.mono {γ γ' : Pl} {w w' : World} {b : Nat} (h : Sub γ γ') (hk : ∀ B d S, γ b = some (B, d, S) → w'.heap[B]? = w.heap[B]?) : ∀ {o : AObj}, OR γ w b o → OR γ' w' b o
  | .cells _ _, ⟨B, d, S, C, h1, h2, h3, h4, h5⟩ => ⟨B, d, S, C, h _ _ h1, (hk _ _ _ h1).trans h2, h3, h4, fun i x hx => let ⟨u, k1, k2⟩ := h5 i x hx; ⟨u, k1, RS.mono h k2⟩⟩
  | .map _, ⟨B, d, S, es', h1, h2, h3⟩ => ⟨B, d, S, es', h _ _ h1, (hk _ _ _ h1).trans h2, entsR.mono h h3⟩
  | .loop _ _ _ _ _ _ _ _, ⟨B, d, S, tmps, D, dd, DS, h1, h0, h2, h3⟩ => ⟨B, d, S, tmps, D, dd, DS, h _ _ h1, h _ _ h0, (hk _ _ _ h1).trans h2, All2.mono (fun _ _ k => RA.mono h k) h3⟩
  | .defs, ⟨B, d, S, h1, h2⟩ => ⟨B, d, S, h _ _ h1, (hk _ _ _ h1).trans h2⟩
  | .mit _ _ _ _, ⟨B, d, S, M, d', S', h1, h0, hd, h2⟩ => ⟨B, d, S, M, d', S', h _ _ h1, h _ _ h0, hd, (hk _ _ _ h1).trans h2⟩
/-- blocks that are lived in, and the next number -/
structure AS where
  H : List (Nat × AObj)
  nx : Nat
def fnd : List (Nat × AObj) → Nat → Option AObj
  | [], _ => none
  | (k, o) :: r, b => if k == b then some o else fnd r b
def ers : List (Nat × AObj) → Nat → List (Nat × AObj)
  | [], _ => []
  | (k, o) :: r, b => if k == b then r else (k, o) :: ers r b
def put : List (Nat × AObj) → Nat → AObj → List (Nat × AObj)
  | [], b, o' => [(b, o')]
  | (k, o) :: r, b, o' => if k == b then (k, o') :: r else (k, o) :: put r b o'
structure HR (γ : Pl) (s : AS) (w : World) : Prop where
  obj : ∀ b o, (b, o) ∈ s.H → OR γ w b o
  nod : (s.H.map (·.1)).Nodup
  inj : ∀ b b' x y, b ∈ s.H.map (·.1) → b' ∈ s.H.map (·.1) → b ≠ b' → γ b = some x → γ b' = some y → x.1 ≠ y.1
  nxt : ∀ k, s.nx ≤ k → γ k = none
def Im (γ : Pl) (s : AS) (k : Nat) : Prop := ∃ b d z, b ∈ s.H.map (·.1) ∧ γ b = some (k, d, z)
/-- what a piece of the run leaves alone -/
structure Fr (γ : Pl) (s : AS) (w : World) (γ' : Pl) (s' : AS) (w' : World) : Prop where
  sub : Sub γ γ'
  size : w.heap.size ≤ w'.heap.size
  keep : ∀ k, k < w.heap.size → ¬ Im γ s k → w'.heap[k]? = w.heap[k]?
  im : ∀ k, Im γ' s' k → Im γ s k ∨ w.heap.size ≤ k
  same : w'.os = w.os ∧ w'.tape = w.tape ∧ w'.output = w.output
  ids : ∀ k x, γ' k = some x → γ k = some x ∨ s.nx ≤ k
  nxle : s.nx ≤ s'.nx
theorem Fr.refl (γ : Pl) (s : AS) (w : World) : Fr γ s w γ s w := ⟨Sub.refl _, Nat.le_refl _, fun _ _ _ => rfl, fun _ h => .inl h, ⟨rfl, rfl, rfl⟩, fun _ _ h => .inl h, Nat.le_refl _⟩
theorem Fr.trans {γ γ1 γ2 : Pl} {s s1 s2 : AS} {w w1 w2 : World} (h : Fr γ s w γ1 s1 w1) (h' : Fr γ1 s1 w1 γ2 s2 w2) : Fr γ s w γ2 s2 w2 := by
  refine ⟨h.sub.trans h'.sub, Nat.le_trans h.size h'.size, fun k hk hn => ?_, fun k hk => ?_, ⟨h'.same.1.trans h.same.1, h'.same.2.1.trans h.same.2.1, h'.same.2.2.trans h.same.2.2⟩, fun k x hk => ?_, Nat.le_trans h.nxle h'.nxle⟩
  · have h1 : ¬ Im γ1 s1 k := fun hi => by
      rcases h.im k hi with h2 | h2
      · exact hn h2
      · omega
    exact (h'.keep k (Nat.lt_of_lt_of_le hk h.size) h1).trans (h.keep k hk hn)
  · rcases h'.im k hk with h1 | h1
    · exact h.im k h1
    · exact .inr (Nat.le_trans h.size h1)
  · rcases h'.ids k x hk with h1 | h1
    · exact h.ids k x h1
    · exact .inr (Nat.le_trans h.nxle h1)
theorem fnd_mem : ∀ {H : List (Nat × AObj)} {b : Nat} {o : AObj}, fnd H b = some o → (b, o) ∈ H
  | (k, o) :: r, b, o', h => by
    unfold fnd at h
    by_cases e : (k == b) = true
    · rw [if_pos e] at h
      cases h
      rw [eq_of_beq e]
      exact List.mem_cons_self ..
    · rw [if_neg e] at h
      exact List.mem_cons_of_mem _ (fnd_mem h)
theorem ers_mem : ∀ {H : List (Nat × AObj)} {b : Nat} {x : Nat × AObj}, x ∈ ers H b → x ∈ H
  | (k, o) :: r, b, x, h => by
    unfold ers at h
    by_cases e : (k == b) = true
    · rw [if_pos e] at h; exact List.mem_cons_of_mem _ h
    · rw [if_neg e] at h
      rcases List.mem_cons.1 h with h1 | h1
      · rw [h1]; exact List.mem_cons_self ..
      · exact List.mem_cons_of_mem _ (ers_mem h1)
theorem ers_sub (H : List (Nat × AObj)) (b : Nat) : (ers H b).Sublist H := by
  induction H with
  | nil => exact .slnil
  | cons x r ih =>
    obtain ⟨k, o⟩ := x
    unfold ers
    by_cases e : (k == b) = true
    · rw [if_pos e]; exact List.sublist_cons_self _ _
    · rw [if_neg e]; exact ih.cons_cons _
theorem ers_not : ∀ {H : List (Nat × AObj)} {b : Nat}, (H.map (·.1)).Nodup → b ∉ (ers H b).map (·.1)
  | [], b, _ => by simp [ers]
  | (k, o) :: r, b, h => by
    rw [List.map_cons, List.nodup_cons] at h
    unfold ers
    by_cases e : (k == b) = true
    · rw [if_pos e, ← eq_of_beq e]; exact h.1
    · rw [if_neg e, List.map_cons, List.mem_cons]
      rintro (h1 | h1)
      · exact e (by simp [h1])
      · exact ers_not h.2 h1
/-- one block is written anew, under its own number or a new one -/
theorem HR.upd {γ γ' : Pl} {s : AS} {w w' : World} {b b' nx' : Nat} {o o' : AObj} {B d S d' S' : Nat} (h : HR γ s w) (hm : (b, o) ∈ s.H) (hb : γ b = some (B, d, S)) (hs : Sub γ γ') (hb' : γ' b' = some (B, d', S'))
    (hne : b' = b ∨ b' ∉ s.H.map (·.1)) (hsz : w'.heap.size = w.heap.size) (hk : ∀ k, k ≠ B → w'.heap[k]? = w.heap[k]?) (ho : OR γ' w' b' o') (hn : ∀ k, nx' ≤ k → γ' k = none) (hsm : w'.os = w.os ∧ w'.tape = w.tape ∧ w'.output = w.output)
    (hids : ∀ k x, γ' k = some x → γ k = some x ∨ s.nx ≤ k) (hnx : s.nx ≤ nx') :
    HR γ' ⟨(b', o') :: ers s.H b, nx'⟩ w' ∧ Fr γ s w γ' ⟨(b', o') :: ers s.H b, nx'⟩ w' := by
  have hbm : b ∈ s.H.map (·.1) := List.mem_map.2 ⟨_, hm, rfl⟩
  have hnot := ers_not (b := b) h.nod
  have hsub : ∀ k, k ∈ (ers s.H b).map (·.1) → k ∈ s.H.map (·.1) := fun k hk => by
    obtain ⟨x, hx, rfl⟩ := List.mem_map.1 hk
    exact List.mem_map.2 ⟨x, ers_mem hx, rfl⟩
  have hb'n : b' ∉ (ers s.H b).map (·.1) := by
    rcases hne with rfl | h1
    · exact hnot
    · exact fun h2 => h1 (hsub _ h2)
  have hold : ∀ k, k ∈ s.H.map (·.1) → ∃ x, γ k = some x := fun k hk => by
    obtain ⟨y, hy, rfl⟩ := List.mem_map.1 hk
    obtain ⟨B1, d1, S1, h1, _⟩ := OR.at_ (h.obj y.1 y.2 hy)
    exact ⟨_, h1⟩
  have hdis : ∀ k x, k ∈ (ers s.H b).map (·.1) → γ k = some x → x.1 ≠ B := fun k x hk hx => by
    have hkb : k ≠ b := fun e => hnot (e ▸ hk)
    exact h.inj k b x _ (hsub k hk) hbm hkb hx hb
  refine ⟨⟨fun k q hq => ?_, ?_, ?_, hn⟩, hs, by omega, fun k hk1 hk2 => ?_, fun k hk1 => ?_, hsm, hids, hnx⟩
  · rcases List.mem_cons.1 hq with h1 | h1
    · cases h1; exact ho
    · refine OR.mono hs (fun B1 d1 S1 h2 => hk B1 ?_) (h.obj k q (ers_mem h1))
      exact hdis k _ (List.mem_map.2 ⟨_, h1, rfl⟩) h2
  · rw [List.map_cons, List.nodup_cons]
    exact ⟨hb'n, ((ers_sub s.H b).map _).nodup h.nod⟩
  · intro k k' x y h1 h2 h3 h4 h5
    rw [List.map_cons, List.mem_cons] at h1 h2
    rcases h1 with rfl | h1
    · rcases h2 with rfl | h2
      · exact absurd rfl h3
      · obtain ⟨z, hz⟩ := hold _ (hsub _ h2)
        have := hs _ _ hz
        rw [h5] at this
        cases this
        rw [hb'] at h4
        cases h4
        exact fun e => hdis _ _ h2 hz e.symm
    · rcases h2 with rfl | h2
      · obtain ⟨z, hz⟩ := hold _ (hsub _ h1)
        have := hs _ _ hz
        rw [h4] at this
        cases this
        rw [hb'] at h5
        cases h5
        exact hdis _ _ h1 hz
      · obtain ⟨z, hz⟩ := hold _ (hsub _ h1)
        obtain ⟨z', hz'⟩ := hold _ (hsub _ h2)
        have e1 := hs _ _ hz
        have e2 := hs _ _ hz'
        rw [h4] at e1
        rw [h5] at e2
        cases e1
        cases e2
        exact h.inj _ _ _ _ (hsub _ h1) (hsub _ h2) h3 hz hz'
  · exact hk k fun e => hk2 ⟨b, d, S, hbm, by rw [hb, e]⟩
  · obtain ⟨q, e1, e2, h1, h2⟩ := hk1
    rw [List.map_cons, List.mem_cons] at h1
    rcases h1 with rfl | h1
    · rw [hb'] at h2
      cases h2
      exact .inl ⟨b, d, S, hbm, hb⟩
    · obtain ⟨z, hz⟩ := hold _ (hsub _ h1)
      have := hs _ _ hz
      rw [h2] at this
      cases this
      exact .inl ⟨q, e1, e2, hsub _ h1, hz⟩
/-- places, one more -/
def ext (γ : Pl) (b : Nat) (x : Nat × Nat × Nat) : Pl := fun k => if k = b then some x else γ k
theorem ext_sub {γ : Pl} {b : Nat} {x : Nat × Nat × Nat} (h : γ b = none) : Sub γ (ext γ b x) := fun k y hy => by
  unfold ext
  by_cases e : k = b
  · rw [e, h] at hy; cases hy
  · rw [if_neg e]; exact hy
theorem ext_at (γ : Pl) (b : Nat) (x : Nat × Nat × Nat) : ext γ b x b = some x := by simp [ext]
theorem ext_nx {γ : Pl} {nx : Nat} {x : Nat × Nat × Nat} (h : ∀ k, nx ≤ k → γ k = none) : ∀ k, nx + 1 ≤ k → ext γ nx x k = none := fun k hk => by
  unfold ext
  rw [if_neg (by omega)]
  exact h k (by omega)
theorem ext_ids {γ : Pl} {nx : Nat} {x : Nat × Nat × Nat} : ∀ k y, ext γ nx x k = some y → γ k = some y ∨ nx ≤ k := fun k y h => by
  unfold ext at h
  by_cases e : k = nx
  · exact .inr (by omega)
  · rw [if_neg e] at h
    exact .inl h
theorem HR.fresh {γ : Pl} {s : AS} {w : World} (h : HR γ s w) : s.nx ∉ s.H.map (·.1) := fun hm => by
  obtain ⟨y, hy, e⟩ := List.mem_map.1 hm
  obtain ⟨B, d, S, h1, _⟩ := OR.at_ (h.obj y.1 y.2 hy)
  rw [e, h.nxt _ (Nat.le_refl _)] at h1
  cases h1
/-- a new block -/
theorem HR.new {γ : Pl} {s : AS} {w : World} {o : AObj} {p : Obj} {S : Nat} (h : HR γ s w) (ho : OR (ext γ s.nx (w.heap.size, 0, S)) (w.alloc p) s.nx o) :
    HR (ext γ s.nx (w.heap.size, 0, S)) ⟨(s.nx, o) :: s.H, s.nx + 1⟩ (w.alloc p) ∧ Fr γ s w (ext γ s.nx (w.heap.size, 0, S)) ⟨(s.nx, o) :: s.H, s.nx + 1⟩ (w.alloc p) := by
  have hsub := ext_sub (x := (w.heap.size, 0, S)) (h.nxt _ (Nat.le_refl _))
  have hold : ∀ k, k ∈ s.H.map (·.1) → ∃ x, γ k = some x ∧ x.1 < w.heap.size := fun k hk => by
    obtain ⟨y, hy, rfl⟩ := List.mem_map.1 hk
    obtain ⟨B1, d1, S1, h1, h2⟩ := OR.at_ (h.obj y.1 y.2 hy)
    exact ⟨_, h1, h2⟩
  have hkeep : ∀ k, k < w.heap.size → (w.alloc p).heap[k]? = w.heap[k]? := fun k hk => by
    show (w.heap.push p)[k]? = _
    rw [Array.getElem?_push, if_neg (by omega)]
  refine ⟨⟨fun k q hq => ?_, ?_, ?_, ext_nx h.nxt⟩, hsub, by simp, fun k hk _ => hkeep k hk, fun k hk => ?_, ⟨rfl, rfl, rfl⟩, ext_ids, Nat.le_succ _⟩
  · rcases List.mem_cons.1 hq with h1 | h1
    · cases h1; exact ho
    · refine OR.mono hsub (fun B1 d1 S1 h2 => hkeep B1 ?_) (h.obj k q h1)
      obtain ⟨x, h3, h4⟩ := hold k (List.mem_map.2 ⟨_, h1, rfl⟩)
      rw [h2] at h3
      cases h3
      exact h4
  · rw [List.map_cons, List.nodup_cons]
    exact ⟨h.fresh, h.nod⟩
  · intro k k' x y h1 h2 h3 h4 h5
    rw [List.map_cons, List.mem_cons] at h1 h2
    rcases h1 with rfl | h1
    · rcases h2 with rfl | h2
      · exact absurd rfl h3
      · obtain ⟨z, hz, hl⟩ := hold _ h2
        have := hsub _ _ hz
        rw [h5] at this
        cases this
        rw [ext_at] at h4
        cases h4
        exact fun e => by have : w.heap.size = y.1 := e; omega
    · rcases h2 with rfl | h2
      · obtain ⟨z, hz, hl⟩ := hold _ h1
        have := hsub _ _ hz
        rw [h4] at this
        cases this
        rw [ext_at] at h5
        cases h5
        exact fun e => by have : x.1 = w.heap.size := e; omega
      · obtain ⟨z, hz, _⟩ := hold _ h1
        obtain ⟨z', hz', _⟩ := hold _ h2
        have e1 := hsub _ _ hz
        have e2 := hsub _ _ hz'
        rw [h4] at e1
        rw [h5] at e2
        cases e1
        cases e2
        exact h.inj _ _ _ _ h1 h2 h3 hz hz'
  · obtain ⟨q, e1, e2, h1, h2⟩ := hk
    rw [List.map_cons, List.mem_cons] at h1
    rcases h1 with rfl | h1
    · rw [ext_at] at h2
      cases h2
      exact .inr (Nat.le_refl _)
    · obtain ⟨z, hz, _⟩ := hold _ h1
      have := hsub _ _ hz
      rw [h2] at this
      cases this
      exact .inl ⟨q, e1, e2, h1, hz⟩
end Go.Proofs.YteigplfldhdakaaGreatDoor.Ev
/- Operations that leave the memory alone. -/
namespace Go.Proofs.YteigplfldhdakaaGreatDoor.Ev
open Go Go.RowKit
/-- a run that looks at nothing but the program -/
def flatS {α : Type} (P : Program) : Sem α → Option α
  | .pure a => some a
  | .program k => flatS P (k P)
  | _ => none
theorem flatS_run {α : Type} {P : Program} : ∀ {e : Sem α} {a : α}, flatS P e = some a → ∀ w, e.run P w = .ok a w
  | .pure a, _, h, w => by cases h; rfl
  | .program k, a, h, w => flatS_run (e := k P) h w
  | .load _ _ _, _, h, _ => by cases h
  | .store _ _ _ _, _, h, _ => by cases h
  | .new _ _, _, h, _ => by cases h
  | .shape _ _, _, h, _ => by cases h
  | .freeze _ _ _, _, h, _ => by cases h
  | .frozen _ _, _, h, _ => by cases h
  | .getObj _ _, _, h, _ => by cases h
  | .setObj _ _ _, _, h, _ => by cases h
  | .choose _ _, _, h, _ => by cases h
  | .sys _ _, _, h, _ => by cases h
  | .mark _ _, _, h, _ => by cases h
  | .halt _, _, h, _ => by cases h
/-- a constant -/
def absS : Value → Option FV
  | .bool b => some (.bool b)
  | .int k n => some (.int k n)
  | .string s => some (.str s.data.toList)
  | .pointer none => some .nilp
  | .slice none 0 0 => some .nils
  | .map none => some .nilm
  | .nilFunc => some .nilf
  | .nilIface => some .nili
  | _ => none
theorem absS_val {v : Value} {x : FV} (h : absS v = some x) : v = x.val := by
  unfold absS at h
  split at h <;> first | (cases h; rfl) | cases h
def absL : List Value → Option (List SV)
  | [] => some []
  | v :: r => match absS v, absL r with
    | some x, some xs => some (.f x :: xs)
    | _, _ => none
theorem absL_rel {γ : Pl} : ∀ {vs : List Value} {xs : List SV}, absL vs = some xs → All2 (RS γ) xs vs
  | [], _, h => by cases h; trivial
  | v :: r, _, h => by
    unfold absL at h
    split at h
    · rename_i x xs h1 h2
      cases h
      exact ⟨absS_val h1, absL_rel h2⟩
    · cases h
def absV : Value → Option AV
  | .agg cs => (absL cs.toList).map .ag
  | .tuple vs => if vs.isEmpty then some (.tu []) else none
  | v => (absS v).map fun x => .sc (.f x)
theorem absV_rel {γ : Pl} {v : Value} {x : AV} (h : absV v = some x) : RA γ x v := by
  unfold absV at h
  split at h
  · rename_i cs
    obtain ⟨xs, h1, rfl⟩ := Option.map_eq_some_iff.1 h
    exact ⟨cs.toList, by simp, absL_rel h1⟩
  · rename_i vs
    split at h
    · rename_i he
      cases h
      refine ⟨[], ?_, trivial⟩
      have : vs = #[] := by simpa using he
      rw [this]
    · cases h
  · obtain ⟨y, h1, rfl⟩ := Option.map_eq_some_iff.1 h
    exact absS_val h1
/-- a value without a place, as it is -/
def flL : List SV → Option (List Value)
  | [] => some []
  | .f x :: r => (flL r).map (x.val :: ·)
  | _ :: _ => none
def AV.fv : AV → Option Value
  | .sc (.f x) => some x.val
  | .ag xs => (flL xs).map fun vs => .agg vs.toArray
  | _ => none
theorem flL_rel {γ : Pl} : ∀ {xs : List SV} {vs us : List Value}, flL xs = some vs → All2 (RS γ) xs us → us = vs
  | [], _, [], h, _ => by cases h; rfl
  | .f x :: r, _, u :: us, h, hr => by
    unfold flL at h
    obtain ⟨ws, h1, rfl⟩ := Option.map_eq_some_iff.1 h
    have := flL_rel h1 hr.2
    rw [this]
    have := hr.1
    simp only [RS] at this
    rw [this]
  | [], _, _ :: _, _, hr => hr.elim
  | _ :: _, _, [], _, hr => hr.elim
  | .pt _ _ :: _, _, _ :: _, h, _ => by cases h
  | .sl _ _ _ _ _ :: _, _, _ :: _, h, _ => by cases h
  | .se _ _ :: _, _, _ :: _, h, _ => by cases h
  | .mp _ :: _, _, _ :: _, h, _ => by cases h
  | .cl _ _ :: _, _, _ :: _, h, _ => by cases h
  | .yl _ :: _, _, _ :: _, h, _ => by cases h
theorem fv_eq {γ : Pl} {a : AV} {u v : Value} (h : a.fv = some v) (hr : RA γ a u) : u = v := by
  unfold AV.fv at h
  split at h
  · cases h; exact hr
  · obtain ⟨vs, h1, rfl⟩ := Option.map_eq_some_iff.1 h
    obtain ⟨us, rfl, h2⟩ := hr
    rw [flL_rel h1 h2]
  · cases h
def AE.av : Bool × List SV → AV
  | (true, xs) => .ag xs
  | (false, xs) => match xs with | [x] => .sc x | _ => .tu []
theorem AE.av_rel {γ : Pl} : ∀ {y : Bool × List SV} {u : Value}, RE γ y u → RA γ (AE.av y) u
  | (true, _), _, h => h
  | (false, _), _, ⟨x, rfl, h⟩ => h
/-- operands are known by what they stand for -/
def Op2 (γ : Pl) (ρa : Operand → Option AV) (ρ : Operand → Value) : Prop := ∀ x v, ρa x = some v → RA γ v (ρ x)
def sizeP (P : Program) (t : Nat) : Option Nat := (P.info? t).map (·.size)
def isAggP (P : Program) (t : Nat) : Option Bool := (P.underlying t).map fun d => d.isRow
def elemP (P : Program) (t : Nat) : Option Nat := match P.underlying t with | some (.slice e) => some e | _ => none
def loadA (P : Program) (t : Nat) (L : List SV) (o : Nat) : Option AV :=
  match isAggP P t with
  | some true => match sizeP P t with
    | some n => if o + n ≤ L.length then some (.ag ((L.drop o).take n)) else none
    | none => none
  | some false => (L[o]?).map .sc
  | none => none
def fieldOff (P : Program) (t f : Nat) : Option Nat :=
  match P.underlying t with
  | some (.struct fs) => match fs[f]? with
    | some fd => match sizeP P fd.type with
      | some (_ + 1) => some fd.offset
      | _ => none
    | none => none
  | _ => none
theorem OR.cell {γ : Pl} {w : World} {b o B d S : Nat} {ty : Nat} {L : List SV} {x : SV} (h : OR γ w b (.cells ty L)) (hb : γ b = some (B, d, S)) (hx : L[o]? = some x) : ∃ u, w.cell? ⟨B, d + o, none⟩ = some u ∧ RS γ x u := by
  obtain ⟨B', d', S', C, h1, h2, h3, h4, h5⟩ := h
  rw [hb] at h1
  cases h1
  obtain ⟨u, k1, k2⟩ := h5 o x hx
  exact ⟨u, by simp [World.cell?, h2, k1], k2⟩
theorem OR.range {γ : Pl} {w : World} {b o n B d S : Nat} {ty : Nat} {L : List SV} (h : OR γ w b (.cells ty L)) (hb : γ b = some (B, d, S)) (hl : o + n ≤ L.length) :
    ∃ us : List Value, us.length = n ∧ All2 (RS γ) ((L.drop o).take n) us ∧ ∀ j v, us[j]? = some v → w.cell? ⟨B, d + o + j, none⟩ = some v := by
  obtain ⟨B', d', S', C, h1, h2, h3, h4, h5⟩ := h
  rw [hb] at h1
  cases h1
  refine ⟨(C.toList.drop (d + o)).take n, ?_, ?_, fun j v hj => ?_⟩
  · have hC : C.toList.length = C.size := Array.length_toList
    rw [List.length_take, List.length_drop]; omega
  · refine All2.of ?_ fun i x y hx hy => ?_
    · have hC : C.toList.length = C.size := Array.length_toList
      rw [List.length_take, List.length_take, List.length_drop, List.length_drop]; omega
    · rw [List.getElem?_take] at hx hy
      split at hx
      · rename_i hin
        rw [if_pos hin] at hy
        rw [List.getElem?_drop] at hx hy
        obtain ⟨u, k1, k2⟩ := h5 _ _ hx
        rw [Array.getElem?_toList, show d + o + i = d + (o + i) by omega, k1] at hy
        cases hy
        exact k2
      · cases hx
  · rw [List.getElem?_take] at hj
    split at hj
    · rw [List.getElem?_drop, Array.getElem?_toList] at hj
      simp [World.cell?, h2, hj]
    · cases hj
theorem load_ok {P : Program} {γ : Pl} {w : World} {t b o B d S : Nat} {ty : Nat} {L : List SV} {v : AV} (h : OR γ w b (.cells ty L)) (hb : γ b = some (B, d, S)) (hv : loadA P t L o = some v) :
    ∃ u, (Instr.loadAt t (.pointer (some ⟨B, d + o, none⟩))).run P w = .ok u w ∧ RA γ v u := by
  unfold loadA isAggP at hv
  cases hu : P.underlying t with
  | none => rw [hu] at hv; cases hv
  | some ds =>
    rw [hu] at hv
    simp only [Option.map_some] at hv
    cases hr : ds.isRow with
    | true =>
      rw [hr] at hv
      cases hs : sizeP P t with
      | none => rw [hs] at hv; cases hv
      | some n =>
        rw [hs] at hv
        simp only at hv
        by_cases hl : o + n ≤ L.length
        · rw [if_pos hl] at hv
          cases hv
          obtain ⟨us, h1, h2, h3⟩ := OR.range h hb hl
          refine ⟨_, run_loadAt_mid (P := P) w B (d + o) t us ds h3 hu hr (by rw [h1]; exact hs), ⟨us, rfl, h2⟩⟩
        · rw [if_neg hl] at hv; cases hv
    | false =>
      rw [hr] at hv
      obtain ⟨x, hx, rfl⟩ := Option.map_eq_some_iff.1 hv
      obtain ⟨u, h1, h2⟩ := OR.cell h hb hx
      refine ⟨u, ?_, h2⟩
      have hagg : (isAgg t).run P w = .ok false w := by
        unfold isAgg
        rw [Sem.run_bind, run_underlying hu w]
        cases ds <;> simp_all [TypeDesc.isRow]
      simp [Instr.loadAt, Instr.sureAddr, loadVar, hagg, h1]
theorem fieldAt_ok {P : Program} {w : World} {t f B o k : Nat} (h : fieldOff P t f = some k) : (Instr.fieldAt t (.pointer (some ⟨B, o, none⟩)) f).run P w = .ok (.pointer (some ⟨B, o + k, none⟩)) w := by
  unfold fieldOff sizeP at h
  split at h
  · rename_i fs hu
    split at h
    · rename_i fd hf
      split at h
      · rename_i m hs
        cases h
        obtain ⟨i, hi, his⟩ := Option.map_eq_some_iff.1 hs
        simp [Instr.fieldAt, run_underlying hu, hf, Instr.sureAddr, fieldPlace, sizeOf, typeInfo, hi, his, Addr.add_mid]
      · cases h
    · cases h
  · cases h
theorem indexAt_ok {P : Program} {w : World} {t e B o n c z : Nat} {k : IntKind} {j : Int} (he : elemP P t = some e) (hz : sizeP P e = some z) (h0 : 0 ≤ j) (h1 : j < (n : Int)) :
    (Instr.indexAt t (.slice (some ⟨B, o, none⟩) n c) (.int k j)).run P w = .ok (.pointer (some ⟨B, o + j.toNat * z, none⟩)) w := by
  unfold elemP at he
  split at he
  · rename_i e' hu
    cases he
    obtain ⟨i, hi, his⟩ := Option.map_eq_some_iff.1 hz
    simp [Instr.indexAt, asIntOf, run_underlying hu, h0, h1, sizeOf, typeInfo, hi, his, Addr.add_mid]
  · cases he
end Go.Proofs.YteigplfldhdakaaGreatDoor.Ev
/- Operations that leave the memory alone, all. -/
namespace Go.Proofs.YteigplfldhdakaaGreatDoor.Ev
open Go Go.RowKit
/-- a bound, where there is one -/
def bnd (ρ : Operand → Option AV) : Option Operand → Option (Option Nat)
  | none => some none
  | some x => match ρ x with
    | some (.sc (.f (.int _ j))) => if 0 ≤ j then some (some j.toNat) else none
    | _ => none
def bndV : Option Nat → Option Value → Prop
  | none, none => True
  | some n, some u => ∃ k, u = .int k (n : Int)
  | _, _ => False
theorem bnd_ok {γ : Pl} {ρa : Operand → Option AV} {ρ : Operand → Value} (hr : Op2 γ ρa ρ) {x : Option Operand} {r : Option Nat} (h : bnd ρa x = some r) : bndV r (x.map ρ) := by
  unfold bnd at h
  split at h
  · cases h; trivial
  · rename_i x
    split at h
    · rename_i k j hj
      split at h
      · rename_i h0
        cases h
        have := hr x _ hj
        simp only [RA, RS, FV.val] at this
        refine ⟨k, ?_⟩
        rw [this]
        congr 1
        omega
      · cases h
    · cases h
theorem runBound {P : Program} {w : World} {k : IntKind} {n y : Nat} {code : BoundsCode} (h : n ≤ y) : (Instr.sliceBound (.int k (n : Int)) y code).run P w = .ok n w := by
  rw [run_sliceBound w k (n : Int) y code (by omega) (by omega)]
  rfl
def sliceR (P : Program) (t : Nat) (x : SV) (lo hi mx : Option Nat) : Option SV :=
  match x with
  | .f (.str s) => match mx, P.underlying t with
    | none, some .string => if lo.getD 0 ≤ hi.getD s.length ∧ hi.getD s.length ≤ s.length then some (.f (.str ((s.take (hi.getD s.length)).drop (lo.getD 0)))) else none
    | _, _ => none
  | .sl b o n c z => match elemP P t with
    | some e => if sizeP P e = some z then
        match mx with
        | some m => if lo.getD 0 = 0 ∧ hi.getD 0 ≤ m ∧ m ≤ n ∧ hi.isSome = true then some (.sl b o (hi.getD 0) (some m) z) else none
        | none =>
          if lo.getD 0 ≤ hi.getD n ∧ hi.getD n ≤ n then
            if lo.getD 0 = 0 then some (.sl b o (hi.getD n) c z)
            else if lo.getD 0 < n then some (.sl b (o + lo.getD 0 * z) (hi.getD n - lo.getD 0) (c.map (· - lo.getD 0)) z)
            else match c with
              | none => some (.se b z)
              | some c0 => if c0 = lo.getD 0 then some (.sl b o 0 (some 0) z) else some (.sl b (o + lo.getD 0 * z) 0 (some (c0 - lo.getD 0)) z)
          else none
      else none
    | none => none
  | _ => none
theorem elemP_some {P : Program} {t e : Nat} (h : elemP P t = some e) : P.underlying t = some (.slice e) := by
  unfold elemP at h
  split at h
  · rename_i hu; cases h; exact hu
  · cases h
theorem bounds_ok {P : Program} {w : World} {s : Bool} {n cap : Nat} {lo hi : Option Nat} {l h : Option Value} (hl : bndV lo l) (hh : bndV hi h) (h1 : lo.getD 0 ≤ hi.getD n) (h2 : hi.getD n ≤ n) (h3 : n ≤ cap) :
    (Instr.sliceBounds s n cap l h none).run P w = .ok (lo.getD 0, hi.getD n, cap) w := by
  cases lo <;> cases l <;> first | exact hl.elim | skip
  · cases hi <;> cases h <;> first | exact hh.elim | skip
    · simp [Instr.sliceBounds]
    · rename_i hv u
      obtain ⟨k, rfl⟩ := hh
      simp only [Option.getD_some] at h2
      simp [Instr.sliceBounds, runBound (show hv ≤ cap by omega)]
  · rename_i lv u
    obtain ⟨k, rfl⟩ := hl
    simp only [Option.getD_some] at h1
    cases hi <;> cases h <;> first | exact hh.elim | skip
    · simp only [Option.getD_none] at h1
      simp [Instr.sliceBounds, runBound h1]
    · rename_i hv u
      obtain ⟨k', rfl⟩ := hh
      simp only [Option.getD_some] at h1 h2
      simp [Instr.sliceBounds, runBound h1, runBound (show hv ≤ cap by omega)]
theorem str_extract (s : List UInt8) (l h : Nat) (hl : l ≤ h) (hh : h ≤ s.length) : (ByteArray.mk ⟨s⟩).extract l h = ⟨⟨(s.take h).drop l⟩⟩ := by
  apply WideShapes.bytes_inj
  have := ByteArray.data_extract (a := ByteArray.mk ⟨s⟩) (b := l) (e := h)
  rw [this]
  simp [Array.toList_extract, List.extract, List.drop_take]
theorem run_sizeP {P : Program} {e z : Nat} (hz : sizeP P e = some z) (w : World) : (sizeOf e).run P w = .ok z w := by
  obtain ⟨i, hi, his⟩ := Option.map_eq_some_iff.1 hz
  simp [sizeOf, typeInfo, hi, his]
theorem slice_run {P : Program} {w : World} {t e z n c' : Nat} {a : Addr} {lo hg : Option Nat} {l h : Option Value} (hu : P.underlying t = some (.slice e)) (hz : sizeP P e = some z) (hl : bndV lo l) (hh : bndV hg h) (h1 : lo.getD 0 ≤ hg.getD n) (h2 : hg.getD n ≤ n) (h3 : n ≤ c') :
    (Instr.sliceAt t (.slice (some a) n c') l h none).run P w = .ok (.slice (some (if c' = lo.getD 0 then a else a.add (lo.getD 0 * z))) (hg.getD n - lo.getD 0) (c' - lo.getD 0)) w := by
  obtain ⟨i, hi, his⟩ := Option.map_eq_some_iff.1 hz
  have hbo := bounds_ok (P := P) (w := w) (s := true) hl hh h1 h2 h3
  simp only [Instr.sliceAt, Instr.slice, Sem.run_bind, run_underlying hu, Result.andThen_ok, hbo, run_sizeP hz w, Sem.run_pure]
  split <;> simp_all
theorem slice_run3 {P : Program} {w : World} {t e z n c' m : Nat} {a : Addr} {lo : Option Nat} {hv : Nat} {l : Option Value} {kh km : IntKind} (hu : P.underlying t = some (.slice e)) (hz : sizeP P e = some z) (hl : bndV lo l) (h0 : lo.getD 0 = 0) (h1 : hv ≤ m) (h2 : m ≤ n) (h3 : n ≤ c') :
    (Instr.sliceAt t (.slice (some a) n c') l (some (.int kh (hv : Int))) (some (.int km (m : Int)))).run P w = .ok (.slice (some a) hv m) w := by
  obtain ⟨i, hi, his⟩ := Option.map_eq_some_iff.1 hz
  have hbo : (Instr.sliceBounds true n c' l (some (.int kh (hv : Int))) (some (.int km (m : Int)))).run P w = .ok (0, hv, m) w := by
    cases lo <;> cases l <;> first | exact hl.elim | skip
    · simp [Instr.sliceBounds, runBound (show m ≤ c' by omega), runBound h1]
    · rename_i lv u
      obtain ⟨k, rfl⟩ := hl
      simp only [Option.getD_some] at h0
      subst h0
      have hz0 : (Instr.sliceBound (.int k ((0 : Nat) : Int)) hv .slice3C).run P w = .ok 0 w := runBound (Nat.zero_le _)
      simp [Instr.sliceBounds, runBound (show m ≤ c' by omega), runBound h1] at hz0 ⊢
      simp [hz0]
  simp only [Instr.sliceAt, Instr.slice, Sem.run_bind, run_underlying hu, Result.andThen_ok, hbo, run_sizeP hz w, Sem.run_pure]
  split <;> simp [Addr.add]
theorem slice_ok {P : Program} {γ : Pl} {w : World} {t : Nat} {x y : SV} {u : Value} {lo hg mx : Option Nat} {l h m : Option Value} (hx : RS γ x u) (hl : bndV lo l) (hh : bndV hg h) (hm : bndV mx m) (hs : sliceR P t x lo hg mx = some y) :
    ∃ u', (Instr.sliceAt t u l h m).run P w = .ok u' w ∧ RS γ y u' := by
  unfold sliceR at hs
  split at hs
  · rename_i s
    simp only [RS, FV.val] at hx
    subst hx
    split at hs
    · rename_i hu
      split at hs
      · rename_i hb
        cases hs
        cases m with
        | some _ => exact hm.elim
        | none =>
          have hsz : (ByteArray.mk ⟨s⟩).size = s.length := rfl
          have hbo := bounds_ok (P := P) (w := w) (s := false) hl hh hb.1 hb.2 (Nat.le_refl _)
          refine ⟨_, ?_, rfl⟩
          simp [Instr.sliceAt, Instr.slice, run_underlying hu, hsz, hbo, str_extract s _ _ hb.1 hb.2, FV.val]
      · cases hs
    · cases hs
  · rename_i b o n c z
    obtain ⟨B, d, S, c', hb, rfl, hn, hc⟩ := hx
    split at hs
    · rename_i e he
      have hu := elemP_some he
      split at hs
      · rename_i hz
        split at hs
        · rename_i mv
          split at hs
          · rename_i hcnd
            cases hs
            obtain ⟨h1, h2, h3, h4⟩ := hcnd
            cases m with
            | none => exact hm.elim
            | some mu =>
              obtain ⟨km, rfl⟩ := hm
              cases hg with
              | none => cases h4
              | some hv =>
                cases h with
                | none => exact hh.elim
                | some hu2 =>
                  obtain ⟨kh, rfl⟩ := hh
                  refine ⟨_, slice_run3 hu hz hl h1 h2 h3 hn, B, d, S, mv, hb, rfl, h2, rfl, ?_⟩
                  have : mv * z ≤ c' * z := Nat.mul_le_mul_right _ (by omega)
                  cases c with
                  | none => simp only at hc; omega
                  | some c0 => obtain ⟨rfl, hc2⟩ := hc; omega
          · cases hs
        · cases m with
          | some _ => exact hm.elim
          | none =>
            split at hs
            · rename_i hcnd
              obtain ⟨h1, h2⟩ := hcnd
              refine ⟨_, slice_run hu hz hl hh h1 h2 hn, ?_⟩
              obtain ⟨lv, hlv⟩ : ∃ lv, lo.getD 0 = lv := ⟨_, rfl⟩
              obtain ⟨hv, hhv⟩ : ∃ hv, hg.getD n = hv := ⟨_, rfl⟩
              rw [hlv, hhv] at hs h1
              rw [hlv, hhv]
              rw [hhv] at h2
              split at hs
              · rename_i h0
                cases hs
                subst h0
                refine ⟨B, d, S, c', hb, ?_, by omega, hc⟩
                simp only [Nat.zero_mul, Nat.sub_zero]
                split <;> simp [Addr.add]
              · rename_i h0
                have hcc : (c' - lv) * z = c' * z - lv * z := Nat.sub_mul ..
                have hle : lv * z ≤ c' * z := Nat.mul_le_mul_right _ (by omega)
                split at hs
                · rename_i h3
                  cases hs
                  refine ⟨B, d, S, c' - lv, hb, ?_, by omega, ?_⟩
                  · rw [if_neg (by omega), Addr.add_mid, Nat.add_assoc]
                  · cases c with
                    | none => simp only [Option.map_none] at hc ⊢; omega
                    | some c0 =>
                      obtain ⟨rfl, hc2⟩ := hc
                      simp only [Option.map_some]
                      exact ⟨trivial, by omega⟩
                · rename_i h3
                  split at hs
                  · cases hs
                    have e1 : hv - lv = 0 := by omega
                    simp only at hc
                    rw [e1]
                    by_cases hcl : c' = lv
                    · rw [if_pos hcl]
                      exact ⟨B, d, S, d + o, c' - lv, hb, rfl, .inl (by omega)⟩
                    · rw [if_neg hcl, Addr.add_mid]
                      exact ⟨B, d, S, d + o + lv * z, c' - lv, hb, rfl, .inr (by omega)⟩
                  · rename_i c0
                    obtain ⟨rfl, hc2⟩ := hc
                    have e1 : hv - lv = 0 := by omega
                    rw [e1]
                    split at hs
                    · rename_i hcl
                      cases hs
                      rw [if_pos hcl]
                      exact ⟨B, d, S, 0, hb, by rw [hcl, Nat.sub_self], Nat.le_refl _, rfl, by omega⟩
                    · rename_i hcl
                      cases hs
                      rw [if_neg hcl, Addr.add_mid]
                      exact ⟨B, d, S, c' - lv, hb, by rw [Nat.add_assoc], Nat.zero_le _, rfl, by omega⟩
            · cases hs
      · cases hs
    · cases hs
  · cases hs
end Go.Proofs.YteigplfldhdakaaGreatDoor.Ev
