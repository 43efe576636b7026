/- What an operation that leaves the memory alone hands back. -/
import Derived.Test.YteigplfldhdakaaGreatDoorD15
import Derived.MapViews
import Derived.MapKept
import Derived.RangeFuncRecord
import Derived.Great.BuildSlice
import Derived.Laws.MakeOwn
import Derived.Laws.CopyRow
import Derived.Carry
import Derived.Deep.Upon
set_option linter.unusedVariables false
set_option linter.unusedSimpArgs false
namespace Go.Proofs.YteigplfldhdakaaGreatDoor.Ev
open Go Go.RowKit
def strBin (op : BinOp) (a b : List UInt8) : Option FV :=
  match op with
  | .add => if a.length + b.length ≤ 1000000 then some (.str (a ++ b)) else none
  | .eql => some (.bool (decide (a = b)))
  | .neq => some (.bool (!decide (a = b)))
  | .lss => some (.bool (Op.bytesLess a b))
  | .leq => some (.bool (Op.bytesLess a b || decide (a = b)))
  | .gtr => some (.bool (!(Op.bytesLess a b || decide (a = b))))
  | .geq => some (.bool (!Op.bytesLess a b))
  | _ => none
theorem strBin_ok {P : Program} {w : World} {op : BinOp} {t : Nat} {a b : List UInt8} {y : FV} (h : strBin op a b = some y) : (Go.binOp op t (.string ⟨⟨a⟩⟩) (.string ⟨⟨b⟩⟩)).run P w = .ok y.val w := by
  have ha : (ByteArray.mk ⟨a⟩).toList = a := by rw [ByteArray.toList_eq]
  have hb : (ByteArray.mk ⟨b⟩).toList = b := by rw [ByteArray.toList_eq]
  have hd : (a == b) = decide (a = b) := by by_cases e : a = b <;> simp [e]
  unfold strBin at h
  split at h
  · split at h
    · rename_i hl
      cases h
      have h1 : ¬ (IntKind.i64.max < (((⟨⟨a⟩⟩ : ByteArray).size + (⟨⟨b⟩⟩ : ByteArray).size : Nat) : Int)) := by
        have : IntKind.i64.max = 9223372036854775807 := by decide
        have e1 : (⟨⟨a⟩⟩ : ByteArray).size = a.length := rfl
        have e2 : (⟨⟨b⟩⟩ : ByteArray).size = b.length := rfl
        omega
      have h2 : (ByteArray.mk ⟨a⟩ ++ ByteArray.mk ⟨b⟩) = ⟨⟨a ++ b⟩⟩ := by
        apply WideShapes.bytes_inj
        simp
      show (Op.stringOp .add _ _).run P w = _
      unfold Op.stringOp
      simp only [gt_iff_lt, h1, if_false, Sem.run_pure, h2, FV.val]
    · cases h
  all_goals first
    | (cases h; done)
    | (cases h
       first
         | (show (Op.stringOp .eql _ _).run P w = _; simp only [Op.stringOp, ha, hb, hd, FV.val, Sem.run_pure]; done)
         | (show (Op.stringOp .neq _ _).run P w = _; simp only [Op.stringOp, ha, hb, hd, FV.val, Sem.run_pure]; done)
         | (show (Op.stringOp .lss _ _).run P w = _; simp only [Op.stringOp, ha, hb, hd, FV.val, Sem.run_pure]; done)
         | (show (Op.stringOp .leq _ _).run P w = _; simp only [Op.stringOp, ha, hb, hd, FV.val, Sem.run_pure]; done)
         | (show (Op.stringOp .gtr _ _).run P w = _; simp only [Op.stringOp, ha, hb, hd, FV.val, Sem.run_pure]; done)
         | (show (Op.stringOp .geq _ _).run P w = _; simp only [Op.stringOp, ha, hb, hd, FV.val, Sem.run_pure]; done))
theorem eq_ptr {P : Program} {w : World} {t e : Nat} {a : Addr} (hu : P.underlying t = some (.pointer e)) : (Op.equal t (.pointer (some a)) (.pointer none)).run P w = .ok false w := by
  show (Op.equalIn (9999 + 1) t _ _).run P w = _
  unfold Op.equalIn
  simp [run_underlying hu]
theorem eq_sl {P : Program} {w : World} {t e n c : Nat} {a : Addr} (hu : P.underlying t = some (.slice e)) : (Op.equal t (.slice (some a) n c) (.slice none 0 0)).run P w = .ok false w := by
  show (Op.equalIn (9999 + 1) t _ _).run P w = _
  unfold Op.equalIn
  simp [run_underlying hu]
theorem bin_eql {P : Program} {w : World} {t : Nat} {x y : Operand} {u v : Value} {b : Bool} (hg : (eqGuard .eql t x y u v).run P w = .ok () w) (hb : Go.binOp .eql t u v = (do pure (.bool (← Op.equal t u v)))) (he : (Op.equal t u v).run P w = .ok b w) :
    (do eqGuard .eql t x y u v; Go.binOp .eql t u v : Sem Value).run P w = .ok (.bool b) w := by
  rw [hb]
  simp only [Sem.run_bind, hg, he, Result.andThen_ok, Sem.run_pure]
theorem bin_neq {P : Program} {w : World} {t : Nat} {x y : Operand} {u v : Value} {b : Bool} (hg : (eqGuard .neq t x y u v).run P w = .ok () w) (hb : Go.binOp .neq t u v = (do pure (.bool (!(← Op.equal t u v))))) (he : (Op.equal t u v).run P w = .ok b w) :
    (do eqGuard .neq t x y u v; Go.binOp .neq t u v : Sem Value).run P w = .ok (.bool !b) w := by
  rw [hb]
  simp only [Sem.run_bind, hg, he, Result.andThen_ok, Sem.run_pure]
def isPtr (P : Program) (t : Nat) : Bool := match P.underlying t with | some (.pointer _) => true | _ => false
def isSl (P : Program) (t : Nat) : Bool := match P.underlying t with | some (.slice _) => true | _ => false
/-- two sides of an operation -/
def binA (P : Program) (op : BinOp) (t : Nat) (x y : Operand) (a b : AV) : Option AV :=
  match a, b with
  | .sc (.f (.str s)), .sc (.f (.str s')) => (strBin op s s').map fun r => .sc (.f r)
  | .sc (.f u), .sc (.f v) => (flatS P (do eqGuard op t x y u.val v.val; Go.binOp op t u.val v.val)).bind absV
  | .sc (.pt _ _), .sc (.f .nilp) => if isPtr P t then match op with
      | .eql => some (.sc (.f (.bool false)))
      | .neq => some (.sc (.f (.bool true)))
      | _ => none
    else none
  | .sc (.sl _ _ _ _ _), .sc (.f .nils) => if isSl P t then match op with
      | .eql => some (.sc (.f (.bool false)))
      | .neq => some (.sc (.f (.bool true)))
      | _ => none
    else none
  | _, _ => none
theorem guard_str {P : Program} {w : World} {op : BinOp} {t : Nat} {x y : Operand} {a b : ByteArray} : (eqGuard op t x y (.string a) (.string b)).run P w = .ok () w := by
  unfold eqGuard
  cases op <;> simp
theorem binA_ok {P : Program} {γ : Pl} {w : World} {op : BinOp} {t : Nat} {x y : Operand} {a b r : AV} {u v : Value} (ha : RA γ a u) (hb : RA γ b v) (h : binA P op t x y a b = some r) :
    ∃ z, (do eqGuard op t x y u v; Go.binOp op t u v : Sem Value).run P w = .ok z w ∧ RA γ r z := by
  unfold binA at h
  split at h
  · simp only [RA, RS, FV.val] at ha hb
    subst ha
    subst hb
    obtain ⟨q, hq, rfl⟩ := Option.map_eq_some_iff.1 h
    refine ⟨q.val, ?_, rfl⟩
    simp only [Sem.run_bind, guard_str, Result.andThen_ok, strBin_ok hq]
  · rename_i p q _
    have ha' : u = p.val := ha
    have hb' : v = q.val := hb
    subst ha'
    subst hb'
    obtain ⟨z, hz, hr⟩ := Option.bind_eq_some_iff.1 h
    exact ⟨z, flatS_run hz w, absV_rel hr⟩
  · obtain ⟨B, d, S, _, rfl⟩ := ha
    have hb' : v = .pointer none := hb
    subst hb'
    split at h
    · rename_i hp
      have hu : ∃ e, P.underlying t = some (.pointer e) := by
        unfold isPtr at hp
        split at hp
        · rename_i e he; exact ⟨e, he⟩
        · cases hp
      obtain ⟨e, hu⟩ := hu
      split at h
      · cases h
        exact ⟨.bool false, bin_eql rfl rfl (eq_ptr hu), rfl⟩
      · cases h
        exact ⟨.bool true, bin_neq rfl rfl (eq_ptr hu), rfl⟩
      · cases h
    · cases h
  · obtain ⟨B, d, S, c', _, rfl, _⟩ := ha
    have hb' : v = .slice none 0 0 := hb
    subst hb'
    split at h
    · rename_i hp
      have hu : ∃ e, P.underlying t = some (.slice e) := by
        unfold isSl at hp
        split at hp
        · rename_i e he; exact ⟨e, he⟩
        · cases hp
      obtain ⟨e, hu⟩ := hu
      split at h
      · cases h
        exact ⟨.bool false, bin_eql rfl rfl (eq_sl hu), rfl⟩
      · cases h
        exact ⟨.bool true, bin_neq rfl rfl (eq_sl hu), rfl⟩
      · cases h
    · cases h
  · cases h
/-- bytes as a text -/
def bytesL : List SV → Option (List Int)
  | [] => some []
  | .f (.int .u8 n) :: r => (bytesL r).map (n :: ·)
  | _ :: _ => none
theorem bytesL_rel {γ : Pl} : ∀ {xs : List SV} {ns : List Int} {us : List Value}, bytesL xs = some ns → All2 (RS γ) xs us → us = ns.map (Value.int .u8)
  | [], _, [], h, _ => by cases h; rfl
  | x :: r, ns, u :: us, h, hr => by
    unfold bytesL at h
    split at h
    · rename_i heq; cases heq
    · rename_i heq
      cases heq
      obtain ⟨ws, h1, rfl⟩ := Option.map_eq_some_iff.1 h
      rw [bytesL_rel h1 hr.2]
      have := hr.1
      simp only [RS, FV.val] at this
      rw [this]
      rfl
    · cases h
  | [], _, _ :: _, _, hr => hr.elim
  | _ :: _, _, [], _, hr => hr.elim
def strNums (ns : List Int) : List UInt8 := ns.map fun n => UInt8.ofNat n.toNat
theorem foldl_strNums (ns : List Int) (l : List UInt8) : ns.foldl (fun (r : ByteArray) n => r.push (UInt8.ofNat n.toNat)) ⟨⟨l⟩⟩ = ⟨⟨l ++ strNums ns⟩⟩ := by
  induction ns generalizing l with
  | nil => simp [strNums]
  | cons n r ih =>
    have : (ByteArray.mk ⟨l⟩).push (UInt8.ofNat n.toNat) = ⟨⟨l ++ [UInt8.ofNat n.toNat]⟩⟩ := by
      simp [ByteArray.push]
    rw [List.foldl_cons, this, ih]
    simp [strNums]
def convA (P : Program) (s : AS) (src dst : Nat) (a : AV) : Option AV :=
  match a with
  | .sc (.f u) => (flatS P (convert src dst u.val)).bind absV
  | .sc (.sl b o n c z) => match fnd s.H b, P.underlying src, P.underlying dst with
    | some (.cells ty L), some (.slice e), some .string => match P.underlying e with
      | some (.int .u8) => if o + n ≤ L.length then (bytesL ((L.drop o).take n)).map fun ns => .sc (.f (.str (strNums ns))) else none
      | _ => none
    | _, _, _ => none
  | _ => none
theorem convA_ok {P : Program} {γ : Pl} {s : AS} {w : World} {src dst : Nat} {a r : AV} {u : Value} (hh : HR γ s w) (ha : RA γ a u) (h : convA P s src dst a = some r) :
    ∃ z, (convert src dst u).run P w = .ok z w ∧ RA γ r z := by
  unfold convA at h
  split at h
  · rename_i p
    have ha' : u = p.val := ha
    subst ha'
    obtain ⟨z, hz, hr⟩ := Option.bind_eq_some_iff.1 h
    exact ⟨z, flatS_run hz w, absV_rel hr⟩
  · rename_i b o n c z
    split at h
    · rename_i ty L e hf hs hd
      split at h
      · rename_i he
        split at h
        · rename_i hl
          obtain ⟨ns, hns, rfl⟩ := Option.map_eq_some_iff.1 h
          obtain ⟨B, d, S, c', hb, rfl, hn, hc⟩ := ha
          obtain ⟨us, h1, h2, h3⟩ := OR.range (hh.obj _ _ (fnd_mem hf)) hb hl
          have hus := bytesL_rel hns h2
          have hlen : ns.length = n := by rw [hus] at h1; simpa using h1
          have hld : (loadCells ⟨B, d + o, none⟩ n).run P w = .ok (ns.map (Value.int .u8)).toArray w := by
            have := run_loadCells_list (P := P) w ⟨B, d + o, none⟩ us (fun j v hv => by rw [Addr.add_mid]; exact h3 j v hv)
            rw [h1, hus] at this
            exact this
          refine ⟨_, (run_convert_bytes_string w src dst e _ n c' hs he hd).trans (run_bytesToString w _ n c' ns hld), ?_⟩
          have := foldl_strNums ns []
          show _ = (FV.str _).val
          rw [FV.val, List.nil_append] at *
          exact congrArg Value.string this
        · cases h
      · cases h
    · cases h
  · cases h
end Go.Proofs.YteigplfldhdakaaGreatDoor.Ev
/- Maps. -/
namespace Go.Proofs.YteigplfldhdakaaGreatDoor.Ev
open Go Go.RowKit
abbrev Ent := (Bool × List FV) × (Bool × List SV)
def afind (k : Bool × List FV) : List Ent → Nat → Option (Nat × (Bool × List SV))
  | [], _ => none
  | e :: r, i => if k = e.1 then some (i, e.2) else afind k r (i + 1)
def FR (γ : Pl) : Option (Nat × (Bool × List SV)) → Option (Nat × Value) → Prop
  | none, none => True
  | some (i, v), some (j, u) => i = j ∧ RE γ v u
  | _, _ => False
/-- what is asked of keys -/
structure KeyLaw (P : Program) (ks : Nat → Bool × List FV → Bool) : Prop where
  find : ∀ kt k es cs γ b w, ks kt k = true → (∀ e ∈ es, ks kt e.1 = true) → entsR γ b es cs → ∃ r, (Instr.findKey kt (keyVal k) cs).run P w = .ok r w ∧ FR γ (afind k es 0) r
  chk : ∀ kt k e w, ks kt k = true → (Instr.checkKey e 10000 kt (keyVal k)).run P w = .ok () w
  bits : ∀ kt k, ks kt k = true → Instr.sameBits 10000 (keyVal k) (keyVal k) = true
theorem entsR_len {γ : Pl} : ∀ {n : Nat} {es : List Ent} {cs : List MapEntry}, entsR γ n es cs → cs.length = es.length
  | _, [], [], _ => rfl
  | _, _ :: _, _ :: _, h => by simp [entsR_len h.2]
  | _, [], _ :: _, h => h.elim
  | _, _ :: _, [], h => h.elim
theorem entsR_get {γ : Pl} : ∀ {n i : Nat} {es : List Ent} {cs : List MapEntry} {e : Ent}, entsR γ n es cs → es[i]? = some e → ∃ c, cs[i]? = some c ∧ c.key = keyVal e.1 ∧ RE γ e.2 c.val ∧ c.born = n + i
  | n, 0, e :: es, c :: cs, _, h, he => by cases he; exact ⟨c, rfl, h.1.1, h.1.2.1, by have := h.1.2.2; omega⟩
  | n, i + 1, e :: es, c :: cs, _, h, he => by
    obtain ⟨c', h1, h2, h3, h4⟩ := entsR_get (i := i) h.2 (by simpa using he)
    exact ⟨c', by simpa using h1, h2, h3, by omega⟩
  | _, _, [], _, _, _, he => by simp at he
  | _, _, _ :: _, [], _, h, _ => h.elim
theorem entsR_app {γ : Pl} {e : Ent} {c : MapEntry} : ∀ {n : Nat} {es : List Ent} {cs : List MapEntry}, entsR γ n es cs → c.key = keyVal e.1 → RE γ e.2 c.val → c.born = n + es.length → entsR γ n (es ++ [e]) (cs ++ [c])
  | n, [], [], _, h1, h2, h3 => ⟨⟨h1, h2, by simpa using h3⟩, trivial⟩
  | n, _ :: es, _ :: cs, h, h1, h2, h3 => ⟨h.1, entsR_app h.2 h1 h2 (by rw [h3, List.length_cons]; omega)⟩
  | _, [], _ :: _, h, _, _, _ => h.elim
  | _, _ :: _, [], h, _, _, _ => h.elim
theorem entsR_set {γ : Pl} {v : Bool × List SV} {u : Value} {k : Bool × List FV} : ∀ {n i : Nat} {es : List Ent} {cs : List MapEntry} {e : Ent}, entsR γ n es cs → es[i]? = some e → e.1 = k → RE γ v u →
    entsR γ n (es.set i (k, v)) (cs.modify i fun e => { e with key := keyVal k, val := u })
  | n, 0, e :: es, c :: cs, _, h, he, hk, hv => by
    cases he
    exact ⟨⟨rfl, hv, h.1.2.2⟩, h.2⟩
  | n, i + 1, e :: es, c :: cs, _, h, he, hk, hv => ⟨h.1, entsR_set (i := i) h.2 (by simpa using he) hk hv⟩
  | _, _, [], _, _, _, he, _, _ => by simp at he
  | _, _, _ :: _, [], _, h, _, _, _ => h.elim
theorem afind_some {k : Bool × List FV} : ∀ {es : List Ent} {i j : Nat} {v : Bool × List SV}, afind k es i = some (j, v) → ∃ m, j = i + m ∧ es[m]? = some (k, v)
  | e :: es, i, j, v, h => by
    unfold afind at h
    by_cases hk : k = e.1
    · rw [if_pos hk] at h
      cases h
      exact ⟨0, rfl, by rw [hk]; rfl⟩
    · rw [if_neg hk] at h
      obtain ⟨m, h1, h2⟩ := afind_some h
      exact ⟨m + 1, by omega, by simpa using h2⟩
/-- a value as a key, as an entry -/
def flF : List SV → Option (List FV)
  | [] => some []
  | .f x :: r => (flF r).map (x :: ·)
  | _ :: _ => none
def AV.key : AV → Option (Bool × List FV)
  | .sc (.f x) => some (false, [x])
  | .ag xs => (flF xs).map (true, ·)
  | _ => none
def AV.ae : AV → Option (Bool × List SV)
  | .sc x => some (false, [x])
  | .ag xs => some (true, xs)
  | .tu _ => none
  | .top => none
theorem flF_rel {γ : Pl} : ∀ {xs : List SV} {fs : List FV} {us : List Value}, flF xs = some fs → All2 (RS γ) xs us → us = fs.map FV.val
  | [], _, [], h, _ => by cases h; rfl
  | x :: r, fs, u :: us, h, hr => by
    unfold flF at h
    split at h
    · rename_i heq; cases heq
    · rename_i heq
      cases heq
      obtain ⟨ws, h1, rfl⟩ := Option.map_eq_some_iff.1 h
      rw [flF_rel h1 hr.2]
      have := hr.1
      simp only [RS] at this
      rw [this]
      rfl
    · cases h
  | [], _, _ :: _, _, hr => hr.elim
  | _ :: _, _, [], _, hr => hr.elim
theorem key_rel {γ : Pl} {a : AV} {k : Bool × List FV} {u : Value} (h : a.key = some k) (hr : RA γ a u) : u = keyVal k := by
  unfold AV.key at h
  split at h
  · cases h; exact hr
  · obtain ⟨fs, h1, rfl⟩ := Option.map_eq_some_iff.1 h
    obtain ⟨us, rfl, h2⟩ := hr
    rw [flF_rel h1 h2]
    rfl
  · cases h
theorem ae_rel {γ : Pl} {a : AV} {v : Bool × List SV} {u : Value} (h : a.ae = some v) (hr : RA γ a u) : RE γ v u := by
  unfold AV.ae at h
  split at h
  · cases h; exact ⟨_, rfl, hr⟩
  · cases h; exact hr
  · cases h
  · cases h
def mapTy (P : Program) (t : Nat) : Option (Nat × Nat) := match P.underlying t with | some (.map k e) => some (k, e) | _ => none
theorem mapTy_some {P : Program} {t k e : Nat} (h : mapTy P t = some (k, e)) : P.underlying t = some (.map k e) := by
  unfold mapTy at h
  split at h
  · rename_i hu; cases h; exact hu
  · cases h
def zeroP (P : Program) (t : Nat) : Option Value := (P.info? t).bind (·.zero)
theorem run_zeroP {P : Program} {t : Nat} {z : Value} (h : zeroP P t = some z) (w : World) : (zeroValue t).run P w = .ok z w := by
  obtain ⟨i, hi, hz⟩ := Option.bind_eq_some_iff.1 h
  simp [zeroValue, typeInfo, hi, hz]
def keysOk (ks : Nat → Bool × List FV → Bool) (kt : Nat) (es : List Ent) : Bool := es.all fun e => ks kt e.1
def lookA (P : Program) (ks : Nat → Bool × List FV → Bool) (s : AS) (t : Nat) (m k : AV) (ok : Bool) : Option AV :=
  match m, k.key, mapTy P t with
  | .sc (.mp b), some k, some (kt, e) => match fnd s.H b with
    | some (.map es) =>
      if ks kt k && keysOk ks kt es then
        match afind k es 0 with
        | some (_, v) => some (if ok then .tu [v, (false, [.f (.bool true)])] else AE.av v)
        | none => match (zeroP P e).bind absV with
          | some z => match z.ae with
            | some v => some (if ok then .tu [v, (false, [.f (.bool false)])] else AE.av v)
            | none => none
          | none => none
      else none
    | _ => none
  | _, _, _ => none
section
variable {P : Program} {ks : Nat → Bool × List FV → Bool} (hK : KeyLaw P ks)
include hK
theorem lookA_ok {γ : Pl} {s : AS} {w : World} {t : Nat} {m k r : AV} {u v : Value} {ok : Bool} (hh : HR γ s w) (hm : RA γ m u) (hk : RA γ k v) (h : lookA P ks s t m k ok = some r) :
    ∃ z, (Instr.lookup t u v ok).run P w = .ok z w ∧ RA γ r z := by
  unfold lookA at h
  split at h
  · rename_i b k' kt e hkk hmt
    have hu := mapTy_some hmt
    have hv := key_rel hkk hk
    subst hv
    split at h
    · rename_i es hf
      split at h
      · rename_i hc
        rw [Bool.and_eq_true] at hc
        obtain ⟨B, d, S, hb, rfl⟩ := hm
        obtain ⟨B', d', S', cs, h1, h2, h3⟩ := hh.obj _ _ (fnd_mem hf)
        rw [hb] at h1
        cases h1
        have hall : ∀ e ∈ es, ks kt e.1 = true := fun e he => List.all_eq_true.1 hc.2 e he
        obtain ⟨q, hq, hfr⟩ := hK.find kt k' es cs.toList γ 0 w hc.1 hall h3
        have hck := hK.chk kt k' cs.isEmpty w hc.1
        split at h
        · rename_i j v hfi
          rw [hfi] at hfr
          cases q with
          | none => exact hfr.elim
          | some q =>
            obtain ⟨j', u'⟩ := q
            obtain ⟨rfl, hre⟩ := hfr
            cases h
            refine ⟨if ok then .tuple #[u', .bool true] else u', ?_, ?_⟩
            · simp [Instr.lookup, run_underlying hu, MapKept.run_getObj_map h2, hck, hq, Result.andThen]
            · cases ok
              · exact AE.av_rel hre
              · exact ⟨[u', .bool true], rfl, hre, ⟨_, rfl, rfl⟩, trivial⟩
        · rename_i hfi
          rw [hfi] at hfr
          cases q with
          | some q => exact hfr.elim
          | none =>
            split at h
            · rename_i z hz
              obtain ⟨zv, hz1, hz2⟩ := Option.bind_eq_some_iff.1 hz
              split at h
              · rename_i v hae
                cases h
                have hre := ae_rel hae (absV_rel (γ := γ) hz2)
                refine ⟨if ok then .tuple #[zv, .bool false] else zv, ?_, ?_⟩
                · simp [Instr.lookup, run_underlying hu, MapKept.run_getObj_map h2, hck, hq, run_zeroP hz1, Result.andThen]
                · cases ok
                  · exact AE.av_rel hre
                  · exact ⟨[zv, .bool false], rfl, hre, ⟨_, rfl, rfl⟩, trivial⟩
              · cases h
            · cases h
      · cases h
    · cases h
  · cases h
end
def updA (P : Program) (ks : Nat → Bool × List FV → Bool) (s : AS) (t : Nat) (m k v : AV) : Option AS :=
  match m, k.key, v.ae, mapTy P t with
  | .sc (.mp b), some k, some v, some (kt, _) => match fnd s.H b with
    | some (.map es) =>
      if ks kt k && keysOk ks kt es then
        match afind k es 0 with
        | some (i, _) => some ⟨(b, .map (es.set i (k, v))) :: ers s.H b, s.nx⟩
        | none => some ⟨(b, .map (es ++ [(k, v)])) :: ers s.H b, s.nx⟩
      else none
    | _ => none
  | _, _, _, _ => none
section
variable {P : Program} {ks : Nat → Bool × List FV → Bool} (hK : KeyLaw P ks)
include hK
theorem updA_ok {γ : Pl} {s s' : AS} {w : World} {t : Nat} {m k v : AV} {um uk uv : Value} (hh : HR γ s w) (hm : RA γ m um) (hk : RA γ k uk) (hv : RA γ v uv) (h : updA P ks s t m k v = some s') :
    ∃ w', (Instr.mapUpdate t um uk uv).run P w = .ok () w' ∧ HR γ s' w' ∧ Fr γ s w γ s' w' := by
  unfold updA at h
  split at h
  · rename_i b k' v' kt e hkk hve hmt
    have hu := mapTy_some hmt
    have hkv := key_rel hkk hk
    subst hkv
    have hre := ae_rel hve hv
    split at h
    · rename_i es hf
      split at h
      · rename_i hc
        rw [Bool.and_eq_true] at hc
        obtain ⟨B, d, S, hb, rfl⟩ := hm
        have hmem := fnd_mem hf
        obtain ⟨B', d', S', cs, h1, h2, h3⟩ := hh.obj _ _ hmem
        rw [hb] at h1
        cases h1
        have hall : ∀ e ∈ es, ks kt e.1 = true := fun e he => List.all_eq_true.1 hc.2 e he
        obtain ⟨q, hq, hfr⟩ := hK.find kt k' es cs.toList γ 0 w hc.1 hall h3
        have hck := hK.chk kt k' false w hc.1
        have hBl : B < w.heap.size := (Array.getElem?_eq_some_iff.1 h2).1
        have fin : ∀ (es' : List Ent) (cs' : Array MapEntry), entsR γ 0 es' cs'.toList →
            HR γ ⟨(b, .map es') :: ers s.H b, s.nx⟩ (w.putObj B (.map cs' es'.length)) ∧ Fr γ s w γ ⟨(b, .map es') :: ers s.H b, s.nx⟩ (w.putObj B (.map cs' es'.length)) := fun es' cs' hes =>
          HR.upd hh hmem hb (Sub.refl _) hb (.inl rfl) (by simp [World.putObj]) (fun k hk => World.putObj_heap_other hk)
            ⟨B, d, S, cs', hb, World.putObj_heap_same hBl, hes⟩ hh.nxt ⟨rfl, rfl, rfl⟩ (fun _ _ h => .inl h) (Nat.le_refl _)
        split at h
        · rename_i i vv hfi
          rw [hfi] at hfr
          cases q with
          | none => exact hfr.elim
          | some q =>
            obtain ⟨j', u'⟩ := q
            obtain ⟨rfl, _⟩ := hfr
            cases h
            obtain ⟨mm, hj, hget⟩ := afind_some hfi
            have hj' : mm = i := by omega
            subst hj'
            obtain ⟨c, hc1, hc2, hc3, hc4⟩ := entsR_get h3 hget
            have hsz : cs[mm]? = some c := by simpa using hc1
            have hkeep : (Instr.keyThatStays c.key (keyVal k')).run P w = .ok (keyVal k') w := by
              rw [hc2]
              unfold Instr.keyThatStays
              rw [if_pos (hK.bits kt k' hc.1)]
              rfl
            have hes := entsR_set (v := v') (u := uv) h3 hget rfl hre
            have hfin := fin (es.set mm (k', v')) (cs.modify mm fun e => { e with key := keyVal k', val := uv }) (by simpa using hes)
            rw [List.length_set] at hfin
            refine ⟨_, ?_, hfin⟩
            simp [Instr.mapUpdate, run_underlying hu, MapKept.run_getObj_map h2, hck, hq, hsz, hkeep, MapKept.run_setObj_map _ h2, Result.andThen, World.putObj]
        · rename_i hfi
          rw [hfi] at hfr
          cases q with
          | some q => exact hfr.elim
          | none =>
            cases h
            have hfin := fin (es ++ [(k', v')]) (cs.push { key := keyVal k', val := uv, born := es.length }) (by simpa using entsR_app h3 rfl hre (by simp))
            rw [List.length_append] at hfin
            refine ⟨_, ?_, hfin⟩
            simp [Instr.mapUpdate, run_underlying hu, MapKept.run_getObj_map h2, hck, hq, MapKept.run_setObj_map _ h2, Result.andThen, World.putObj]
      · cases h
    · cases h
  · cases h
end
end Go.Proofs.YteigplfldhdakaaGreatDoor.Ev
/- Operations that write: new blocks, stores. -/
namespace Go.Proofs.YteigplfldhdakaaGreatDoor.Ev
open Go Go.RowKit
/-- a row of cells, new -/
def newA (s : AS) (ty : Nat) (L : List SV) : AS := ⟨(s.nx, .cells ty L) :: s.H, s.nx + 1⟩
theorem All2.size {γ : Pl} {L : List SV} {C : Array Value} (h : All2 (RS γ) L C.toList) : C.size = L.length := by
  have := All2.len h
  have e : C.toList.length = C.size := Array.length_toList
  omega
theorem HR.cells {γ : Pl} {s : AS} {w : World} {L : List SV} {C : Array Value} {e : TypeId} (h : HR γ s w) (hr : All2 (RS γ) L C.toList) :
    HR (ext γ s.nx (w.heap.size, 0, C.size)) (newA s e L) (w.alloc (.cells C e)) ∧ Fr γ s w (ext γ s.nx (w.heap.size, 0, C.size)) (newA s e L) (w.alloc (.cells C e)) := by
  have hsub := ext_sub (x := (w.heap.size, 0, C.size)) (h.nxt _ (Nat.le_refl _))
  refine HR.new h ⟨w.heap.size, 0, C.size, C, ext_at _ _ _, ?_, rfl, by rw [All2.size hr]; omega, fun i x hx => ?_⟩
  · show (w.heap.push _)[w.heap.size]? = _
    simp
  · obtain ⟨u, h1, h2⟩ := All2.get i hr hx
    exact ⟨u, by rw [Nat.zero_add]; rw [Array.getElem?_toList] at h1; exact h1, RS.mono hsub h2⟩
/-- a piece of the run, done: what comes out -/
structure Done (γ : Pl) (s : AS) (w : World) (v : AV) (s' : AS) (u : Value) (w' : World) : Prop where
  ex : ∃ γ', HR γ' s' w' ∧ Fr γ s w γ' s' w' ∧ RA γ' v u
theorem Done.quiet {γ : Pl} {s : AS} {w : World} {v : AV} {u : Value} (h : HR γ s w) (hv : RA γ v u) : Done γ s w v s u w := ⟨γ, h, Fr.refl _ _ _, hv⟩
def undA : AV := .tu []
theorem und_rel (γ : Pl) : RA γ undA undef := ⟨[], rfl, trivial⟩
def zL (P : Program) (t : Nat) : Option (List SV) := (zeroP P t).bind fun z => (absV z).bind AV.cells
theorem zL_rel {P : Program} {t : Nat} {L : List SV} (h : zL P t = some L) (γ : Pl) : ∃ z, zeroP P t = some z ∧ All2 (RS γ) L z.cells.toList := by
  obtain ⟨z, hz, h2⟩ := Option.bind_eq_some_iff.1 h
  obtain ⟨v, hv, h3⟩ := Option.bind_eq_some_iff.1 h2
  exact ⟨z, hz, RA.cells (absV_rel hv) h3⟩
section
variable {P : Program} {γ : Pl} {s : AS} {w : World}
theorem new_done {L : List SV} {C : Array Value} {e : TypeId} (h : HR γ s w) (hr : All2 (RS γ) L C.toList) : Done γ s w (.sc (.pt s.nx 0)) (newA s e L) (.pointer (some ⟨w.heap.size, 0, none⟩)) (w.alloc (.cells C e)) := by
  obtain ⟨h1, h2⟩ := HR.cells (e := e) h hr
  exact ⟨_, h1, h2, w.heap.size, 0, C.size, ext_at _ _ _, rfl⟩
theorem alloc_ok {e : Nat} {L : List SV} (h : HR γ s w) (hz : zL P e = some L) : ∃ u w', (Instr.alloc e true (.tuple #[])).run P w = .ok u w' ∧ Done γ s w (.sc (.pt s.nx 0)) (newA s e L) u w' := by
  obtain ⟨z, hz1, hz2⟩ := zL_rel hz γ
  exact ⟨_, _, by simp [Instr.alloc, run_zeroP hz1, newVar, newRow], new_done (e := e) h hz2⟩
theorem box_ok {e : Nat} {v : AV} {u : Value} {L : List SV} (h : HR γ s w) (hv : RA γ v u) (hl : v.cells = some L) : ∃ u' w', (Instr.box e u).run P w = .ok u' w' ∧ Done γ s w (.sc (.pt s.nx 0)) (newA s e L) u' w' :=
  ⟨_, _, by simp [Instr.box, newVar, newRow], new_done (e := e) h (RA.cells hv hl)⟩
theorem makeMap_ok {t : Nat} (h : HR γ s w) : ∃ u w', (Instr.makeMap t none).run P w = .ok u w' ∧ Done γ s w (.sc (.mp s.nx)) ⟨(s.nx, .map []) :: s.H, s.nx + 1⟩ u w' := by
  have hh := HR.new (S := 0) (p := .map #[] 0) (o := .map []) h ⟨w.heap.size, 0, 0, #[], ext_at _ _ _, by show (w.heap.push _)[w.heap.size]? = _; simp, trivial⟩
  exact ⟨_, _, run_makeMap t w, _, hh.1, hh.2, w.heap.size, 0, 0, ext_at _ _ _, rfl⟩
/-- parts are laid into a row -/
def afill (place : Nat → Option (Nat × Nat)) (L : List SV) : List (Nat × AV) → Option (List SV)
  | [] => some L
  | (i, v) :: r => match place i, v.cells with
    | some (off, size), some xs => if xs.length = size ∧ off + xs.length ≤ L.length then afill place (L.take off ++ xs ++ L.drop (off + xs.length)) r else none
    | _, _ => none
theorem foldl_seg : ∀ (l : List Value) (off i : Nat) (C : Array Value), off + i + l.length ≤ C.size →
    ((l.zipIdx i).foldl (fun (cs : Array Value) (p : Value × Nat) => cs.setIfInBounds (off + p.2) p.1) C).toList = C.toList.take (off + i) ++ l ++ C.toList.drop (off + i + l.length)
  | [], off, i, C, _ => by simp
  | v :: l, off, i, C, hl => by
    rw [List.length_cons] at hl
    rw [List.zipIdx_cons, List.foldl_cons, foldl_seg l off (i + 1) _ (by simp; omega)]
    have hC : C.toList.length = C.size := Array.length_toList
    apply List.ext_getElem?
    intro k
    simp only [Array.toList_setIfInBounds, List.getElem?_append, List.length_append, List.length_take, List.length_set, List.length_cons, List.getElem?_take, List.getElem?_set, List.getElem?_drop, List.getElem?_cons]
    grind
theorem afill_ok {place : Nat → Option (Nat × Nat)} : ∀ {ps : List (Nat × AV)} {qs : List (Nat × Value)} {L L' : List SV} {C : Array Value}, All2 (fun p q => p.1 = q.1 ∧ RA γ p.2 q.2) ps qs → All2 (RS γ) L C.toList → afill place L ps = some L' →
    ∃ C', Instr.fill place C qs = some C' ∧ All2 (RS γ) L' C'.toList
  | [], [], L, L', C, _, hC, h => by cases h; exact ⟨C, rfl, hC⟩
  | (i, v) :: ps, (j, u) :: qs, L, L', C, hp, hC, h => by
    obtain ⟨⟨hij, hv⟩, hp2⟩ := hp
    simp only at hij hv
    subst hij
    unfold afill at h
    split at h
    · rename_i off size xs hpl hxs
      split at h
      · rename_i hc
        obtain ⟨hc1, hc2⟩ := hc
        have hcl := RA.cells hv hxs
        have hsz := All2.size hcl
        have hsC := All2.size hC
        have hseg := foldl_seg u.cells.toList off 0 C (by have : u.cells.toList.length = u.cells.size := Array.length_toList; omega)
        have hul : u.cells.toList.length = xs.length := by have : u.cells.toList.length = u.cells.size := Array.length_toList; omega
        rw [Nat.add_zero, hul] at hseg
        have hnew : All2 (RS γ) (L.take off ++ xs ++ L.drop (off + xs.length)) ((u.cells.zipIdx.foldl (fun (cs : Array Value) (p : Value × Nat) => cs.setIfInBounds (off + p.2) p.1) C)).toList := by
          rw [← Array.foldl_toList, Array.toList_zipIdx, hseg]
          exact All2.app (All2.app (All2.take _ hC) hcl) (All2.drop _ hC)
        obtain ⟨C', h1, h2⟩ := afill_ok hp2 hnew h
        refine ⟨C', ?_, h2⟩
        have hno : ¬ (u.cells.size ≠ size ∨ off + u.cells.size > C.size) := by omega
        simp only [Instr.fill, hpl]
        rw [if_neg (by simpa using hno)]
        exact h1
      · cases h
    · cases h
  | [], _ :: _, _, _, _, hp, _, _ => hp.elim
  | _ :: _, [], _, _, _, hp, _, _ => hp.elim
def placesP (P : Program) (t : Nat) : Option (List (Nat × Nat)) :=
  match P.underlying t with
  | some (.struct fs) => fs.toList.mapM fun f => (P.info? f.type).map fun i => (f.offset, i.size)
  | _ => none
def buildA (P : Program) (t : Nat) (ps : List (Nat × AV)) : Option AV :=
  match placesP P t, zL P t with
  | some pl, some L => (afill (fun i => pl[i]?) L ps).map .ag
  | _, _ => none
theorem build_ok {t : Nat} {ps : List (Nat × AV)} {qs : Array (Nat × Value)} {v : AV} (hp : All2 (fun p q => p.1 = q.1 ∧ RA γ p.2 q.2) ps qs.toList) (h : buildA P t ps = some v) :
    ∃ u, (Instr.build t qs).run P w = .ok u w ∧ RA γ v u := by
  unfold buildA at h
  split at h
  · rename_i pl L hpl hz
    obtain ⟨L', hL', rfl⟩ := Option.map_eq_some_iff.1 h
    obtain ⟨z, hz1, hz2⟩ := zL_rel hz γ
    obtain ⟨i, hi, hz3⟩ := Option.bind_eq_some_iff.1 hz1
    obtain ⟨C', h1, h2⟩ := afill_ok hp hz2 hL'
    unfold placesP at hpl
    split at hpl
    · rename_i fs hu
      have hb : P.built t qs.toList = some C' := by
        unfold Program.built
        simp only [hi, hu, hz3, hpl]
        rw [← h1]
        congr 1
        funext k
        simp
      exact ⟨_, run_build w t qs C' hb, C'.toList, by simp, h2⟩
    · cases hpl
  · cases h
def made (L : List SV) (n : Nat) : List SV := (List.range n).map fun k => (L[k % L.length]?).getD (.f .nilp)
theorem made_rel {L : List SV} {C : Array Value} (h : All2 (RS γ) L C.toList) (h0 : 0 < L.length) (n : Nat) : All2 (RS γ) (made L n) (madeCells C n).toList := by
  refine All2.of (by simp [made, madeCells]) fun i x y hx hy => ?_
  unfold made at hx
  rw [List.getElem?_map] at hx
  obtain ⟨k, hk, rfl⟩ := Option.map_eq_some_iff.1 hx
  have hin : i < n := by
    have := (List.getElem?_eq_some_iff.1 hk).1
    simpa using this
  have hki : k = i := by
    have := (List.getElem?_eq_some_iff.1 hk).2
    simpa using this.symm
  subst hki
  have hlt : k % L.length < L.length := Nat.mod_lt _ h0
  obtain ⟨u, h1, h2⟩ := All2.get (k % L.length) h (List.getElem?_eq_getElem hlt)
  rw [List.getElem?_eq_getElem hlt, Option.getD_some]
  have hy' : y = u := by
    simp only [madeCells, Array.getElem?_toList, Array.getElem?_map, Array.getElem?_range] at hy
    rw [if_pos hin, Option.map_some] at hy
    have hs := All2.size h
    rw [← Option.some.inj hy, hs]
    rw [Array.getElem?_toList] at h1
    rw [getElem!_def, h1]
  rw [hy']
  exact h2
def bsliceA (P : Program) (s : AS) (t n : Nat) (ps : List (Nat × AV)) : Option (AV × AS) :=
  match elemP P t with
  | some e => match sizeP P e, zL P e with
    | some z, some L =>
      if n = 0 ∧ ps.isEmpty then some (.sc (.sl s.nx 0 0 (some 0) z), newA s e [])
      else if 0 < n * z ∧ n * z ≤ 10000 ∧ 0 < L.length then (afill (fun i => some (i * z, z)) (made L (n * z)) ps).map fun L' => (.sc (.sl s.nx 0 n (some n) z), newA s e L') else none
    | _, _ => none
  | none => none
theorem run_sizeP' {P : Program} {e z : Nat} (hz : sizeP P e = some z) (w : World) : (sizeOf e).run P w = .ok z w := run_sizeP hz w
theorem afill_len {place : Nat → Option (Nat × Nat)} : ∀ {ps : List (Nat × AV)} {L L' : List SV}, afill place L ps = some L' → L'.length = L.length
  | [], L, L', h => by cases h; rfl
  | (i, v) :: ps, L, L', h => by
    unfold afill at h
    split at h
    · rename_i off size xs hpl hxs
      split at h
      · rename_i hc
        rw [afill_len h, List.length_append, List.length_append, List.length_take, List.length_drop]
        omega
      · cases h
    · cases h
theorem bslice_ok {t n : Nat} {ps : List (Nat × AV)} {qs : Array (Nat × Value)} {r : AV × AS} (h : HR γ s w) (hp : All2 (fun p q => p.1 = q.1 ∧ RA γ p.2 q.2) ps qs.toList) (hb : bsliceA P s t n ps = some r) :
    ∃ u w', (Instr.buildSlice t n qs).run P w = .ok u w' ∧ Done γ s w r.1 r.2 u w' := by
  unfold bsliceA at hb
  split at hb
  · rename_i e he
    split at hb
    · rename_i z L hz hL
      split at hb
      · rename_i hc0
        obtain ⟨rfl, hpe⟩ := hc0
        cases hb
        have hps : ps = [] := by simpa using hpe
        subst hps
        have hqs : qs = #[] := by
          have := All2.len hp
          have h2 : qs.toList = [] := List.eq_nil_of_length_eq_zero (by simpa using this.symm)
          simpa using h2
        subst hqs
        have hrun : (Instr.buildSlice t 0 #[]).run P w = .ok (.slice (some ⟨w.heap.size, 0, none⟩) 0 0) (w.alloc (.cells #[] e)) := by
          simp [Instr.buildSlice, run_underlying (elemP_some he), run_sizeP' hz w, Instr.fill, newRow, Array.range_zero']
        obtain ⟨k1, k2⟩ := HR.cells (e := e) (L := []) (C := #[]) h trivial
        exact ⟨_, _, hrun, _, k1, k2, w.heap.size, 0, 0, 0, ext_at _ _ _, rfl, Nat.le_refl _, rfl, by omega⟩
      rename_i hc0
      split at hb
      · rename_i hc
        obtain ⟨hc1, hc2, hc3⟩ := hc
        obtain ⟨L', hL', rfl⟩ := Option.map_eq_some_iff.1 hb
        obtain ⟨zv, hz1, hz2⟩ := zL_rel hL γ
        obtain ⟨i, hi, his⟩ := Option.map_eq_some_iff.1 hz
        obtain ⟨i', hi', hz3⟩ := Option.bind_eq_some_iff.1 hz1
        rw [hi] at hi'
        cases hi'
        subst his
        obtain ⟨C', h1, h2⟩ := afill_ok hp (made_rel hz2 hc3 (n * i.size)) hL'
        refine ⟨_, _, run_buildSlice w t e n qs C' i zv (elemP_some he) hi hz3 (by omega) (by omega) h1, ?_⟩
        obtain ⟨k1, k2⟩ := HR.cells (e := e) h h2
        have hsz : C'.size = n * i.size := by rw [All2.size h2, afill_len hL']; simp [made]
        exact ⟨_, k1, k2, w.heap.size, 0, C'.size, n, ext_at _ _ _, rfl, Nat.le_refl _, rfl, by omega⟩
      · cases hb
    · cases hb
  · cases hb
def mslA (P : Program) (s : AS) (t : Nat) (l c : AV) : Option (AV × AS) :=
  match elemP P t, l, c with
  | some e, .sc (.f (.int _ l)), .sc (.f (.int _ c)) => match sizeP P e, zL P e, (P.info? e).map (·.bytes) with
    | some z, some L, some by_ => if 0 ≤ l ∧ l ≤ c ∧ c ≤ 10000 ∧ (by_ : Int) * c ≤ 1000000 ∧ 0 < L.length then some (.sc (.sl s.nx 0 l.toNat (some c.toNat) z), newA s e (made L (c.toNat * z))) else none
    | _, _, _ => none
  | _, _, _ => none
theorem msl_ok {t : Nat} {l c : AV} {ul uc : Value} {r : AV × AS} (h : HR γ s w) (hl : RA γ l ul) (hc : RA γ c uc) (hb : mslA P s t l c = some r) : ∃ u w', (Instr.makeSlice t ul uc).run P w = .ok u w' ∧ Done γ s w r.1 r.2 u w' := by
  unfold mslA at hb
  split at hb
  · rename_i e kl l kc c he
    split at hb
    · rename_i z L by_ hz hL hby
      split at hb
      · rename_i hcn
        obtain ⟨h1, h2, h3, h4, h5⟩ := hcn
        cases hb
        have hl' : ul = .int kl l := hl
        have hc' : uc = .int kc c := hc
        subst hl'
        subst hc'
        obtain ⟨zv, hz1, hz2⟩ := zL_rel hL γ
        obtain ⟨i, hi, his⟩ := Option.map_eq_some_iff.1 hz
        obtain ⟨i', hi', hz3⟩ := Option.bind_eq_some_iff.1 hz1
        obtain ⟨i'', hi'', hb2⟩ := Option.map_eq_some_iff.1 hby
        rw [hi] at hi' hi''
        cases hi'
        cases hi''
        subst his
        have hb3 : (i.bytes : Int) = by_ := by rw [hb2]
        have hm := made_rel hz2 h5 (c.toNat * i.size)
        obtain ⟨k1, k2⟩ := HR.cells (e := e) h hm
        refine ⟨_, _, run_make w t e i zv (elemP_some he) hi hz3 kl kc l c h1 h2 (by rw [hb3]; omega) (by omega), ⟨_, k1, k2, ?_⟩⟩
        exact ⟨w.heap.size, 0, _, c.toNat, ext_at _ _ _, rfl, by omega, rfl, by rw [size_madeCells]; omega⟩
      · cases hb
    · cases hb
  · cases hb
def storeA (P : Program) (s : AS) (t : Nat) (a v : AV) : Option AS :=
  match a, v.cells with
  | .sc (.pt b o), some xs => match fnd s.H b with
    | some (.cells ty L) => if sizeP P t = some xs.length ∧ o + xs.length ≤ L.length then some ⟨(b, .cells ty (L.take o ++ xs ++ L.drop (o + xs.length))) :: ers s.H b, s.nx⟩ else none
    | _ => none
  | _, _ => none
/-- cells of a block are written -/
theorem row_done {b o B d S ty : Nat} {L xs : List SV} {vs : List Value} (h : HR γ s w) (hf : fnd s.H b = some (.cells ty L)) (hb : γ b = some (B, d, S)) (hl : o + xs.length ≤ L.length) (hx : All2 (RS γ) xs vs) :
    ∃ C, w.heap[B]? = some (.cells C ty (0, 0)) ∧ C.size = S ∧ d + L.length ≤ S ∧
      HR γ ⟨(b, .cells ty (L.take o ++ xs ++ L.drop (o + xs.length))) :: ers s.H b, s.nx⟩ (w.setRow B (C.toList.take (d + o) ++ vs ++ C.toList.drop (d + o + vs.length)).toArray) ∧
      Fr γ s w γ ⟨(b, .cells ty (L.take o ++ xs ++ L.drop (o + xs.length))) :: ers s.H b, s.nx⟩ (w.setRow B (C.toList.take (d + o) ++ vs ++ C.toList.drop (d + o + vs.length)).toArray) := by
  have hm := fnd_mem hf
  obtain ⟨B', d', S', C, h1, h2, h3, h4, h5⟩ := h.obj _ _ hm
  rw [hb] at h1
  cases h1
  have hvl := All2.len hx
  have hC : C.toList.length = C.size := Array.length_toList
  have hlen : (C.toList.take (d + o) ++ vs ++ C.toList.drop (d + o + vs.length)).length = S := by
    rw [List.length_append, List.length_append, List.length_take, List.length_drop]; omega
  refine ⟨C, h2, h3, h4.1, ?_⟩
  refine HR.upd h hm hb (Sub.refl _) hb (.inl rfl) (by simp) (fun k hk => setRow_other w B k _ hk) ⟨B, d, S, _, hb, setRow_heap w B C _ ty (0, 0) h2, by simpa using hlen, ?_, fun i x hx' => ?_⟩ h.nxt ⟨rfl, rfl, rfl⟩ (fun _ _ h => .inl h) (Nat.le_refl _)
  · rw [List.length_append, List.length_append, List.length_take, List.length_drop]; omega
  · have hg : ∀ k : Nat, (C.toList.take (d + o) ++ vs ++ C.toList.drop (d + o + vs.length)).toArray[k]? = (C.toList.take (d + o) ++ vs ++ C.toList.drop (d + o + vs.length))[k]? := fun k => by simp
    rw [hg]
    rw [List.getElem?_append, List.getElem?_append] at hx' ⊢
    simp only [List.length_append, List.length_take] at hx' ⊢
    have hm1 : min o L.length = o := by omega
    have hm2 : min (d + o) C.toList.length = d + o := by omega
    rw [hm1] at hx'
    rw [hm2]
    by_cases c1 : i < o
    · rw [if_pos (by omega), if_pos (by omega), List.getElem?_take, if_pos (by omega)] at hx' ⊢
      obtain ⟨u, k1, k2⟩ := h5 i x hx'
      exact ⟨u, by rw [Array.getElem?_toList]; exact k1, k2⟩
    · by_cases c2 : i < o + xs.length
      · rw [if_pos (by omega), if_neg (by omega)] at hx' ⊢
        obtain ⟨u, k1, k2⟩ := All2.get _ hx hx'
        exact ⟨u, by rw [show d + i - (d + o) = i - o by omega]; exact k1, k2⟩
      · rw [if_neg (by omega), List.getElem?_drop] at hx' ⊢
        obtain ⟨u, k1, k2⟩ := h5 i x (by rw [← hx']; congr 1; omega)
        exact ⟨u, by rw [Array.getElem?_toList, ← k1]; congr 1; omega, k2⟩
theorem store_ok {t : Nat} {a v : AV} {ua uv : Value} {s' : AS} (h : HR γ s w) (ha : RA γ a ua) (hv : RA γ v uv) (hs : storeA P s t a v = some s') :
    ∃ w', (Instr.storeAt t ua uv).run P w = .ok () w' ∧ HR γ s' w' ∧ Fr γ s w γ s' w' := by
  unfold storeA at hs
  split at hs
  · rename_i b o xs hxs
    split at hs
    · rename_i ty L hf
      split at hs
      · rename_i hc
        obtain ⟨hc1, hc2⟩ := hc
        cases hs
        obtain ⟨B, d, S, hb, rfl⟩ := ha
        have hcl := RA.cells hv hxs
        have hlen := All2.len hcl
        obtain ⟨C, k1, k2, k3, k4⟩ := row_done h hf hb hc2 hcl
        refine ⟨_, ?_, k4⟩
        have h1 : ∀ v ∈ uv.cells.toList, v.oneCell' = true := fun v hv' => by
          obtain ⟨i, hi⟩ := List.getElem?_of_mem hv'
          obtain ⟨x, _, hx⟩ := All2.get' i hcl hi
          exact RS.one hx
        have hst := run_storeCells_at (P := P) B (d + o) ty uv.cells.toList 0 C w k1 (by omega) h1
        rw [Nat.add_zero] at hst
        have hsz : uv.cells.size = xs.length := All2.size hcl
        simp only [Instr.storeAt, Instr.sureAddr, Sem.run_bind, Sem.run_pure, Result.andThen_ok, storeVar, run_sizeP hc1 w]
        rw [if_neg (by omega)]
        simp only [Sem.run_bind, Sem.run_pure, Result.andThen_ok, hst]
      · cases hs
    · cases hs
  · cases hs
end
end Go.Proofs.YteigplfldhdakaaGreatDoor.Ev
/- append. -/
namespace Go.Proofs.YteigplfldhdakaaGreatDoor.Ev
open Go Go.RowKit
theorem HR.drew {γ : Pl} {s : AS} {w : World} (h : HR γ s w) : HR γ s w.drew := ⟨fun b o hb => OR.mono (Sub.refl _) (fun _ _ _ _ => rfl) (h.obj b o hb), h.nod, h.inj, h.nxt⟩
theorem Fr.of_drew {γ γ' : Pl} {s s' : AS} {w w' : World} (h : Fr γ s w.drew γ' s' w') : Fr γ s w γ' s' w' := ⟨h.sub, h.size, h.keep, h.im, h.same, h.ids, h.nxle⟩
section
variable {P : Program} {γ : Pl} {s : AS} {w : World}
theorem setCells_row {B o : Nat} {C : Array Value} {e : TypeId} {vs : List Value} (hB : w.heap[B]? = some (.cells C e (0, 0))) (hl : o + vs.length ≤ C.size) (h1 : ∀ v ∈ vs, v.oneCell' = true) :
    w.setCells B o vs = w.setRow B (C.toList.take o ++ vs ++ C.toList.drop (o + vs.length)).toArray := by
  have e1 := run_storeCells_at (P := default) B o e vs 0 C w hB (by omega) h1
  have e2 := run_storeCells_cells (P := default) B o vs 0 w (fun j hj => by simp [World.cell?, hB]; omega) (fun j hj => by simp [World.frozen?, hB]) h1
  rw [e2] at e1
  simpa using e1
/-- a block's cells are written, and it goes on under its own number or a new one -/
theorem row_upd {b b' nx' B d d' S ty e : Nat} {γ' : Pl} {L L' : List SV} {C C' : Array Value} (h : HR γ s w) (hf : fnd s.H b = some (.cells ty L)) (hb : γ b = some (B, d, S)) (hB : w.heap[B]? = some (.cells C e (0, 0))) (hs : Sub γ γ') (hb' : γ' b' = some (B, d', S))
    (hne : b' = b ∨ b' ∉ s.H.map (·.1)) (hsz : C'.size = S) (hl : d' + L'.length ≤ S ∧ (e = 121 → d' = 0 ∧ S = L'.length)) (hc : ∀ i x, L'[i]? = some x → ∃ u, C'[d' + i]? = some u ∧ RS γ x u) (hn : ∀ k, nx' ≤ k → γ' k = none) (hids : ∀ k x, γ' k = some x → γ k = some x ∨ s.nx ≤ k) (hnx : s.nx ≤ nx') :
    HR γ' ⟨(b', .cells e L') :: ers s.H b, nx'⟩ (w.setRow B C') ∧ Fr γ s w γ' ⟨(b', .cells e L') :: ers s.H b, nx'⟩ (w.setRow B C') :=
  HR.upd h (fnd_mem hf) hb hs hb' hne (by simp) (fun k hk => setRow_other w B k _ hk)
    ⟨B, d', S, C', hb', setRow_heap w B C _ e (0, 0) hB, hsz, hl, fun i x hx => let ⟨u, h1, h2⟩ := hc i x hx; ⟨u, h1, RS.mono hs h2⟩⟩ hn ⟨rfl, rfl, rfl⟩ hids hnx
/-- what is appended -/
def isStr (P : Program) (t : Nat) : Bool := match P.underlying t with | some .string => true | _ => false
def srcA (P : Program) (s : AS) (z tx : Nat) : AV → Option (Nat × List SV)
  | .sc (.f .nils) => if isSl P tx then some (0, []) else none
  | .sc (.f (.str l)) => if isStr P tx ∧ z = 1 then some (l.length, l.map fun b => .f (.int .u8 b.toNat)) else none
  | .sc (.sl b o n c z') => match fnd s.H b with
    | some (.cells ty L) => if isSl P tx ∧ z' = z ∧ o + n * z ≤ L.length then some (n, (L.drop o).take (n * z)) else none
    | _ => none
  | _ => none
theorem RS.ones {xs : List SV} {us : List Value} (h : All2 (RS γ) xs us) : ∀ v ∈ us, v.oneCell' = true := fun v hv => by
  obtain ⟨i, hi⟩ := List.getElem?_of_mem hv
  obtain ⟨x, _, hx⟩ := All2.get' i h hi
  exact RS.one hx
theorem src_ok {z m : Nat} {x : AV} {u : Value} {news : List SV} {tx : TypeId} (h : HR γ s w) (hx : RA γ x u) (hs : srcA P s z tx x = some (m, news)) :
    ∃ us, All2 (RS γ) news us ∧ Src P z tx u m us w := by
  have hk : isSl P tx = true → ∃ e', P.underlying tx = some (.slice e') := fun ht => by
    unfold isSl at ht
    split at ht
    · rename_i e he; exact ⟨e, he⟩
    · cases ht
  unfold srcA at hs
  split at hs
  · split at hs
    · rename_i ht
      obtain ⟨e', hk⟩ := hk ht
      cases hs
      have : u = .slice none 0 0 := hx
      subst this
      exact ⟨[], trivial, Src.ofNil w hk 0⟩
    · cases hs
  · rename_i l
    split at hs
    · rename_i hc
      obtain ⟨ht, rfl⟩ := hc
      have hk : P.underlying tx = some .string := by
        unfold isStr at ht
        split at ht
        · rename_i he; exact he
        · cases ht
      cases hs
      have : u = .string ⟨⟨l⟩⟩ := hx
      subst this
      refine ⟨byteCells ⟨⟨l⟩⟩, ?_, Src.ofString w hk ⟨⟨l⟩⟩⟩
      show All2 (RS γ) _ (l.map fun b => Value.int .u8 b.toNat)
      clear hx
      induction l with
      | nil => trivial
      | cons b r ih => exact ⟨rfl, ih⟩
    · cases hs
  · rename_i b o n c z'
    split at hs
    · rename_i ty L hf
      split at hs
      · rename_i hc
        obtain ⟨ht, rfl, hl⟩ := hc
        obtain ⟨e', hk⟩ := hk ht
        cases hs
        obtain ⟨B, d, S, c', hb, rfl, hn, _⟩ := hx
        obtain ⟨us, h1, h2, h3⟩ := OR.range (h.obj _ _ (fnd_mem hf)) hb hl
        exact ⟨us, h2, Src.ofSlice w hk ⟨B, d + o, none⟩ _ c' us h1 (fun j v hv => by rw [Addr.add_mid]; exact h3 j v hv) (RS.ones h2)⟩
      · cases hs
    · cases hs
  · cases hs
/-- a row that is new, of which the beginning is known -/
theorem HR.grown {L : List SV} {C : Array Value} {e : TypeId} (he : e ≠ 121) (h : HR γ s w) (hl : L.length ≤ C.size) (hc : ∀ (i : Nat) (x : SV), L[i]? = some x → ∃ u, C[i]? = some u ∧ RS γ x u) :
    HR (ext γ s.nx (w.heap.size, 0, C.size)) (newA s e L) (w.drew.alloc (.cells C e)) ∧ Fr γ s w (ext γ s.nx (w.heap.size, 0, C.size)) (newA s e L) (w.drew.alloc (.cells C e)) := by
  have hsub := ext_sub (x := (w.heap.size, 0, C.size)) (h.nxt _ (Nat.le_refl _))
  have hn := HR.new (p := .cells C e) (o := .cells e L) (S := C.size) h.drew ⟨w.heap.size, 0, C.size, C, ext_at _ _ _, by show (w.heap.push _)[w.heap.size]? = _; simp, rfl, ⟨by omega, fun h => absurd h he⟩, fun i x hx => by
    obtain ⟨u, h1, h2⟩ := hc i x hx
    exact ⟨u, by rw [Nat.zero_add]; exact h1, RS.mono hsub h2⟩⟩
  exact ⟨hn.1, Fr.of_drew hn.2⟩
/-- a block is left behind -/
theorem HR.forget (h : HR γ s w) (b : Nat) : HR γ ⟨ers s.H b, s.nx⟩ w := by
  have hsub : ∀ k, k ∈ (ers s.H b).map (·.1) → k ∈ s.H.map (·.1) := fun k hk => by
    obtain ⟨x, hx, rfl⟩ := List.mem_map.1 hk
    exact List.mem_map.2 ⟨x, ers_mem hx, rfl⟩
  exact ⟨fun k o hk => h.obj k o (ers_mem hk), ((ers_sub s.H b).map _).nodup h.nod, fun k k' x y h1 h2 => h.inj k k' x y (hsub _ h1) (hsub _ h2), h.nxt⟩
theorem Fr.of_forget {γ' : Pl} {s' : AS} {w' : World} {b : Nat} (h : Fr γ ⟨ers s.H b, s.nx⟩ w γ' s' w') : Fr γ s w γ' s' w' := by
  have hi : ∀ k, Im γ ⟨ers s.H b, s.nx⟩ k → Im γ s k := fun k ⟨q, d, z, h1, h2⟩ => by
    obtain ⟨x, hx, rfl⟩ := List.mem_map.1 h1
    exact ⟨x.1, d, z, List.mem_map.2 ⟨x, ers_mem hx, rfl⟩, h2⟩
  exact ⟨h.sub, h.size, fun k hk hn => h.keep k hk fun hh => hn (hi k hh), fun k hk => (h.im k hk).imp_left (hi k), h.same, h.ids, h.nxle⟩
def appA (P : Program) (s : AS) (t tx : Nat) (a x : AV) : Option (AV × AS) :=
  match elemP P t with
  | some e => match sizeP P e, zL P e, (P.info? e).map (·.bytes) with
    | some z, some Lz, some by_ =>
      if Lz.length = z ∧ 0 < z ∧ e ≠ 121 then
        match srcA P s z tx x with
        | some (m, news) =>
          match a with
          | .sc (.f .nils) => if m = 0 then some (.sc (.f .nils), s) else if m * by_ ≤ 1000000000 ∧ m ≤ 1000000000 then some (.sc (.sl s.nx 0 m none z), newA s e news) else none
          | .sc (.sl b o n c z') => match fnd s.H b with
            | some (.cells ty L) =>
              if z' = z ∧ (n + m) * by_ ≤ 1000000000 ∧ n + m ≤ 1000000000 ∧ o + n * z ≤ L.length then
                if o + (n + m) * z ≤ L.length ∧ n + m ≤ c.getD (n + m) then some (.sc (.sl b o (n + m) c z), ⟨(b, .cells ty (L.take (o + n * z) ++ news ++ L.drop (o + n * z + news.length))) :: ers s.H b, s.nx⟩)
                else match c with
                  | some c0 => if c0 < n + m then some (.sc (.sl s.nx 0 (n + m) none z), newA s e ((L.drop o).take (n * z) ++ news)) else none
                  | none => if ty = e then some (.sc (.sl s.nx 0 (n + m) none z), ⟨(s.nx, .cells e ((L.drop o).take (n * z) ++ news)) :: ers s.H b, s.nx + 1⟩) else none
              else none
            | _ => none
          | .sc (.se b z') => match fnd s.H b with
            | some (.cells ty L) => if z' = z ∧ m * by_ ≤ 1000000000 ∧ m ≤ 1000000000 ∧ 0 < m ∧ ty = e then some (.sc (.sl s.nx 0 m none z), ⟨(s.nx, .cells e news) :: ers s.H b, s.nx + 1⟩) else none
            | _ => none
          | _ => none
        | none => none
      else none
    | _, _, _ => none
  | none => none
/-- there is no room: a new row -/
theorem grow_done {t tx ty e : Nat} (he : e ≠ 121) {i : TypeInfo} {zv : Value} {olds : List SV} {ov : List Value} {news : List SV} {nv : List Value} {base : Option Addr} {n m c : Nat} {x : Value} (h : HR γ s w) (ht : P.underlying t = some (.slice e)) (hi : P.info? e = some i) (hz : i.zero = some zv)
    (hzs : zv.cells.size = i.size) (hold : (Builtin.firstCells i.size n (.slice base n c)).run P w.drew = .ok ov.toArray w.drew) (ho : All2 (RS γ) olds ov) (hol : olds.length = n * i.size) (hs : Src P i.size tx x m nv w) (hn : All2 (RS γ) news nv)
    (hg : c < n + m) (hb1 : (n + m) * i.bytes ≤ 1000000000) (hb2 : n + m ≤ 1000000000) :
    ∃ u w', (Builtin.append_ #[t, tx] ty #[.slice base n c, x]).run P w = .ok u w' ∧ Done γ s w (.sc (.sl s.nx 0 (n + m) none i.size)) (newA s e (olds ++ news)) u w' := by
  have hfit : Builtin.nextslicecap (n + m) c * i.bytes ≤ 281474976710656 := growslice_fits hg (by omega)
  refine ⟨_, _, run_append_grow_src (P := P) w t tx ty e i zv ht hi hz base n c ov hold x m nv hs hg (by omega) hfit, ?_⟩
  have hcap : n + m ≤ grownCap w (n + m) c e := by
    unfold grownCap
    simp only [Question.cut]
    omega
  have hov := All2.len ho
  have hnv := All2.len hn
  have hnl := hs.newsLen
  have hzl : (Builtin.zeroCells zv.cells (grownCap w (n + m) c e - (n + m))).size = (grownCap w (n + m) c e - (n + m)) * i.size := by simp [Builtin.zeroCells, hzs]
  have hCs : ((ov ++ nv).toArray ++ Builtin.zeroCells zv.cells (grownCap w (n + m) c e - (n + m))).size = grownCap w (n + m) c e * i.size := by
    rw [Array.size_append, hzl, List.size_toArray, List.length_append, ← hov, hol, hnl, ← Nat.add_mul, ← Nat.add_mul]
    congr 1
    omega
  obtain ⟨k1, k2⟩ := HR.grown he (L := olds ++ news) (C := (ov ++ nv).toArray ++ Builtin.zeroCells zv.cells (grownCap w (n + m) c e - (n + m))) h (by
      rw [Array.size_append, List.size_toArray, List.length_append, List.length_append]; omega) (fun j y hj => by
      obtain ⟨u, h1, h2⟩ := All2.get j (All2.app ho hn) hj
      refine ⟨u, ?_, h2⟩
      have hlt := (List.getElem?_eq_some_iff.1 h1).1
      rw [Array.getElem?_append_left (by simpa using hlt)]
      simpa using h1)
  exact ⟨_, k1, k2, w.heap.size, 0, _, _, ext_at _ _ _, rfl, hcap, by rw [hCs]; omega⟩
/-- there is room -/
theorem room_run {t tx ty e B o n c m S : Nat} {i : TypeInfo} {C : Array Value} {nv : List Value} {x : Value} {fe : TypeId} (ht : P.underlying t = some (.slice e)) (hi : P.info? e = some i) (hB : w.heap[B]? = some (.cells C fe (0, 0))) (hs : Src P i.size tx x m nv w) (hr : n + m ≤ c) (hS : C.size = S) (hl : o + c * i.size ≤ S) :
    (Builtin.append_ #[t, tx] ty #[.slice (some ⟨B, o, none⟩) n c, x]).run P w = .ok (.slice (some ⟨B, o, none⟩) (n + m) c) (w.setRow B (C.toList.take (o + n * i.size) ++ nv ++ C.toList.drop (o + n * i.size + nv.length)).toArray) ∧ o + n * i.size + nv.length ≤ S := by
  have hnl := hs.newsLen
  have hle : (n + m) * i.size ≤ c * i.size := Nat.mul_le_mul_right _ hr
  rw [Nat.add_mul] at hle
  have hfit : o + n * i.size + nv.length ≤ C.size := by omega
  refine ⟨?_, by omega⟩
  rw [← setCells_row hB hfit hs.one]
  exact run_append_room_src (P := P) w t tx ty e i ht hi B o n c x m nv hs hr (fun j hj => by simp [World.cell?, hB]; omega) (fun j hj => by simp [World.frozen?, hB])
end
end Go.Proofs.YteigplfldhdakaaGreatDoor.Ev
