/-
  No cell of these rows narrows 'for every input' (looked for: loops, veiled, ifaces, maps, wideKeys, modest, calm, conditions, laid).
  DERIVED. THE GIVEN ROWS OF THIS SEAT. 7 by the template 'for every input the law returns true; each argument reads behind the call as it read before'; 0 by the template 'total and deterministic' (their statements: YtlonmjmjmnondaaTotals.lean).
  GIVEN WITH THE SEED: the statements are not yours to turn. If you find one false, say at which input.
  Laid BY PROGRAM, IN A SANDBOX (cutbox-rows.mjs): the forced cells as the released guide's own fill.sh prints them over the translation 6f86235cba15068f… (all of the seat's roots in one cut). By AI agents, Wed Nov 11 2026. No macro, syntax, notation, axiom, sorry.
-/
import Derived.Test.YtlonmjmjmnondaaChecked
import GoSem.Claim
import GoSem.ClaimJoined
import GoSem.ClaimMapViews
import Derived.JoinedTies
import Derived.KernelRfl
namespace Go.Proofs.Ytlonmjmjmnondaa
/- THE CELL 'sum', in the pinned program and in every row, IS THE sha256 OF THE DUMP (.gsa) THAT YtlonmjmjmnondaaProg.lean LOADS. Nothing in Lean hashes anything: it is a label: what it is worth is what the hold of that sum in a sandbox is worth. -/
noncomputable def Try.pinned : Pinned := { name := "ytlonmjmjmnondaa", sum := "6f86235cba15068f4197121ebc95f571be0966f9437dd86a609132790e1089ba", checked := Try.checked }
namespace Rows
def none {H : Type} : Left H := { results := [], args := [] }

/-- 'erratalaw16.BinLays': WHATEVER THE INPUT: true; the input reads as it did. -/
def binLaysSpec : ChangeSpec := { name := "binLays", fn := fun _ => fun
  | [d] => { results := [.lit (.bool true)], args := [d] }
  | _ => none }
def binLaysRow : OpenClaim := { program := "ytlonmjmjmnondaa", sum := "6f86235cba15068f4197121ebc95f571be0966f9437dd86a609132790e1089ba", func := "errata/erratalaw16.BinLays", spec := "binLays", unfollowed := true, recurses := true, apart := false }
def BinLaysSaid : Prop := binLaysRow.holds Try.pinned (OpenSpec.ofChange binLaysSpec)

/-- ITS FALSE NEIGHBOUR: 'it returns false'. Refute it at one input. -/
def binLaysWrong : ChangeSpec := { name := "binLays", fn := fun _ => fun
  | [d] => { results := [.lit (.bool false)], args := [d] }
  | _ => none }
def BinLaysWrongFalsely : Prop := binLaysRow.holds Try.pinned (OpenSpec.ofChange binLaysWrong)

/-- 'erratalaw16.BinForms': WHATEVER THE INPUT: true; the input reads as it did. -/
def binFormsSpec : ChangeSpec := { name := "binForms", fn := fun _ => fun
  | [d] => { results := [.lit (.bool true)], args := [d] }
  | _ => none }
def binFormsRow : OpenClaim := { program := "ytlonmjmjmnondaa", sum := "6f86235cba15068f4197121ebc95f571be0966f9437dd86a609132790e1089ba", func := "errata/erratalaw16.BinForms", spec := "binForms", unfollowed := true, recurses := true, apart := false }
def BinFormsSaid : Prop := binFormsRow.holds Try.pinned (OpenSpec.ofChange binFormsSpec)

/-- ITS FALSE NEIGHBOUR: 'it returns false'. Refute it at one input. -/
def binFormsWrong : ChangeSpec := { name := "binForms", fn := fun _ => fun
  | [d] => { results := [.lit (.bool false)], args := [d] }
  | _ => none }
def BinFormsWrongFalsely : Prop := binFormsRow.holds Try.pinned (OpenSpec.ofChange binFormsWrong)

/-- 'erratalaw16.BinSums': WHATEVER THE INPUT: true; the input reads as it did. -/
def binSumsSpec : ChangeSpec := { name := "binSums", fn := fun _ => fun
  | [d] => { results := [.lit (.bool true)], args := [d] }
  | _ => none }
def binSumsRow : OpenClaim := { program := "ytlonmjmjmnondaa", sum := "6f86235cba15068f4197121ebc95f571be0966f9437dd86a609132790e1089ba", func := "errata/erratalaw16.BinSums", spec := "binSums", unfollowed := true, recurses := true, apart := false }
def BinSumsSaid : Prop := binSumsRow.holds Try.pinned (OpenSpec.ofChange binSumsSpec)

/-- ITS FALSE NEIGHBOUR: 'it returns false'. Refute it at one input. -/
def binSumsWrong : ChangeSpec := { name := "binSums", fn := fun _ => fun
  | [d] => { results := [.lit (.bool false)], args := [d] }
  | _ => none }
def BinSumsWrongFalsely : Prop := binSumsRow.holds Try.pinned (OpenSpec.ofChange binSumsWrong)

/-- 'erratalaw16.BinSeals': WHATEVER THE INPUT: true; the input reads as it did. -/
def binSealsSpec : ChangeSpec := { name := "binSeals", fn := fun _ => fun
  | [d1, d2, d3] => { results := [.lit (.bool true)], args := [d1, d2, d3] }
  | _ => none }
def binSealsRow : OpenClaim := { program := "ytlonmjmjmnondaa", sum := "6f86235cba15068f4197121ebc95f571be0966f9437dd86a609132790e1089ba", func := "errata/erratalaw16.BinSeals", spec := "binSeals", unfollowed := true, recurses := true, apart := false }
def BinSealsSaid : Prop := binSealsRow.holds Try.pinned (OpenSpec.ofChange binSealsSpec)

/-- ITS FALSE NEIGHBOUR: 'it returns false'. Refute it at one input. -/
def binSealsWrong : ChangeSpec := { name := "binSeals", fn := fun _ => fun
  | [d1, d2, d3] => { results := [.lit (.bool false)], args := [d1, d2, d3] }
  | _ => none }
def BinSealsWrongFalsely : Prop := binSealsRow.holds Try.pinned (OpenSpec.ofChange binSealsWrong)

/-- 'erratalaw16.BinOwn': WHATEVER THE INPUT: true; the input reads as it did. -/
def binOwnSpec : ChangeSpec := { name := "binOwn", fn := fun _ => fun
  | [d] => { results := [.lit (.bool true)], args := [d] }
  | _ => none }
def binOwnRow : OpenClaim := { program := "ytlonmjmjmnondaa", sum := "6f86235cba15068f4197121ebc95f571be0966f9437dd86a609132790e1089ba", func := "errata/erratalaw16.BinOwn", spec := "binOwn", unfollowed := true, recurses := true, apart := false }
def BinOwnSaid : Prop := binOwnRow.holds Try.pinned (OpenSpec.ofChange binOwnSpec)

/-- ITS FALSE NEIGHBOUR: 'it returns false'. Refute it at one input. -/
def binOwnWrong : ChangeSpec := { name := "binOwn", fn := fun _ => fun
  | [d] => { results := [.lit (.bool false)], args := [d] }
  | _ => none }
def BinOwnWrongFalsely : Prop := binOwnRow.holds Try.pinned (OpenSpec.ofChange binOwnWrong)

/-- 'erratalaw16.BinReads': WHATEVER THE INPUT: true; the input reads as it did. -/
def binReadsSpec : ChangeSpec := { name := "binReads", fn := fun _ => fun
  | [d1, d2, d3] => { results := [.lit (.bool true)], args := [d1, d2, d3] }
  | _ => none }
def binReadsRow : OpenClaim := { program := "ytlonmjmjmnondaa", sum := "6f86235cba15068f4197121ebc95f571be0966f9437dd86a609132790e1089ba", func := "errata/erratalaw16.BinReads", spec := "binReads", unfollowed := true, recurses := true, apart := false }
def BinReadsSaid : Prop := binReadsRow.holds Try.pinned (OpenSpec.ofChange binReadsSpec)

/-- ITS FALSE NEIGHBOUR: 'it returns false'. Refute it at one input. -/
def binReadsWrong : ChangeSpec := { name := "binReads", fn := fun _ => fun
  | [d1, d2, d3] => { results := [.lit (.bool false)], args := [d1, d2, d3] }
  | _ => none }
def BinReadsWrongFalsely : Prop := binReadsRow.holds Try.pinned (OpenSpec.ofChange binReadsWrong)

/-- 'erratalaw16.BinBack': WHATEVER THE INPUT: true; the input reads as it did. -/
def binBackSpec : ChangeSpec := { name := "binBack", fn := fun _ => fun
  | [d] => { results := [.lit (.bool true)], args := [d] }
  | _ => none }
def binBackRow : OpenClaim := { program := "ytlonmjmjmnondaa", sum := "6f86235cba15068f4197121ebc95f571be0966f9437dd86a609132790e1089ba", func := "errata/erratalaw16.BinBack", spec := "binBack", unfollowed := true, recurses := true, apart := false }
def BinBackSaid : Prop := binBackRow.holds Try.pinned (OpenSpec.ofChange binBackSpec)

/-- ITS FALSE NEIGHBOUR: 'it returns false'. Refute it at one input. -/
def binBackWrong : ChangeSpec := { name := "binBack", fn := fun _ => fun
  | [d] => { results := [.lit (.bool false)], args := [d] }
  | _ => none }
def BinBackWrongFalsely : Prop := binBackRow.holds Try.pinned (OpenSpec.ofChange binBackWrong)

/- THE SECOND FORM. 'bulk': how many values and letters a reading holds, each counted each time it is reached (what is shared counts as often as it is met; a slice's spare places count too). A statement '..UptoSaid' is the law's where the arguments, and the package variables that the reading takes, are together of bulk at most 1048576: NARROWER than '..Said'. Prove '..Said' where nothing that the law and all that it calls make is longer than what came in: it says more and counts as full. Else prove '..UptoSaid'. A law counts once. -/
mutual
def uptoBulk {H : Type} : DataW H → Nat
  | .lit (.string bytes) => bytes.length + 1
  | .lit _ => 1
  | .nil => 1
  | .ptr d => uptoBulk d + 1
  | .slice elems spare => uptoBulkAll elems + uptoBulkAll spare + 1
  | .agg parts => uptoBulkAll parts + 1
  | .iface _ d => uptoBulk d + 1
  | .map entries => uptoBulkEntries entries + 1
  | .held _ => 1
def uptoBulkAll {H : Type} : List (DataW H) → Nat
  | [] => 0
  | d :: r => uptoBulk d + uptoBulkAll r
def uptoBulkEntries {H : Type} : List (Lit × DataW H) → Nat
  | [] => 0
  | x :: r => uptoBulkEntry x + uptoBulkEntries r
def uptoBulkEntry {H : Type} : Lit × DataW H → Nat
  | (.string bytes, d) => bytes.length + uptoBulk d + 1
  | (_, d) => uptoBulk d + 1
 end
def uptoSmall : (H : Type) → List (DataW H) → Bool := fun _ ds => decide (uptoBulkAll ds ≤ 1048576)
def OpenSpec.upto (s : _root_.Go.ChangeSpec) : _root_.Go.OpenSpec := { _root_.Go.OpenSpec.ofChange s with cond := some uptoSmall }

/-- 'erratalaw16.BinLays', WHERE WHAT IT READS IS OF BULK AT MOST 1048576: true; the input reads as it did. -/
def binLaysUptoRow : OpenClaim := { program := "ytlonmjmjmnondaa", sum := "6f86235cba15068f4197121ebc95f571be0966f9437dd86a609132790e1089ba", func := "errata/erratalaw16.BinLays", spec := "binLays", unfollowed := true, recurses := true, apart := false, narrowed := true }
def BinLaysUptoSaid : Prop := binLaysUptoRow.holds Try.pinned (OpenSpec.upto binLaysSpec)

/-- 'erratalaw16.BinForms', WHERE WHAT IT READS IS OF BULK AT MOST 1048576: true; the input reads as it did. -/
def binFormsUptoRow : OpenClaim := { program := "ytlonmjmjmnondaa", sum := "6f86235cba15068f4197121ebc95f571be0966f9437dd86a609132790e1089ba", func := "errata/erratalaw16.BinForms", spec := "binForms", unfollowed := true, recurses := true, apart := false, narrowed := true }
def BinFormsUptoSaid : Prop := binFormsUptoRow.holds Try.pinned (OpenSpec.upto binFormsSpec)

/-- 'erratalaw16.BinSums', WHERE WHAT IT READS IS OF BULK AT MOST 1048576: true; the input reads as it did. -/
def binSumsUptoRow : OpenClaim := { program := "ytlonmjmjmnondaa", sum := "6f86235cba15068f4197121ebc95f571be0966f9437dd86a609132790e1089ba", func := "errata/erratalaw16.BinSums", spec := "binSums", unfollowed := true, recurses := true, apart := false, narrowed := true }
def BinSumsUptoSaid : Prop := binSumsUptoRow.holds Try.pinned (OpenSpec.upto binSumsSpec)

/-- 'erratalaw16.BinSeals', WHERE WHAT IT READS IS OF BULK AT MOST 1048576: true; the input reads as it did. -/
def binSealsUptoRow : OpenClaim := { program := "ytlonmjmjmnondaa", sum := "6f86235cba15068f4197121ebc95f571be0966f9437dd86a609132790e1089ba", func := "errata/erratalaw16.BinSeals", spec := "binSeals", unfollowed := true, recurses := true, apart := false, narrowed := true }
def BinSealsUptoSaid : Prop := binSealsUptoRow.holds Try.pinned (OpenSpec.upto binSealsSpec)

/-- 'erratalaw16.BinOwn', WHERE WHAT IT READS IS OF BULK AT MOST 1048576: true; the input reads as it did. -/
def binOwnUptoRow : OpenClaim := { program := "ytlonmjmjmnondaa", sum := "6f86235cba15068f4197121ebc95f571be0966f9437dd86a609132790e1089ba", func := "errata/erratalaw16.BinOwn", spec := "binOwn", unfollowed := true, recurses := true, apart := false, narrowed := true }
def BinOwnUptoSaid : Prop := binOwnUptoRow.holds Try.pinned (OpenSpec.upto binOwnSpec)

/-- 'erratalaw16.BinReads', WHERE WHAT IT READS IS OF BULK AT MOST 1048576: true; the input reads as it did. -/
def binReadsUptoRow : OpenClaim := { program := "ytlonmjmjmnondaa", sum := "6f86235cba15068f4197121ebc95f571be0966f9437dd86a609132790e1089ba", func := "errata/erratalaw16.BinReads", spec := "binReads", unfollowed := true, recurses := true, apart := false, narrowed := true }
def BinReadsUptoSaid : Prop := binReadsUptoRow.holds Try.pinned (OpenSpec.upto binReadsSpec)

/-- 'erratalaw16.BinBack', WHERE WHAT IT READS IS OF BULK AT MOST 1048576: true; the input reads as it did. -/
def binBackUptoRow : OpenClaim := { program := "ytlonmjmjmnondaa", sum := "6f86235cba15068f4197121ebc95f571be0966f9437dd86a609132790e1089ba", func := "errata/erratalaw16.BinBack", spec := "binBack", unfollowed := true, recurses := true, apart := false, narrowed := true }
def BinBackUptoSaid : Prop := binBackUptoRow.holds Try.pinned (OpenSpec.upto binBackSpec)

end Rows
end Go.Proofs.Ytlonmjmjmnondaa
