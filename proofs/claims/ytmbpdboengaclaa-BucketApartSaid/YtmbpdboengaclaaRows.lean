/-
  No cell of these rows narrows 'for every input' (looked for: loops, veiled, ifaces, maps, wideKeys, modest, calm, conditions, laid).
  DERIVED. THE GIVEN ROWS OF THIS SEAT. 6 by the template 'for every input the law returns true; each argument reads behind the call as it read before'; 0 by the template 'total and deterministic' (their statements: YtmbpdboengaclaaTotals.lean).
  GIVEN WITH THE SEED: the statements are not yours to turn. If you find one false, say at which input.
  Laid BY PROGRAM, IN A SANDBOX (cutbox-rows.mjs): the forced cells as the released guide's own fill.sh prints them over the translation b011252f652a6200… (all of the seat's roots in one cut). By AI agents, Wed Nov 11 2026. No macro, syntax, notation, axiom, sorry.
-/
import Derived.Test.YtmbpdboengaclaaChecked
import GoSem.Claim
import GoSem.ClaimJoined
import GoSem.ClaimMapViews
import Derived.JoinedTies
import Derived.KernelRfl
namespace Go.Proofs.Ytmbpdboengaclaa
/- THE CELL 'sum', in the pinned program and in every row, IS THE sha256 OF THE DUMP (.gsa) THAT YtmbpdboengaclaaProg.lean LOADS. Nothing in Lean hashes anything: it is a label: what it is worth is what the hold of that sum in a sandbox is worth. -/
noncomputable def Try.pinned : Pinned := { name := "ytmbpdboengaclaa", sum := "b011252f652a6200abb8b4f7d91157f735821bda76167ca1e03a635d7dbb1413", checked := Try.checked }
namespace Rows
def none {H : Type} : Left H := { results := [], args := [] }

/-- 'erratalaw13.BucketFalls': WHATEVER THE INPUT: true; the input reads as it did. -/
def bucketFallsSpec : ChangeSpec := { name := "bucketFalls", fn := fun _ => fun
  | [d] => { results := [.lit (.bool true)], args := [d] }
  | _ => none }
def bucketFallsRow : OpenClaim := { program := "ytmbpdboengaclaa", sum := "b011252f652a6200abb8b4f7d91157f735821bda76167ca1e03a635d7dbb1413", func := "errata/erratalaw13.BucketFalls", spec := "bucketFalls", unfollowed := true, recurses := true, apart := false }
def BucketFallsSaid : Prop := bucketFallsRow.holds Try.pinned (OpenSpec.ofChange bucketFallsSpec)

/-- ITS FALSE NEIGHBOUR: 'it returns false'. Refute it at one input. -/
def bucketFallsWrong : ChangeSpec := { name := "bucketFalls", fn := fun _ => fun
  | [d] => { results := [.lit (.bool false)], args := [d] }
  | _ => none }
def BucketFallsWrongFalsely : Prop := bucketFallsRow.holds Try.pinned (OpenSpec.ofChange bucketFallsWrong)

/-- 'erratalaw13.BucketTurns': WHATEVER THE INPUT: true; the input reads as it did. -/
def bucketTurnsSpec : ChangeSpec := { name := "bucketTurns", fn := fun _ => fun
  | [d1, d2] => { results := [.lit (.bool true)], args := [d1, d2] }
  | _ => none }
def bucketTurnsRow : OpenClaim := { program := "ytmbpdboengaclaa", sum := "b011252f652a6200abb8b4f7d91157f735821bda76167ca1e03a635d7dbb1413", func := "errata/erratalaw13.BucketTurns", spec := "bucketTurns", unfollowed := true, recurses := true, apart := false }
def BucketTurnsSaid : Prop := bucketTurnsRow.holds Try.pinned (OpenSpec.ofChange bucketTurnsSpec)

/-- ITS FALSE NEIGHBOUR: 'it returns false'. Refute it at one input. -/
def bucketTurnsWrong : ChangeSpec := { name := "bucketTurns", fn := fun _ => fun
  | [d1, d2] => { results := [.lit (.bool false)], args := [d1, d2] }
  | _ => none }
def BucketTurnsWrongFalsely : Prop := bucketTurnsRow.holds Try.pinned (OpenSpec.ofChange bucketTurnsWrong)

/-- 'erratalaw13.BucketEnds': WHATEVER THE INPUT: true; the input reads as it did. -/
def bucketEndsSpec : ChangeSpec := { name := "bucketEnds", fn := fun _ => fun
  | [d1, d2] => { results := [.lit (.bool true)], args := [d1, d2] }
  | _ => none }
def bucketEndsRow : OpenClaim := { program := "ytmbpdboengaclaa", sum := "b011252f652a6200abb8b4f7d91157f735821bda76167ca1e03a635d7dbb1413", func := "errata/erratalaw13.BucketEnds", spec := "bucketEnds", unfollowed := true, recurses := true, apart := false }
def BucketEndsSaid : Prop := bucketEndsRow.holds Try.pinned (OpenSpec.ofChange bucketEndsSpec)

/-- ITS FALSE NEIGHBOUR: 'it returns false'. Refute it at one input. -/
def bucketEndsWrong : ChangeSpec := { name := "bucketEnds", fn := fun _ => fun
  | [d1, d2] => { results := [.lit (.bool false)], args := [d1, d2] }
  | _ => none }
def BucketEndsWrongFalsely : Prop := bucketEndsRow.holds Try.pinned (OpenSpec.ofChange bucketEndsWrong)

/-- 'erratalaw13.BucketActs': WHATEVER THE INPUT: true; the input reads as it did. -/
def bucketActsSpec : ChangeSpec := { name := "bucketActs", fn := fun _ => fun
  | [d1, d2] => { results := [.lit (.bool true)], args := [d1, d2] }
  | _ => none }
def bucketActsRow : OpenClaim := { program := "ytmbpdboengaclaa", sum := "b011252f652a6200abb8b4f7d91157f735821bda76167ca1e03a635d7dbb1413", func := "errata/erratalaw13.BucketActs", spec := "bucketActs", unfollowed := true, recurses := true, apart := false }
def BucketActsSaid : Prop := bucketActsRow.holds Try.pinned (OpenSpec.ofChange bucketActsSpec)

/-- ITS FALSE NEIGHBOUR: 'it returns false'. Refute it at one input. -/
def bucketActsWrong : ChangeSpec := { name := "bucketActs", fn := fun _ => fun
  | [d1, d2] => { results := [.lit (.bool false)], args := [d1, d2] }
  | _ => none }
def BucketActsWrongFalsely : Prop := bucketActsRow.holds Try.pinned (OpenSpec.ofChange bucketActsWrong)

/-- 'erratalaw13.BucketAll': WHATEVER THE INPUT: true; the input reads as it did. -/
def bucketAllSpec : ChangeSpec := { name := "bucketAll", fn := fun _ => fun
  | [d] => { results := [.lit (.bool true)], args := [d] }
  | _ => none }
def bucketAllRow : OpenClaim := { program := "ytmbpdboengaclaa", sum := "b011252f652a6200abb8b4f7d91157f735821bda76167ca1e03a635d7dbb1413", func := "errata/erratalaw13.BucketAll", spec := "bucketAll", unfollowed := true, recurses := true, apart := false }
def BucketAllSaid : Prop := bucketAllRow.holds Try.pinned (OpenSpec.ofChange bucketAllSpec)

/-- ITS FALSE NEIGHBOUR: 'it returns false'. Refute it at one input. -/
def bucketAllWrong : ChangeSpec := { name := "bucketAll", fn := fun _ => fun
  | [d] => { results := [.lit (.bool false)], args := [d] }
  | _ => none }
def BucketAllWrongFalsely : Prop := bucketAllRow.holds Try.pinned (OpenSpec.ofChange bucketAllWrong)

/-- 'erratalaw13.BucketApart': WHATEVER THE INPUT: true; the input reads as it did. -/
def bucketApartSpec : ChangeSpec := { name := "bucketApart", fn := fun _ => fun
  | [d1, d2] => { results := [.lit (.bool true)], args := [d1, d2] }
  | _ => none }
def bucketApartRow : OpenClaim := { program := "ytmbpdboengaclaa", sum := "b011252f652a6200abb8b4f7d91157f735821bda76167ca1e03a635d7dbb1413", func := "errata/erratalaw13.BucketApart", spec := "bucketApart", unfollowed := true, recurses := true, apart := false }
def BucketApartSaid : Prop := bucketApartRow.holds Try.pinned (OpenSpec.ofChange bucketApartSpec)

/-- ITS FALSE NEIGHBOUR: 'it returns false'. Refute it at one input. -/
def bucketApartWrong : ChangeSpec := { name := "bucketApart", fn := fun _ => fun
  | [d1, d2] => { results := [.lit (.bool false)], args := [d1, d2] }
  | _ => none }
def BucketApartWrongFalsely : Prop := bucketApartRow.holds Try.pinned (OpenSpec.ofChange bucketApartWrong)

/- THE SECOND FORM. 'bulk': how many values and letters a reading holds, each counted each time it is reached (what is shared counts as often as it is met; a slice's spare places count too). A statement '..UptoSaid' is the law's where the arguments, and the package variables that the reading takes, are together of bulk at most 1048576: NARROWER than '..Said'. Prove '..Said' where nothing that the law and all that it calls make is longer than what came in: it says more and counts as full. Else prove '..UptoSaid'. A law counts once. -/
mutual
def uptoBulk {H : Type} : DataW H → Nat
  | .lit (.string bytes) => bytes.length + 1
  | .lit _ => 1
  | .nil => 1
  | .ptr d => uptoBulk d + 1
  | .slice elems spare => uptoBulkAll elems + uptoBulkAll spare + 1
  | .agg parts => uptoBulkAll parts + 1
  | .iface _ d => uptoBulk d + 1
  | .map entries => uptoBulkEntries entries + 1
  | .held _ => 1
def uptoBulkAll {H : Type} : List (DataW H) → Nat
  | [] => 0
  | d :: r => uptoBulk d + uptoBulkAll r
def uptoBulkEntries {H : Type} : List (Lit × DataW H) → Nat
  | [] => 0
  | x :: r => uptoBulkEntry x + uptoBulkEntries r
def uptoBulkEntry {H : Type} : Lit × DataW H → Nat
  | (.string bytes, d) => bytes.length + uptoBulk d + 1
  | (_, d) => uptoBulk d + 1
 end
def uptoSmall : (H : Type) → List (DataW H) → Bool := fun _ ds => decide (uptoBulkAll ds ≤ 1048576)
def OpenSpec.upto (s : _root_.Go.ChangeSpec) : _root_.Go.OpenSpec := { _root_.Go.OpenSpec.ofChange s with cond := some uptoSmall }

/-- 'erratalaw13.BucketFalls', WHERE WHAT IT READS IS OF BULK AT MOST 1048576: true; the input reads as it did. -/
def bucketFallsUptoRow : OpenClaim := { program := "ytmbpdboengaclaa", sum := "b011252f652a6200abb8b4f7d91157f735821bda76167ca1e03a635d7dbb1413", func := "errata/erratalaw13.BucketFalls", spec := "bucketFalls", unfollowed := true, recurses := true, apart := false, narrowed := true }
def BucketFallsUptoSaid : Prop := bucketFallsUptoRow.holds Try.pinned (OpenSpec.upto bucketFallsSpec)

/-- 'erratalaw13.BucketTurns', WHERE WHAT IT READS IS OF BULK AT MOST 1048576: true; the input reads as it did. -/
def bucketTurnsUptoRow : OpenClaim := { program := "ytmbpdboengaclaa", sum := "b011252f652a6200abb8b4f7d91157f735821bda76167ca1e03a635d7dbb1413", func := "errata/erratalaw13.BucketTurns", spec := "bucketTurns", unfollowed := true, recurses := true, apart := false, narrowed := true }
def BucketTurnsUptoSaid : Prop := bucketTurnsUptoRow.holds Try.pinned (OpenSpec.upto bucketTurnsSpec)

/-- 'erratalaw13.BucketEnds', WHERE WHAT IT READS IS OF BULK AT MOST 1048576: true; the input reads as it did. -/
def bucketEndsUptoRow : OpenClaim := { program := "ytmbpdboengaclaa", sum := "b011252f652a6200abb8b4f7d91157f735821bda76167ca1e03a635d7dbb1413", func := "errata/erratalaw13.BucketEnds", spec := "bucketEnds", unfollowed := true, recurses := true, apart := false, narrowed := true }
def BucketEndsUptoSaid : Prop := bucketEndsUptoRow.holds Try.pinned (OpenSpec.upto bucketEndsSpec)

/-- 'erratalaw13.BucketActs', WHERE WHAT IT READS IS OF BULK AT MOST 1048576: true; the input reads as it did. -/
def bucketActsUptoRow : OpenClaim := { program := "ytmbpdboengaclaa", sum := "b011252f652a6200abb8b4f7d91157f735821bda76167ca1e03a635d7dbb1413", func := "errata/erratalaw13.BucketActs", spec := "bucketActs", unfollowed := true, recurses := true, apart := false, narrowed := true }
def BucketActsUptoSaid : Prop := bucketActsUptoRow.holds Try.pinned (OpenSpec.upto bucketActsSpec)

/-- 'erratalaw13.BucketAll', WHERE WHAT IT READS IS OF BULK AT MOST 1048576: true; the input reads as it did. -/
def bucketAllUptoRow : OpenClaim := { program := "ytmbpdboengaclaa", sum := "b011252f652a6200abb8b4f7d91157f735821bda76167ca1e03a635d7dbb1413", func := "errata/erratalaw13.BucketAll", spec := "bucketAll", unfollowed := true, recurses := true, apart := false, narrowed := true }
def BucketAllUptoSaid : Prop := bucketAllUptoRow.holds Try.pinned (OpenSpec.upto bucketAllSpec)

/-- 'erratalaw13.BucketApart', WHERE WHAT IT READS IS OF BULK AT MOST 1048576: true; the input reads as it did. -/
def bucketApartUptoRow : OpenClaim := { program := "ytmbpdboengaclaa", sum := "b011252f652a6200abb8b4f7d91157f735821bda76167ca1e03a635d7dbb1413", func := "errata/erratalaw13.BucketApart", spec := "bucketApart", unfollowed := true, recurses := true, apart := false, narrowed := true }
def BucketApartUptoSaid : Prop := bucketApartUptoRow.holds Try.pinned (OpenSpec.upto bucketApartSpec)

end Rows
end Go.Proofs.Ytmbpdboengaclaa
