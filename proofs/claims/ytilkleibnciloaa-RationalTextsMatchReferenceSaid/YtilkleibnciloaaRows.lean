/-
  No cell of these rows narrows 'for every input' (looked for: loops, veiled, ifaces, maps, wideKeys, modest, calm, conditions, laid).
  DERIVED. THE GIVEN ROWS OF THIS SEAT. 8 by the template 'for every input the law returns true; each argument reads behind the call as it read before'; 0 by the template 'total and deterministic' (their statements: YtilkleibnciloaaTotals.lean).
  GIVEN WITH THE SEED: the statements are not yours to turn. If you find one false, say at which input.
  Laid BY PROGRAM, IN A SANDBOX (cutbox-rows.mjs): the forced cells as the released guide's own fill.sh prints them over the translation 55eba8c926f62b50… (all of the seat's roots in one cut). By AI agents, Wed Nov 11 2026. No macro, syntax, notation, axiom, sorry.
-/
import Derived.Test.YtilkleibnciloaaChecked
import GoSem.Claim
import GoSem.ClaimJoined
import GoSem.ClaimMapViews
import Derived.JoinedTies
import Derived.KernelRfl
namespace Go.Proofs.Ytilkleibnciloaa
/- THE CELL 'sum', in the pinned program and in every row, IS THE sha256 OF THE DUMP (.gsa) THAT YtilkleibnciloaaProg.lean LOADS. Nothing in Lean hashes anything: it is a label: what it is worth is what the hold of that sum in a sandbox is worth. -/
noncomputable def Try.pinned : Pinned := { name := "ytilkleibnciloaa", sum := "55eba8c926f62b50a8d4baf9951274eb7f4e985d91f0a93aad0be7107ee87c9f", checked := Try.checked }
namespace Rows
def none {H : Type} : Left H := { results := [], args := [] }

/-- 'quadraturelaw02.RationalTextsMatchReference': WHATEVER THE INPUT: true; the input reads as it did. -/
def rationalTextsMatchReferenceSpec : ChangeSpec := { name := "rationalTextsMatchReference", fn := fun _ => fun
  | [d1, d2, d3] => { results := [.lit (.bool true)], args := [d1, d2, d3] }
  | _ => none }
def rationalTextsMatchReferenceRow : OpenClaim := { program := "ytilkleibnciloaa", sum := "55eba8c926f62b50a8d4baf9951274eb7f4e985d91f0a93aad0be7107ee87c9f", func := "quadrature/quadraturelaw02.RationalTextsMatchReference", spec := "rationalTextsMatchReference", inPlace := ["internal/bytealg.IndexByteString", "internal/bytealg.IndexString"], unfollowed := true, recurses := true, named := ["internal/bytealg.MaxLen"], apart := false }
def RationalTextsMatchReferenceSaid : Prop := rationalTextsMatchReferenceRow.holds Try.pinned (OpenSpec.ofChange rationalTextsMatchReferenceSpec)

/-- ITS FALSE NEIGHBOUR: 'it returns false'. Refute it at one input. -/
def rationalTextsMatchReferenceWrong : ChangeSpec := { name := "rationalTextsMatchReference", fn := fun _ => fun
  | [d1, d2, d3] => { results := [.lit (.bool false)], args := [d1, d2, d3] }
  | _ => none }
def RationalTextsMatchReferenceWrongFalsely : Prop := rationalTextsMatchReferenceRow.holds Try.pinned (OpenSpec.ofChange rationalTextsMatchReferenceWrong)

/-- 'quadraturelaw02.RationalPowers': WHATEVER THE INPUT: true; the input reads as it did. -/
def rationalPowersSpec : ChangeSpec := { name := "rationalPowers", fn := fun _ => fun
  | [d1, d2, d3] => { results := [.lit (.bool true)], args := [d1, d2, d3] }
  | _ => none }
def rationalPowersRow : OpenClaim := { program := "ytilkleibnciloaa", sum := "55eba8c926f62b50a8d4baf9951274eb7f4e985d91f0a93aad0be7107ee87c9f", func := "quadrature/quadraturelaw02.RationalPowers", spec := "rationalPowers", inPlace := ["internal/bytealg.IndexByteString", "internal/bytealg.IndexString"], unfollowed := true, recurses := true, named := ["internal/bytealg.MaxLen"], apart := false }
def RationalPowersSaid : Prop := rationalPowersRow.holds Try.pinned (OpenSpec.ofChange rationalPowersSpec)

/-- ITS FALSE NEIGHBOUR: 'it returns false'. Refute it at one input. -/
def rationalPowersWrong : ChangeSpec := { name := "rationalPowers", fn := fun _ => fun
  | [d1, d2, d3] => { results := [.lit (.bool false)], args := [d1, d2, d3] }
  | _ => none }
def RationalPowersWrongFalsely : Prop := rationalPowersRow.holds Try.pinned (OpenSpec.ofChange rationalPowersWrong)

/-- 'quadraturelaw02.RationalReads': WHATEVER THE INPUT: true; the input reads as it did. -/
def rationalReadsSpec : ChangeSpec := { name := "rationalReads", fn := fun _ => fun
  | [d1, d2, d3] => { results := [.lit (.bool true)], args := [d1, d2, d3] }
  | _ => none }
def rationalReadsRow : OpenClaim := { program := "ytilkleibnciloaa", sum := "55eba8c926f62b50a8d4baf9951274eb7f4e985d91f0a93aad0be7107ee87c9f", func := "quadrature/quadraturelaw02.RationalReads", spec := "rationalReads", inPlace := ["internal/bytealg.IndexByteString", "internal/bytealg.IndexString"], unfollowed := true, recurses := true, named := ["internal/bytealg.MaxLen"], apart := false }
def RationalReadsSaid : Prop := rationalReadsRow.holds Try.pinned (OpenSpec.ofChange rationalReadsSpec)

/-- ITS FALSE NEIGHBOUR: 'it returns false'. Refute it at one input. -/
def rationalReadsWrong : ChangeSpec := { name := "rationalReads", fn := fun _ => fun
  | [d1, d2, d3] => { results := [.lit (.bool false)], args := [d1, d2, d3] }
  | _ => none }
def RationalReadsWrongFalsely : Prop := rationalReadsRow.holds Try.pinned (OpenSpec.ofChange rationalReadsWrong)

/-- 'quadraturelaw02.RationalFloor': WHATEVER THE INPUT: true; the input reads as it did. -/
def rationalFloorSpec : ChangeSpec := { name := "rationalFloor", fn := fun _ => fun
  | [d] => { results := [.lit (.bool true)], args := [d] }
  | _ => none }
def rationalFloorRow : OpenClaim := { program := "ytilkleibnciloaa", sum := "55eba8c926f62b50a8d4baf9951274eb7f4e985d91f0a93aad0be7107ee87c9f", func := "quadrature/quadraturelaw02.RationalFloor", spec := "rationalFloor", inPlace := ["internal/bytealg.IndexByteString", "internal/bytealg.IndexString"], unfollowed := true, recurses := true, named := ["internal/bytealg.MaxLen"], apart := false }
def RationalFloorSaid : Prop := rationalFloorRow.holds Try.pinned (OpenSpec.ofChange rationalFloorSpec)

/-- ITS FALSE NEIGHBOUR: 'it returns false'. Refute it at one input. -/
def rationalFloorWrong : ChangeSpec := { name := "rationalFloor", fn := fun _ => fun
  | [d] => { results := [.lit (.bool false)], args := [d] }
  | _ => none }
def RationalFloorWrongFalsely : Prop := rationalFloorRow.holds Try.pinned (OpenSpec.ofChange rationalFloorWrong)

/-- 'quadraturelaw02.RationalMatchesReference': WHATEVER THE INPUT: true; the input reads as it did. -/
def rationalMatchesReferenceSpec : ChangeSpec := { name := "rationalMatchesReference", fn := fun _ => fun
  | [d1, d2, d3] => { results := [.lit (.bool true)], args := [d1, d2, d3] }
  | _ => none }
def rationalMatchesReferenceRow : OpenClaim := { program := "ytilkleibnciloaa", sum := "55eba8c926f62b50a8d4baf9951274eb7f4e985d91f0a93aad0be7107ee87c9f", func := "quadrature/quadraturelaw02.RationalMatchesReference", spec := "rationalMatchesReference", inPlace := ["internal/bytealg.IndexByteString", "internal/bytealg.IndexString"], unfollowed := true, recurses := true, named := ["internal/bytealg.MaxLen"], apart := false }
def RationalMatchesReferenceSaid : Prop := rationalMatchesReferenceRow.holds Try.pinned (OpenSpec.ofChange rationalMatchesReferenceSpec)

/-- ITS FALSE NEIGHBOUR: 'it returns false'. Refute it at one input. -/
def rationalMatchesReferenceWrong : ChangeSpec := { name := "rationalMatchesReference", fn := fun _ => fun
  | [d1, d2, d3] => { results := [.lit (.bool false)], args := [d1, d2, d3] }
  | _ => none }
def RationalMatchesReferenceWrongFalsely : Prop := rationalMatchesReferenceRow.holds Try.pinned (OpenSpec.ofChange rationalMatchesReferenceWrong)

/-- 'quadraturelaw02.RationalField': WHATEVER THE INPUT: true; the input reads as it did. -/
def rationalFieldSpec : ChangeSpec := { name := "rationalField", fn := fun _ => fun
  | [d1, d2, d3] => { results := [.lit (.bool true)], args := [d1, d2, d3] }
  | _ => none }
def rationalFieldRow : OpenClaim := { program := "ytilkleibnciloaa", sum := "55eba8c926f62b50a8d4baf9951274eb7f4e985d91f0a93aad0be7107ee87c9f", func := "quadrature/quadraturelaw02.RationalField", spec := "rationalField", inPlace := ["internal/bytealg.IndexByteString", "internal/bytealg.IndexString"], unfollowed := true, recurses := true, named := ["internal/bytealg.MaxLen"], apart := false }
def RationalFieldSaid : Prop := rationalFieldRow.holds Try.pinned (OpenSpec.ofChange rationalFieldSpec)

/-- ITS FALSE NEIGHBOUR: 'it returns false'. Refute it at one input. -/
def rationalFieldWrong : ChangeSpec := { name := "rationalField", fn := fun _ => fun
  | [d1, d2, d3] => { results := [.lit (.bool false)], args := [d1, d2, d3] }
  | _ => none }
def RationalFieldWrongFalsely : Prop := rationalFieldRow.holds Try.pinned (OpenSpec.ofChange rationalFieldWrong)

/-- 'quadraturelaw02.RationalOrder': WHATEVER THE INPUT: true; the input reads as it did. -/
def rationalOrderSpec : ChangeSpec := { name := "rationalOrder", fn := fun _ => fun
  | [d1, d2, d3] => { results := [.lit (.bool true)], args := [d1, d2, d3] }
  | _ => none }
def rationalOrderRow : OpenClaim := { program := "ytilkleibnciloaa", sum := "55eba8c926f62b50a8d4baf9951274eb7f4e985d91f0a93aad0be7107ee87c9f", func := "quadrature/quadraturelaw02.RationalOrder", spec := "rationalOrder", inPlace := ["internal/bytealg.IndexByteString", "internal/bytealg.IndexString"], unfollowed := true, recurses := true, named := ["internal/bytealg.MaxLen"], apart := false }
def RationalOrderSaid : Prop := rationalOrderRow.holds Try.pinned (OpenSpec.ofChange rationalOrderSpec)

/-- ITS FALSE NEIGHBOUR: 'it returns false'. Refute it at one input. -/
def rationalOrderWrong : ChangeSpec := { name := "rationalOrder", fn := fun _ => fun
  | [d1, d2, d3] => { results := [.lit (.bool false)], args := [d1, d2, d3] }
  | _ => none }
def RationalOrderWrongFalsely : Prop := rationalOrderRow.holds Try.pinned (OpenSpec.ofChange rationalOrderWrong)

/-- 'quadraturelaw02.RationalLowest': WHATEVER THE INPUT: true; the input reads as it did. -/
def rationalLowestSpec : ChangeSpec := { name := "rationalLowest", fn := fun _ => fun
  | [d1, d2, d3] => { results := [.lit (.bool true)], args := [d1, d2, d3] }
  | _ => none }
def rationalLowestRow : OpenClaim := { program := "ytilkleibnciloaa", sum := "55eba8c926f62b50a8d4baf9951274eb7f4e985d91f0a93aad0be7107ee87c9f", func := "quadrature/quadraturelaw02.RationalLowest", spec := "rationalLowest", inPlace := ["internal/bytealg.IndexByteString", "internal/bytealg.IndexString"], unfollowed := true, recurses := true, named := ["internal/bytealg.MaxLen"], apart := false }
def RationalLowestSaid : Prop := rationalLowestRow.holds Try.pinned (OpenSpec.ofChange rationalLowestSpec)

/-- ITS FALSE NEIGHBOUR: 'it returns false'. Refute it at one input. -/
def rationalLowestWrong : ChangeSpec := { name := "rationalLowest", fn := fun _ => fun
  | [d1, d2, d3] => { results := [.lit (.bool false)], args := [d1, d2, d3] }
  | _ => none }
def RationalLowestWrongFalsely : Prop := rationalLowestRow.holds Try.pinned (OpenSpec.ofChange rationalLowestWrong)

/- THE SECOND FORM. 'bulk': how many values and letters a reading holds, each counted each time it is reached (what is shared counts as often as it is met; a slice's spare places count too). A statement '..UptoSaid' is the law's where the arguments, and the package variables that the reading takes, are together of bulk at most 1048576: NARROWER than '..Said'. Prove '..Said' where nothing that the law and all that it calls make is longer than what came in: it says more and counts as full. Else prove '..UptoSaid'. A law counts once. -/
mutual
def uptoBulk {H : Type} : DataW H → Nat
  | .lit (.string bytes) => bytes.length + 1
  | .lit _ => 1
  | .nil => 1
  | .ptr d => uptoBulk d + 1
  | .slice elems spare => uptoBulkAll elems + uptoBulkAll spare + 1
  | .agg parts => uptoBulkAll parts + 1
  | .iface _ d => uptoBulk d + 1
  | .map entries => uptoBulkEntries entries + 1
  | .held _ => 1
def uptoBulkAll {H : Type} : List (DataW H) → Nat
  | [] => 0
  | d :: r => uptoBulk d + uptoBulkAll r
def uptoBulkEntries {H : Type} : List (Lit × DataW H) → Nat
  | [] => 0
  | x :: r => uptoBulkEntry x + uptoBulkEntries r
def uptoBulkEntry {H : Type} : Lit × DataW H → Nat
  | (.string bytes, d) => bytes.length + uptoBulk d + 1
  | (_, d) => uptoBulk d + 1
 end
def uptoSmall : (H : Type) → List (DataW H) → Bool := fun _ ds => decide (uptoBulkAll ds ≤ 1048576)
def OpenSpec.upto (s : _root_.Go.ChangeSpec) : _root_.Go.OpenSpec := { _root_.Go.OpenSpec.ofChange s with cond := some uptoSmall }

/-- 'quadraturelaw02.RationalTextsMatchReference', WHERE WHAT IT READS IS OF BULK AT MOST 1048576: true; the input reads as it did. -/
def rationalTextsMatchReferenceUptoRow : OpenClaim := { program := "ytilkleibnciloaa", sum := "55eba8c926f62b50a8d4baf9951274eb7f4e985d91f0a93aad0be7107ee87c9f", func := "quadrature/quadraturelaw02.RationalTextsMatchReference", spec := "rationalTextsMatchReference", inPlace := ["internal/bytealg.IndexByteString", "internal/bytealg.IndexString"], unfollowed := true, recurses := true, named := ["internal/bytealg.MaxLen"], apart := false, narrowed := true }
def RationalTextsMatchReferenceUptoSaid : Prop := rationalTextsMatchReferenceUptoRow.holds Try.pinned (OpenSpec.upto rationalTextsMatchReferenceSpec)

/-- 'quadraturelaw02.RationalPowers', WHERE WHAT IT READS IS OF BULK AT MOST 1048576: true; the input reads as it did. -/
def rationalPowersUptoRow : OpenClaim := { program := "ytilkleibnciloaa", sum := "55eba8c926f62b50a8d4baf9951274eb7f4e985d91f0a93aad0be7107ee87c9f", func := "quadrature/quadraturelaw02.RationalPowers", spec := "rationalPowers", inPlace := ["internal/bytealg.IndexByteString", "internal/bytealg.IndexString"], unfollowed := true, recurses := true, named := ["internal/bytealg.MaxLen"], apart := false, narrowed := true }
def RationalPowersUptoSaid : Prop := rationalPowersUptoRow.holds Try.pinned (OpenSpec.upto rationalPowersSpec)

/-- 'quadraturelaw02.RationalReads', WHERE WHAT IT READS IS OF BULK AT MOST 1048576: true; the input reads as it did. -/
def rationalReadsUptoRow : OpenClaim := { program := "ytilkleibnciloaa", sum := "55eba8c926f62b50a8d4baf9951274eb7f4e985d91f0a93aad0be7107ee87c9f", func := "quadrature/quadraturelaw02.RationalReads", spec := "rationalReads", inPlace := ["internal/bytealg.IndexByteString", "internal/bytealg.IndexString"], unfollowed := true, recurses := true, named := ["internal/bytealg.MaxLen"], apart := false, narrowed := true }
def RationalReadsUptoSaid : Prop := rationalReadsUptoRow.holds Try.pinned (OpenSpec.upto rationalReadsSpec)

/-- 'quadraturelaw02.RationalFloor', WHERE WHAT IT READS IS OF BULK AT MOST 1048576: true; the input reads as it did. -/
def rationalFloorUptoRow : OpenClaim := { program := "ytilkleibnciloaa", sum := "55eba8c926f62b50a8d4baf9951274eb7f4e985d91f0a93aad0be7107ee87c9f", func := "quadrature/quadraturelaw02.RationalFloor", spec := "rationalFloor", inPlace := ["internal/bytealg.IndexByteString", "internal/bytealg.IndexString"], unfollowed := true, recurses := true, named := ["internal/bytealg.MaxLen"], apart := false, narrowed := true }
def RationalFloorUptoSaid : Prop := rationalFloorUptoRow.holds Try.pinned (OpenSpec.upto rationalFloorSpec)

/-- 'quadraturelaw02.RationalMatchesReference', WHERE WHAT IT READS IS OF BULK AT MOST 1048576: true; the input reads as it did. -/
def rationalMatchesReferenceUptoRow : OpenClaim := { program := "ytilkleibnciloaa", sum := "55eba8c926f62b50a8d4baf9951274eb7f4e985d91f0a93aad0be7107ee87c9f", func := "quadrature/quadraturelaw02.RationalMatchesReference", spec := "rationalMatchesReference", inPlace := ["internal/bytealg.IndexByteString", "internal/bytealg.IndexString"], unfollowed := true, recurses := true, named := ["internal/bytealg.MaxLen"], apart := false, narrowed := true }
def RationalMatchesReferenceUptoSaid : Prop := rationalMatchesReferenceUptoRow.holds Try.pinned (OpenSpec.upto rationalMatchesReferenceSpec)

/-- 'quadraturelaw02.RationalField', WHERE WHAT IT READS IS OF BULK AT MOST 1048576: true; the input reads as it did. -/
def rationalFieldUptoRow : OpenClaim := { program := "ytilkleibnciloaa", sum := "55eba8c926f62b50a8d4baf9951274eb7f4e985d91f0a93aad0be7107ee87c9f", func := "quadrature/quadraturelaw02.RationalField", spec := "rationalField", inPlace := ["internal/bytealg.IndexByteString", "internal/bytealg.IndexString"], unfollowed := true, recurses := true, named := ["internal/bytealg.MaxLen"], apart := false, narrowed := true }
def RationalFieldUptoSaid : Prop := rationalFieldUptoRow.holds Try.pinned (OpenSpec.upto rationalFieldSpec)

/-- 'quadraturelaw02.RationalOrder', WHERE WHAT IT READS IS OF BULK AT MOST 1048576: true; the input reads as it did. -/
def rationalOrderUptoRow : OpenClaim := { program := "ytilkleibnciloaa", sum := "55eba8c926f62b50a8d4baf9951274eb7f4e985d91f0a93aad0be7107ee87c9f", func := "quadrature/quadraturelaw02.RationalOrder", spec := "rationalOrder", inPlace := ["internal/bytealg.IndexByteString", "internal/bytealg.IndexString"], unfollowed := true, recurses := true, named := ["internal/bytealg.MaxLen"], apart := false, narrowed := true }
def RationalOrderUptoSaid : Prop := rationalOrderUptoRow.holds Try.pinned (OpenSpec.upto rationalOrderSpec)

/-- 'quadraturelaw02.RationalLowest', WHERE WHAT IT READS IS OF BULK AT MOST 1048576: true; the input reads as it did. -/
def rationalLowestUptoRow : OpenClaim := { program := "ytilkleibnciloaa", sum := "55eba8c926f62b50a8d4baf9951274eb7f4e985d91f0a93aad0be7107ee87c9f", func := "quadrature/quadraturelaw02.RationalLowest", spec := "rationalLowest", inPlace := ["internal/bytealg.IndexByteString", "internal/bytealg.IndexString"], unfollowed := true, recurses := true, named := ["internal/bytealg.MaxLen"], apart := false, narrowed := true }
def RationalLowestUptoSaid : Prop := rationalLowestUptoRow.holds Try.pinned (OpenSpec.upto rationalLowestSpec)

end Rows
end Go.Proofs.Ytilkleibnciloaa
