/-
  No cell of these rows narrows 'for every input' (looked for: loops, veiled, ifaces, maps, wideKeys, modest, calm, conditions, laid).
  DERIVED. THE GIVEN ROWS OF THIS SEAT. 6 by the template 'for every input the law returns true; each argument reads behind the call as it read before'; 0 by the template 'total and deterministic' (their statements: YtjjebokgckmnjaaTotals.lean).
  GIVEN WITH THE SEED: the statements are not yours to turn. If you find one false, say at which input.
  Laid BY PROGRAM, IN A SANDBOX (cutbox-rows.mjs): the forced cells as the released guide's own fill.sh prints them over the translation 27108e65ce882ca8… (all of the seat's roots in one cut). By AI agents, Wed Nov 11 2026. No macro, syntax, notation, axiom, sorry.
-/
import Derived.Test.YtjjebokgckmnjaaChecked
import GoSem.Claim
import GoSem.ClaimJoined
import GoSem.ClaimMapViews
import Derived.JoinedTies
import Derived.KernelRfl
namespace Go.Proofs.Ytjjebokgckmnjaa
/- THE CELL 'sum', in the pinned program and in every row, IS THE sha256 OF THE DUMP (.gsa) THAT YtjjebokgckmnjaaProg.lean LOADS. Nothing in Lean hashes anything: it is a label: what it is worth is what the hold of that sum in a sandbox is worth. -/
noncomputable def Try.pinned : Pinned := { name := "ytjjebokgckmnjaa", sum := "27108e65ce882ca890c03abff10de606aec81d717dc38f338689f4eb2a75a325", checked := Try.checked }
namespace Rows
def none {H : Type} : Left H := { results := [], args := [] }

/-- 'quadraturelaw05.MatrixNull': WHATEVER THE INPUT: true; the input reads as it did. -/
def matrixNullSpec : ChangeSpec := { name := "matrixNull", fn := fun _ => fun
  | [d] => { results := [.lit (.bool true)], args := [d] }
  | _ => none }
def matrixNullRow : OpenClaim := { program := "ytjjebokgckmnjaa", sum := "27108e65ce882ca890c03abff10de606aec81d717dc38f338689f4eb2a75a325", func := "quadrature/quadraturelaw05.MatrixNull", spec := "matrixNull", unfollowed := true, recurses := true, apart := false }
def MatrixNullSaid : Prop := matrixNullRow.holds Try.pinned (OpenSpec.ofChange matrixNullSpec)

/-- ITS FALSE NEIGHBOUR: 'it returns false'. Refute it at one input. -/
def matrixNullWrong : ChangeSpec := { name := "matrixNull", fn := fun _ => fun
  | [d] => { results := [.lit (.bool false)], args := [d] }
  | _ => none }
def MatrixNullWrongFalsely : Prop := matrixNullRow.holds Try.pinned (OpenSpec.ofChange matrixNullWrong)

/-- 'quadraturelaw05.MatrixAlternative': WHATEVER THE INPUT: true; the input reads as it did. -/
def matrixAlternativeSpec : ChangeSpec := { name := "matrixAlternative", fn := fun _ => fun
  | [d1, d2] => { results := [.lit (.bool true)], args := [d1, d2] }
  | _ => none }
def matrixAlternativeRow : OpenClaim := { program := "ytjjebokgckmnjaa", sum := "27108e65ce882ca890c03abff10de606aec81d717dc38f338689f4eb2a75a325", func := "quadrature/quadraturelaw05.MatrixAlternative", spec := "matrixAlternative", unfollowed := true, recurses := true, apart := false }
def MatrixAlternativeSaid : Prop := matrixAlternativeRow.holds Try.pinned (OpenSpec.ofChange matrixAlternativeSpec)

/-- ITS FALSE NEIGHBOUR: 'it returns false'. Refute it at one input. -/
def matrixAlternativeWrong : ChangeSpec := { name := "matrixAlternative", fn := fun _ => fun
  | [d1, d2] => { results := [.lit (.bool false)], args := [d1, d2] }
  | _ => none }
def MatrixAlternativeWrongFalsely : Prop := matrixAlternativeRow.holds Try.pinned (OpenSpec.ofChange matrixAlternativeWrong)

/-- 'quadraturelaw05.MatrixConsistent': WHATEVER THE INPUT: true; the input reads as it did. -/
def matrixConsistentSpec : ChangeSpec := { name := "matrixConsistent", fn := fun _ => fun
  | [d1, d2] => { results := [.lit (.bool true)], args := [d1, d2] }
  | _ => none }
def matrixConsistentRow : OpenClaim := { program := "ytjjebokgckmnjaa", sum := "27108e65ce882ca890c03abff10de606aec81d717dc38f338689f4eb2a75a325", func := "quadrature/quadraturelaw05.MatrixConsistent", spec := "matrixConsistent", unfollowed := true, recurses := true, apart := false }
def MatrixConsistentSaid : Prop := matrixConsistentRow.holds Try.pinned (OpenSpec.ofChange matrixConsistentSpec)

/-- ITS FALSE NEIGHBOUR: 'it returns false'. Refute it at one input. -/
def matrixConsistentWrong : ChangeSpec := { name := "matrixConsistent", fn := fun _ => fun
  | [d1, d2] => { results := [.lit (.bool false)], args := [d1, d2] }
  | _ => none }
def MatrixConsistentWrongFalsely : Prop := matrixConsistentRow.holds Try.pinned (OpenSpec.ofChange matrixConsistentWrong)

/-- 'quadraturelaw05.MatrixEchelon': WHATEVER THE INPUT: true; the input reads as it did. -/
def matrixEchelonSpec : ChangeSpec := { name := "matrixEchelon", fn := fun _ => fun
  | [d1, d2] => { results := [.lit (.bool true)], args := [d1, d2] }
  | _ => none }
def matrixEchelonRow : OpenClaim := { program := "ytjjebokgckmnjaa", sum := "27108e65ce882ca890c03abff10de606aec81d717dc38f338689f4eb2a75a325", func := "quadrature/quadraturelaw05.MatrixEchelon", spec := "matrixEchelon", unfollowed := true, recurses := true, apart := false }
def MatrixEchelonSaid : Prop := matrixEchelonRow.holds Try.pinned (OpenSpec.ofChange matrixEchelonSpec)

/-- ITS FALSE NEIGHBOUR: 'it returns false'. Refute it at one input. -/
def matrixEchelonWrong : ChangeSpec := { name := "matrixEchelon", fn := fun _ => fun
  | [d1, d2] => { results := [.lit (.bool false)], args := [d1, d2] }
  | _ => none }
def MatrixEchelonWrongFalsely : Prop := matrixEchelonRow.holds Try.pinned (OpenSpec.ofChange matrixEchelonWrong)

/-- 'quadraturelaw05.MatrixRank': WHATEVER THE INPUT: true; the input reads as it did. -/
def matrixRankSpec : ChangeSpec := { name := "matrixRank", fn := fun _ => fun
  | [d] => { results := [.lit (.bool true)], args := [d] }
  | _ => none }
def matrixRankRow : OpenClaim := { program := "ytjjebokgckmnjaa", sum := "27108e65ce882ca890c03abff10de606aec81d717dc38f338689f4eb2a75a325", func := "quadrature/quadraturelaw05.MatrixRank", spec := "matrixRank", unfollowed := true, recurses := true, apart := false }
def MatrixRankSaid : Prop := matrixRankRow.holds Try.pinned (OpenSpec.ofChange matrixRankSpec)

/-- ITS FALSE NEIGHBOUR: 'it returns false'. Refute it at one input. -/
def matrixRankWrong : ChangeSpec := { name := "matrixRank", fn := fun _ => fun
  | [d] => { results := [.lit (.bool false)], args := [d] }
  | _ => none }
def MatrixRankWrongFalsely : Prop := matrixRankRow.holds Try.pinned (OpenSpec.ofChange matrixRankWrong)

/-- 'quadraturelaw05.MatrixDeterminant': WHATEVER THE INPUT: true; the input reads as it did. -/
def matrixDeterminantSpec : ChangeSpec := { name := "matrixDeterminant", fn := fun _ => fun
  | [d1, d2, d3] => { results := [.lit (.bool true)], args := [d1, d2, d3] }
  | _ => none }
def matrixDeterminantRow : OpenClaim := { program := "ytjjebokgckmnjaa", sum := "27108e65ce882ca890c03abff10de606aec81d717dc38f338689f4eb2a75a325", func := "quadrature/quadraturelaw05.MatrixDeterminant", spec := "matrixDeterminant", unfollowed := true, recurses := true, apart := false }
def MatrixDeterminantSaid : Prop := matrixDeterminantRow.holds Try.pinned (OpenSpec.ofChange matrixDeterminantSpec)

/-- ITS FALSE NEIGHBOUR: 'it returns false'. Refute it at one input. -/
def matrixDeterminantWrong : ChangeSpec := { name := "matrixDeterminant", fn := fun _ => fun
  | [d1, d2, d3] => { results := [.lit (.bool false)], args := [d1, d2, d3] }
  | _ => none }
def MatrixDeterminantWrongFalsely : Prop := matrixDeterminantRow.holds Try.pinned (OpenSpec.ofChange matrixDeterminantWrong)

/- THE SECOND FORM. 'bulk': how many values and letters a reading holds, each counted each time it is reached (what is shared counts as often as it is met; a slice's spare places count too). A statement '..UptoSaid' is the law's where the arguments, and the package variables that the reading takes, are together of bulk at most 1048576: NARROWER than '..Said'. Prove '..Said' where nothing that the law and all that it calls make is longer than what came in: it says more and counts as full. Else prove '..UptoSaid'. A law counts once. -/
mutual
def uptoBulk {H : Type} : DataW H → Nat
  | .lit (.string bytes) => bytes.length + 1
  | .lit _ => 1
  | .nil => 1
  | .ptr d => uptoBulk d + 1
  | .slice elems spare => uptoBulkAll elems + uptoBulkAll spare + 1
  | .agg parts => uptoBulkAll parts + 1
  | .iface _ d => uptoBulk d + 1
  | .map entries => uptoBulkEntries entries + 1
  | .held _ => 1
def uptoBulkAll {H : Type} : List (DataW H) → Nat
  | [] => 0
  | d :: r => uptoBulk d + uptoBulkAll r
def uptoBulkEntries {H : Type} : List (Lit × DataW H) → Nat
  | [] => 0
  | x :: r => uptoBulkEntry x + uptoBulkEntries r
def uptoBulkEntry {H : Type} : Lit × DataW H → Nat
  | (.string bytes, d) => bytes.length + uptoBulk d + 1
  | (_, d) => uptoBulk d + 1
 end
def uptoSmall : (H : Type) → List (DataW H) → Bool := fun _ ds => decide (uptoBulkAll ds ≤ 1048576)
def OpenSpec.upto (s : _root_.Go.ChangeSpec) : _root_.Go.OpenSpec := { _root_.Go.OpenSpec.ofChange s with cond := some uptoSmall }

/-- 'quadraturelaw05.MatrixNull', WHERE WHAT IT READS IS OF BULK AT MOST 1048576: true; the input reads as it did. -/
def matrixNullUptoRow : OpenClaim := { program := "ytjjebokgckmnjaa", sum := "27108e65ce882ca890c03abff10de606aec81d717dc38f338689f4eb2a75a325", func := "quadrature/quadraturelaw05.MatrixNull", spec := "matrixNull", unfollowed := true, recurses := true, apart := false, narrowed := true }
def MatrixNullUptoSaid : Prop := matrixNullUptoRow.holds Try.pinned (OpenSpec.upto matrixNullSpec)

/-- 'quadraturelaw05.MatrixAlternative', WHERE WHAT IT READS IS OF BULK AT MOST 1048576: true; the input reads as it did. -/
def matrixAlternativeUptoRow : OpenClaim := { program := "ytjjebokgckmnjaa", sum := "27108e65ce882ca890c03abff10de606aec81d717dc38f338689f4eb2a75a325", func := "quadrature/quadraturelaw05.MatrixAlternative", spec := "matrixAlternative", unfollowed := true, recurses := true, apart := false, narrowed := true }
def MatrixAlternativeUptoSaid : Prop := matrixAlternativeUptoRow.holds Try.pinned (OpenSpec.upto matrixAlternativeSpec)

/-- 'quadraturelaw05.MatrixConsistent', WHERE WHAT IT READS IS OF BULK AT MOST 1048576: true; the input reads as it did. -/
def matrixConsistentUptoRow : OpenClaim := { program := "ytjjebokgckmnjaa", sum := "27108e65ce882ca890c03abff10de606aec81d717dc38f338689f4eb2a75a325", func := "quadrature/quadraturelaw05.MatrixConsistent", spec := "matrixConsistent", unfollowed := true, recurses := true, apart := false, narrowed := true }
def MatrixConsistentUptoSaid : Prop := matrixConsistentUptoRow.holds Try.pinned (OpenSpec.upto matrixConsistentSpec)

/-- 'quadraturelaw05.MatrixEchelon', WHERE WHAT IT READS IS OF BULK AT MOST 1048576: true; the input reads as it did. -/
def matrixEchelonUptoRow : OpenClaim := { program := "ytjjebokgckmnjaa", sum := "27108e65ce882ca890c03abff10de606aec81d717dc38f338689f4eb2a75a325", func := "quadrature/quadraturelaw05.MatrixEchelon", spec := "matrixEchelon", unfollowed := true, recurses := true, apart := false, narrowed := true }
def MatrixEchelonUptoSaid : Prop := matrixEchelonUptoRow.holds Try.pinned (OpenSpec.upto matrixEchelonSpec)

/-- 'quadraturelaw05.MatrixRank', WHERE WHAT IT READS IS OF BULK AT MOST 1048576: true; the input reads as it did. -/
def matrixRankUptoRow : OpenClaim := { program := "ytjjebokgckmnjaa", sum := "27108e65ce882ca890c03abff10de606aec81d717dc38f338689f4eb2a75a325", func := "quadrature/quadraturelaw05.MatrixRank", spec := "matrixRank", unfollowed := true, recurses := true, apart := false, narrowed := true }
def MatrixRankUptoSaid : Prop := matrixRankUptoRow.holds Try.pinned (OpenSpec.upto matrixRankSpec)

/-- 'quadraturelaw05.MatrixDeterminant', WHERE WHAT IT READS IS OF BULK AT MOST 1048576: true; the input reads as it did. -/
def matrixDeterminantUptoRow : OpenClaim := { program := "ytjjebokgckmnjaa", sum := "27108e65ce882ca890c03abff10de606aec81d717dc38f338689f4eb2a75a325", func := "quadrature/quadraturelaw05.MatrixDeterminant", spec := "matrixDeterminant", unfollowed := true, recurses := true, apart := false, narrowed := true }
def MatrixDeterminantUptoSaid : Prop := matrixDeterminantUptoRow.holds Try.pinned (OpenSpec.upto matrixDeterminantSpec)

end Rows
end Go.Proofs.Ytjjebokgckmnjaa
