/-
  No cell of these rows narrows 'for every input' (looked for: loops, veiled, ifaces, maps, wideKeys, modest, calm, conditions, laid).
  DERIVED. THE GIVEN ROWS OF THIS SEAT. 8 by the template 'for every input the law returns true; each argument reads behind the call as it read before'; 0 by the template 'total and deterministic' (their statements: YtbnhnmpgbpejaaaTotals.lean).
  GIVEN WITH THE SEED: the statements are not yours to turn. If you find one false, say at which input.
  Laid BY PROGRAM, IN A SANDBOX (cutbox-rows.mjs): the forced cells as the released guide's own fill.sh prints them over the translation 978ae6bb2663665f… (all of the seat's roots in one cut). By AI agents, Wed Nov 11 2026. No macro, syntax, notation, axiom, sorry.
-/
import Derived.Test.YtbnhnmpgbpejaaaChecked
import GoSem.Claim
import GoSem.ClaimJoined
import GoSem.ClaimMapViews
import Derived.JoinedTies
import Derived.KernelRfl
namespace Go.Proofs.Ytbnhnmpgbpejaaa
/- THE CELL 'sum', in the pinned program and in every row, IS THE sha256 OF THE DUMP (.gsa) THAT YtbnhnmpgbpejaaaProg.lean LOADS. Nothing in Lean hashes anything: it is a label: what it is worth is what the hold of that sum in a sandbox is worth. -/
noncomputable def Try.pinned : Pinned := { name := "ytbnhnmpgbpejaaa", sum := "978ae6bb2663665f074c0d2e5e30217a48190acc66fa1563c1fa5adfec7c60d2", checked := Try.checked }
namespace Rows
def none {H : Type} : Left H := { results := [], args := [] }

/-- 'quadraturelaw01.IntegerValid': WHATEVER THE INPUT: true; the input reads as it did. -/
def integerValidSpec : ChangeSpec := { name := "integerValid", fn := fun _ => fun
  | [d1, d2] => { results := [.lit (.bool true)], args := [d1, d2] }
  | _ => none }
def integerValidRow : OpenClaim := { program := "ytbnhnmpgbpejaaa", sum := "978ae6bb2663665f074c0d2e5e30217a48190acc66fa1563c1fa5adfec7c60d2", func := "quadrature/quadraturelaw01.IntegerValid", spec := "integerValid", apart := false }
def IntegerValidSaid : Prop := integerValidRow.holds Try.pinned (OpenSpec.ofChange integerValidSpec)

/-- ITS FALSE NEIGHBOUR: 'it returns false'. Refute it at one input. -/
def integerValidWrong : ChangeSpec := { name := "integerValid", fn := fun _ => fun
  | [d1, d2] => { results := [.lit (.bool false)], args := [d1, d2] }
  | _ => none }
def IntegerValidWrongFalsely : Prop := integerValidRow.holds Try.pinned (OpenSpec.ofChange integerValidWrong)

/-- 'quadraturelaw01.IntegerDivides': WHATEVER THE INPUT: true; the input reads as it did. -/
def integerDividesSpec : ChangeSpec := { name := "integerDivides", fn := fun _ => fun
  | [d1, d2] => { results := [.lit (.bool true)], args := [d1, d2] }
  | _ => none }
def integerDividesRow : OpenClaim := { program := "ytbnhnmpgbpejaaa", sum := "978ae6bb2663665f074c0d2e5e30217a48190acc66fa1563c1fa5adfec7c60d2", func := "quadrature/quadraturelaw01.IntegerDivides", spec := "integerDivides", apart := false }
def IntegerDividesSaid : Prop := integerDividesRow.holds Try.pinned (OpenSpec.ofChange integerDividesSpec)

/-- ITS FALSE NEIGHBOUR: 'it returns false'. Refute it at one input. -/
def integerDividesWrong : ChangeSpec := { name := "integerDivides", fn := fun _ => fun
  | [d1, d2] => { results := [.lit (.bool false)], args := [d1, d2] }
  | _ => none }
def IntegerDividesWrongFalsely : Prop := integerDividesRow.holds Try.pinned (OpenSpec.ofChange integerDividesWrong)

/-- 'quadraturelaw01.IntegerGcd': WHATEVER THE INPUT: true; the input reads as it did. -/
def integerGcdSpec : ChangeSpec := { name := "integerGcd", fn := fun _ => fun
  | [d1, d2, d3] => { results := [.lit (.bool true)], args := [d1, d2, d3] }
  | _ => none }
def integerGcdRow : OpenClaim := { program := "ytbnhnmpgbpejaaa", sum := "978ae6bb2663665f074c0d2e5e30217a48190acc66fa1563c1fa5adfec7c60d2", func := "quadrature/quadraturelaw01.IntegerGcd", spec := "integerGcd", apart := false }
def IntegerGcdSaid : Prop := integerGcdRow.holds Try.pinned (OpenSpec.ofChange integerGcdSpec)

/-- ITS FALSE NEIGHBOUR: 'it returns false'. Refute it at one input. -/
def integerGcdWrong : ChangeSpec := { name := "integerGcd", fn := fun _ => fun
  | [d1, d2, d3] => { results := [.lit (.bool false)], args := [d1, d2, d3] }
  | _ => none }
def IntegerGcdWrongFalsely : Prop := integerGcdRow.holds Try.pinned (OpenSpec.ofChange integerGcdWrong)

/-- 'quadraturelaw01.IntegerPowers': WHATEVER THE INPUT: true; the input reads as it did. -/
def integerPowersSpec : ChangeSpec := { name := "integerPowers", fn := fun _ => fun
  | [d1, d2, d3] => { results := [.lit (.bool true)], args := [d1, d2, d3] }
  | _ => none }
def integerPowersRow : OpenClaim := { program := "ytbnhnmpgbpejaaa", sum := "978ae6bb2663665f074c0d2e5e30217a48190acc66fa1563c1fa5adfec7c60d2", func := "quadrature/quadraturelaw01.IntegerPowers", spec := "integerPowers", apart := false }
def IntegerPowersSaid : Prop := integerPowersRow.holds Try.pinned (OpenSpec.ofChange integerPowersSpec)

/-- ITS FALSE NEIGHBOUR: 'it returns false'. Refute it at one input. -/
def integerPowersWrong : ChangeSpec := { name := "integerPowers", fn := fun _ => fun
  | [d1, d2, d3] => { results := [.lit (.bool false)], args := [d1, d2, d3] }
  | _ => none }
def IntegerPowersWrongFalsely : Prop := integerPowersRow.holds Try.pinned (OpenSpec.ofChange integerPowersWrong)

/-- 'quadraturelaw01.IntegerText': WHATEVER THE INPUT: true; the input reads as it did. -/
def integerTextSpec : ChangeSpec := { name := "integerText", fn := fun _ => fun
  | [d1, d2] => { results := [.lit (.bool true)], args := [d1, d2] }
  | _ => none }
def integerTextRow : OpenClaim := { program := "ytbnhnmpgbpejaaa", sum := "978ae6bb2663665f074c0d2e5e30217a48190acc66fa1563c1fa5adfec7c60d2", func := "quadrature/quadraturelaw01.IntegerText", spec := "integerText", apart := false }
def IntegerTextSaid : Prop := integerTextRow.holds Try.pinned (OpenSpec.ofChange integerTextSpec)

/-- ITS FALSE NEIGHBOUR: 'it returns false'. Refute it at one input. -/
def integerTextWrong : ChangeSpec := { name := "integerText", fn := fun _ => fun
  | [d1, d2] => { results := [.lit (.bool false)], args := [d1, d2] }
  | _ => none }
def IntegerTextWrongFalsely : Prop := integerTextRow.holds Try.pinned (OpenSpec.ofChange integerTextWrong)

/-- 'quadraturelaw01.IntegerRing': WHATEVER THE INPUT: true; the input reads as it did. -/
def integerRingSpec : ChangeSpec := { name := "integerRing", fn := fun _ => fun
  | [d1, d2, d3] => { results := [.lit (.bool true)], args := [d1, d2, d3] }
  | _ => none }
def integerRingRow : OpenClaim := { program := "ytbnhnmpgbpejaaa", sum := "978ae6bb2663665f074c0d2e5e30217a48190acc66fa1563c1fa5adfec7c60d2", func := "quadrature/quadraturelaw01.IntegerRing", spec := "integerRing", apart := false }
def IntegerRingSaid : Prop := integerRingRow.holds Try.pinned (OpenSpec.ofChange integerRingSpec)

/-- ITS FALSE NEIGHBOUR: 'it returns false'. Refute it at one input. -/
def integerRingWrong : ChangeSpec := { name := "integerRing", fn := fun _ => fun
  | [d1, d2, d3] => { results := [.lit (.bool false)], args := [d1, d2, d3] }
  | _ => none }
def IntegerRingWrongFalsely : Prop := integerRingRow.holds Try.pinned (OpenSpec.ofChange integerRingWrong)

/-- 'quadraturelaw01.IntegerMatchesReference': WHATEVER THE INPUT: true; the input reads as it did. -/
def integerMatchesReferenceSpec : ChangeSpec := { name := "integerMatchesReference", fn := fun _ => fun
  | [d1, d2] => { results := [.lit (.bool true)], args := [d1, d2] }
  | _ => none }
def integerMatchesReferenceRow : OpenClaim := { program := "ytbnhnmpgbpejaaa", sum := "978ae6bb2663665f074c0d2e5e30217a48190acc66fa1563c1fa5adfec7c60d2", func := "quadrature/quadraturelaw01.IntegerMatchesReference", spec := "integerMatchesReference", apart := false }
def IntegerMatchesReferenceSaid : Prop := integerMatchesReferenceRow.holds Try.pinned (OpenSpec.ofChange integerMatchesReferenceSpec)

/-- ITS FALSE NEIGHBOUR: 'it returns false'. Refute it at one input. -/
def integerMatchesReferenceWrong : ChangeSpec := { name := "integerMatchesReference", fn := fun _ => fun
  | [d1, d2] => { results := [.lit (.bool false)], args := [d1, d2] }
  | _ => none }
def IntegerMatchesReferenceWrongFalsely : Prop := integerMatchesReferenceRow.holds Try.pinned (OpenSpec.ofChange integerMatchesReferenceWrong)

/-- 'quadraturelaw01.IntegerOrder': WHATEVER THE INPUT: true; the input reads as it did. -/
def integerOrderSpec : ChangeSpec := { name := "integerOrder", fn := fun _ => fun
  | [d1, d2, d3] => { results := [.lit (.bool true)], args := [d1, d2, d3] }
  | _ => none }
def integerOrderRow : OpenClaim := { program := "ytbnhnmpgbpejaaa", sum := "978ae6bb2663665f074c0d2e5e30217a48190acc66fa1563c1fa5adfec7c60d2", func := "quadrature/quadraturelaw01.IntegerOrder", spec := "integerOrder", apart := false }
def IntegerOrderSaid : Prop := integerOrderRow.holds Try.pinned (OpenSpec.ofChange integerOrderSpec)

/-- ITS FALSE NEIGHBOUR: 'it returns false'. Refute it at one input. -/
def integerOrderWrong : ChangeSpec := { name := "integerOrder", fn := fun _ => fun
  | [d1, d2, d3] => { results := [.lit (.bool false)], args := [d1, d2, d3] }
  | _ => none }
def IntegerOrderWrongFalsely : Prop := integerOrderRow.holds Try.pinned (OpenSpec.ofChange integerOrderWrong)

/- THE SECOND FORM. 'bulk': how many values and letters a reading holds, each counted each time it is reached (what is shared counts as often as it is met; a slice's spare places count too). A statement '..UptoSaid' is the law's where the arguments, and the package variables that the reading takes, are together of bulk at most 1048576: NARROWER than '..Said'. Prove '..Said' where nothing that the law and all that it calls make is longer than what came in: it says more and counts as full. Else prove '..UptoSaid'. A law counts once. -/
mutual
def uptoBulk {H : Type} : DataW H → Nat
  | .lit (.string bytes) => bytes.length + 1
  | .lit _ => 1
  | .nil => 1
  | .ptr d => uptoBulk d + 1
  | .slice elems spare => uptoBulkAll elems + uptoBulkAll spare + 1
  | .agg parts => uptoBulkAll parts + 1
  | .iface _ d => uptoBulk d + 1
  | .map entries => uptoBulkEntries entries + 1
  | .held _ => 1
def uptoBulkAll {H : Type} : List (DataW H) → Nat
  | [] => 0
  | d :: r => uptoBulk d + uptoBulkAll r
def uptoBulkEntries {H : Type} : List (Lit × DataW H) → Nat
  | [] => 0
  | x :: r => uptoBulkEntry x + uptoBulkEntries r
def uptoBulkEntry {H : Type} : Lit × DataW H → Nat
  | (.string bytes, d) => bytes.length + uptoBulk d + 1
  | (_, d) => uptoBulk d + 1
 end
def uptoSmall : (H : Type) → List (DataW H) → Bool := fun _ ds => decide (uptoBulkAll ds ≤ 1048576)
def OpenSpec.upto (s : _root_.Go.ChangeSpec) : _root_.Go.OpenSpec := { _root_.Go.OpenSpec.ofChange s with cond := some uptoSmall }

/-- 'quadraturelaw01.IntegerValid', WHERE WHAT IT READS IS OF BULK AT MOST 1048576: true; the input reads as it did. -/
def integerValidUptoRow : OpenClaim := { program := "ytbnhnmpgbpejaaa", sum := "978ae6bb2663665f074c0d2e5e30217a48190acc66fa1563c1fa5adfec7c60d2", func := "quadrature/quadraturelaw01.IntegerValid", spec := "integerValid", apart := false, narrowed := true }
def IntegerValidUptoSaid : Prop := integerValidUptoRow.holds Try.pinned (OpenSpec.upto integerValidSpec)

/-- 'quadraturelaw01.IntegerDivides', WHERE WHAT IT READS IS OF BULK AT MOST 1048576: true; the input reads as it did. -/
def integerDividesUptoRow : OpenClaim := { program := "ytbnhnmpgbpejaaa", sum := "978ae6bb2663665f074c0d2e5e30217a48190acc66fa1563c1fa5adfec7c60d2", func := "quadrature/quadraturelaw01.IntegerDivides", spec := "integerDivides", apart := false, narrowed := true }
def IntegerDividesUptoSaid : Prop := integerDividesUptoRow.holds Try.pinned (OpenSpec.upto integerDividesSpec)

/-- 'quadraturelaw01.IntegerGcd', WHERE WHAT IT READS IS OF BULK AT MOST 1048576: true; the input reads as it did. -/
def integerGcdUptoRow : OpenClaim := { program := "ytbnhnmpgbpejaaa", sum := "978ae6bb2663665f074c0d2e5e30217a48190acc66fa1563c1fa5adfec7c60d2", func := "quadrature/quadraturelaw01.IntegerGcd", spec := "integerGcd", apart := false, narrowed := true }
def IntegerGcdUptoSaid : Prop := integerGcdUptoRow.holds Try.pinned (OpenSpec.upto integerGcdSpec)

/-- 'quadraturelaw01.IntegerPowers', WHERE WHAT IT READS IS OF BULK AT MOST 1048576: true; the input reads as it did. -/
def integerPowersUptoRow : OpenClaim := { program := "ytbnhnmpgbpejaaa", sum := "978ae6bb2663665f074c0d2e5e30217a48190acc66fa1563c1fa5adfec7c60d2", func := "quadrature/quadraturelaw01.IntegerPowers", spec := "integerPowers", apart := false, narrowed := true }
def IntegerPowersUptoSaid : Prop := integerPowersUptoRow.holds Try.pinned (OpenSpec.upto integerPowersSpec)

/-- 'quadraturelaw01.IntegerText', WHERE WHAT IT READS IS OF BULK AT MOST 1048576: true; the input reads as it did. -/
def integerTextUptoRow : OpenClaim := { program := "ytbnhnmpgbpejaaa", sum := "978ae6bb2663665f074c0d2e5e30217a48190acc66fa1563c1fa5adfec7c60d2", func := "quadrature/quadraturelaw01.IntegerText", spec := "integerText", apart := false, narrowed := true }
def IntegerTextUptoSaid : Prop := integerTextUptoRow.holds Try.pinned (OpenSpec.upto integerTextSpec)

/-- 'quadraturelaw01.IntegerRing', WHERE WHAT IT READS IS OF BULK AT MOST 1048576: true; the input reads as it did. -/
def integerRingUptoRow : OpenClaim := { program := "ytbnhnmpgbpejaaa", sum := "978ae6bb2663665f074c0d2e5e30217a48190acc66fa1563c1fa5adfec7c60d2", func := "quadrature/quadraturelaw01.IntegerRing", spec := "integerRing", apart := false, narrowed := true }
def IntegerRingUptoSaid : Prop := integerRingUptoRow.holds Try.pinned (OpenSpec.upto integerRingSpec)

/-- 'quadraturelaw01.IntegerMatchesReference', WHERE WHAT IT READS IS OF BULK AT MOST 1048576: true; the input reads as it did. -/
def integerMatchesReferenceUptoRow : OpenClaim := { program := "ytbnhnmpgbpejaaa", sum := "978ae6bb2663665f074c0d2e5e30217a48190acc66fa1563c1fa5adfec7c60d2", func := "quadrature/quadraturelaw01.IntegerMatchesReference", spec := "integerMatchesReference", apart := false, narrowed := true }
def IntegerMatchesReferenceUptoSaid : Prop := integerMatchesReferenceUptoRow.holds Try.pinned (OpenSpec.upto integerMatchesReferenceSpec)

/-- 'quadraturelaw01.IntegerOrder', WHERE WHAT IT READS IS OF BULK AT MOST 1048576: true; the input reads as it did. -/
def integerOrderUptoRow : OpenClaim := { program := "ytbnhnmpgbpejaaa", sum := "978ae6bb2663665f074c0d2e5e30217a48190acc66fa1563c1fa5adfec7c60d2", func := "quadrature/quadraturelaw01.IntegerOrder", spec := "integerOrder", apart := false, narrowed := true }
def IntegerOrderUptoSaid : Prop := integerOrderUptoRow.holds Try.pinned (OpenSpec.upto integerOrderSpec)

end Rows
end Go.Proofs.Ytbnhnmpgbpejaaa
