/-
  No cell of these rows narrows 'for every input' (looked for: loops, veiled, ifaces, maps, wideKeys, modest, calm, conditions, laid).
  DERIVED. THE GIVEN ROWS OF THIS SEAT. 6 by the template 'for every input the law returns true; each argument reads behind the call as it read before'; 0 by the template 'total and deterministic' (their statements: YtfbogelmgdojgaaGreatTotals.lean).
  GIVEN WITH THE SEED: the statements are not yours to turn. If you find one false, say at which input.
  Laid BY PROGRAM, IN A SANDBOX (cutbox-rows.mjs): the forced cells as the released guide's own fill.sh prints them over the translation 4b1daca681f0afcd… (all of the seat's roots in one cut). By AI agents, Wed Nov 11 2026. No macro, syntax, notation, axiom, sorry.
-/
import Derived.Test.YtfbogelmgdojgaaGreatChecked
import GoSem.Claim
import GoSem.ClaimJoined
import GoSem.ClaimMapViews
import Derived.JoinedTies
import Derived.KernelRfl
namespace Go.Proofs.YtfbogelmgdojgaaGreat
/- THE CELL 'sum', in the pinned program and in every row, IS THE sha256 OF THE DUMP (.gsa) THAT YtfbogelmgdojgaaGreatProg.lean LOADS. Nothing in Lean hashes anything: it is a label: what it is worth is what the hold of that sum in a sandbox is worth. -/
noncomputable def Tryz.pinned : Pinned := { name := "ytfbogelmgdojgaagreat", sum := "4b1daca681f0afcd04e118f87008ffc5ee639536779e6e41c8ba1efdfa28f38f", checked := Tryz.checked }
namespace Rows
def none {H : Type} : Left H := { results := [], args := [] }

/-- 'quadraturelaw06.QuotientMatchesReference': WHATEVER THE INPUT: true; the input reads as it did. -/
def quotientMatchesReferenceSpec : ChangeSpec := { name := "quotientMatchesReference", fn := fun _ => fun
  | [d1, d2] => { results := [.lit (.bool true)], args := [d1, d2] }
  | _ => none }
def quotientMatchesReferenceRow : OpenClaim := { program := "ytfbogelmgdojgaagreat", sum := "4b1daca681f0afcd04e118f87008ffc5ee639536779e6e41c8ba1efdfa28f38f", func := "quadrature/quadraturelaw06.QuotientMatchesReference", spec := "quotientMatchesReference", unfollowed := true, recurses := true, apart := false }
def QuotientMatchesReferenceSaid : Prop := quotientMatchesReferenceRow.holds Tryz.pinned (OpenSpec.ofChange quotientMatchesReferenceSpec)

/-- ITS FALSE NEIGHBOUR: 'it returns false'. Refute it at one input. -/
def quotientMatchesReferenceWrong : ChangeSpec := { name := "quotientMatchesReference", fn := fun _ => fun
  | [d1, d2] => { results := [.lit (.bool false)], args := [d1, d2] }
  | _ => none }
def QuotientMatchesReferenceWrongFalsely : Prop := quotientMatchesReferenceRow.holds Tryz.pinned (OpenSpec.ofChange quotientMatchesReferenceWrong)

/-- 'quadraturelaw06.QuotientRing': WHATEVER THE INPUT: true; the input reads as it did. -/
def quotientRingSpec : ChangeSpec := { name := "quotientRing", fn := fun _ => fun
  | [d] => { results := [.lit (.bool true)], args := [d] }
  | _ => none }
def quotientRingRow : OpenClaim := { program := "ytfbogelmgdojgaagreat", sum := "4b1daca681f0afcd04e118f87008ffc5ee639536779e6e41c8ba1efdfa28f38f", func := "quadrature/quadraturelaw06.QuotientRing", spec := "quotientRing", unfollowed := true, recurses := true, apart := false }
def QuotientRingSaid : Prop := quotientRingRow.holds Tryz.pinned (OpenSpec.ofChange quotientRingSpec)

/-- ITS FALSE NEIGHBOUR: 'it returns false'. Refute it at one input. -/
def quotientRingWrong : ChangeSpec := { name := "quotientRing", fn := fun _ => fun
  | [d] => { results := [.lit (.bool false)], args := [d] }
  | _ => none }
def QuotientRingWrongFalsely : Prop := quotientRingRow.holds Tryz.pinned (OpenSpec.ofChange quotientRingWrong)

/-- 'quadraturelaw06.QuotientInverts': WHATEVER THE INPUT: true; the input reads as it did. -/
def quotientInvertsSpec : ChangeSpec := { name := "quotientInverts", fn := fun _ => fun
  | [d] => { results := [.lit (.bool true)], args := [d] }
  | _ => none }
def quotientInvertsRow : OpenClaim := { program := "ytfbogelmgdojgaagreat", sum := "4b1daca681f0afcd04e118f87008ffc5ee639536779e6e41c8ba1efdfa28f38f", func := "quadrature/quadraturelaw06.QuotientInverts", spec := "quotientInverts", unfollowed := true, recurses := true, apart := false }
def QuotientInvertsSaid : Prop := quotientInvertsRow.holds Tryz.pinned (OpenSpec.ofChange quotientInvertsSpec)

/-- ITS FALSE NEIGHBOUR: 'it returns false'. Refute it at one input. -/
def quotientInvertsWrong : ChangeSpec := { name := "quotientInverts", fn := fun _ => fun
  | [d] => { results := [.lit (.bool false)], args := [d] }
  | _ => none }
def QuotientInvertsWrongFalsely : Prop := quotientInvertsRow.holds Tryz.pinned (OpenSpec.ofChange quotientInvertsWrong)

/-- 'quadraturelaw06.QuotientTraces': WHATEVER THE INPUT: true; the input reads as it did. -/
def quotientTracesSpec : ChangeSpec := { name := "quotientTraces", fn := fun _ => fun
  | [d] => { results := [.lit (.bool true)], args := [d] }
  | _ => none }
def quotientTracesRow : OpenClaim := { program := "ytfbogelmgdojgaagreat", sum := "4b1daca681f0afcd04e118f87008ffc5ee639536779e6e41c8ba1efdfa28f38f", func := "quadrature/quadraturelaw06.QuotientTraces", spec := "quotientTraces", unfollowed := true, recurses := true, apart := false }
def QuotientTracesSaid : Prop := quotientTracesRow.holds Tryz.pinned (OpenSpec.ofChange quotientTracesSpec)

/-- ITS FALSE NEIGHBOUR: 'it returns false'. Refute it at one input. -/
def quotientTracesWrong : ChangeSpec := { name := "quotientTraces", fn := fun _ => fun
  | [d] => { results := [.lit (.bool false)], args := [d] }
  | _ => none }
def QuotientTracesWrongFalsely : Prop := quotientTracesRow.holds Tryz.pinned (OpenSpec.ofChange quotientTracesWrong)

/-- 'quadraturelaw06.QuotientRoots': WHATEVER THE INPUT: true; the input reads as it did. -/
def quotientRootsSpec : ChangeSpec := { name := "quotientRoots", fn := fun _ => fun
  | [d1, d2, d3] => { results := [.lit (.bool true)], args := [d1, d2, d3] }
  | _ => none }
def quotientRootsRow : OpenClaim := { program := "ytfbogelmgdojgaagreat", sum := "4b1daca681f0afcd04e118f87008ffc5ee639536779e6e41c8ba1efdfa28f38f", func := "quadrature/quadraturelaw06.QuotientRoots", spec := "quotientRoots", unfollowed := true, recurses := true, apart := false }
def QuotientRootsSaid : Prop := quotientRootsRow.holds Tryz.pinned (OpenSpec.ofChange quotientRootsSpec)

/-- ITS FALSE NEIGHBOUR: 'it returns false'. Refute it at one input. -/
def quotientRootsWrong : ChangeSpec := { name := "quotientRoots", fn := fun _ => fun
  | [d1, d2, d3] => { results := [.lit (.bool false)], args := [d1, d2, d3] }
  | _ => none }
def QuotientRootsWrongFalsely : Prop := quotientRootsRow.holds Tryz.pinned (OpenSpec.ofChange quotientRootsWrong)

/-- 'quadraturelaw06.QuotientMinimal': WHATEVER THE INPUT: true; the input reads as it did. -/
def quotientMinimalSpec : ChangeSpec := { name := "quotientMinimal", fn := fun _ => fun
  | [d] => { results := [.lit (.bool true)], args := [d] }
  | _ => none }
def quotientMinimalRow : OpenClaim := { program := "ytfbogelmgdojgaagreat", sum := "4b1daca681f0afcd04e118f87008ffc5ee639536779e6e41c8ba1efdfa28f38f", func := "quadrature/quadraturelaw06.QuotientMinimal", spec := "quotientMinimal", unfollowed := true, recurses := true, apart := false }
def QuotientMinimalSaid : Prop := quotientMinimalRow.holds Tryz.pinned (OpenSpec.ofChange quotientMinimalSpec)

/-- ITS FALSE NEIGHBOUR: 'it returns false'. Refute it at one input. -/
def quotientMinimalWrong : ChangeSpec := { name := "quotientMinimal", fn := fun _ => fun
  | [d] => { results := [.lit (.bool false)], args := [d] }
  | _ => none }
def QuotientMinimalWrongFalsely : Prop := quotientMinimalRow.holds Tryz.pinned (OpenSpec.ofChange quotientMinimalWrong)

/- THE SECOND FORM. 'bulk': how many values and letters a reading holds, each counted each time it is reached (what is shared counts as often as it is met; a slice's spare places count too). A statement '..UptoSaid' is the law's where the arguments, and the package variables that the reading takes, are together of bulk at most 1048576: NARROWER than '..Said'. Prove '..Said' where nothing that the law and all that it calls make is longer than what came in: it says more and counts as full. Else prove '..UptoSaid'. A law counts once. -/
mutual
def uptoBulk {H : Type} : DataW H → Nat
  | .lit (.string bytes) => bytes.length + 1
  | .lit _ => 1
  | .nil => 1
  | .ptr d => uptoBulk d + 1
  | .slice elems spare => uptoBulkAll elems + uptoBulkAll spare + 1
  | .agg parts => uptoBulkAll parts + 1
  | .iface _ d => uptoBulk d + 1
  | .map entries => uptoBulkEntries entries + 1
  | .held _ => 1
def uptoBulkAll {H : Type} : List (DataW H) → Nat
  | [] => 0
  | d :: r => uptoBulk d + uptoBulkAll r
def uptoBulkEntries {H : Type} : List (Lit × DataW H) → Nat
  | [] => 0
  | x :: r => uptoBulkEntry x + uptoBulkEntries r
def uptoBulkEntry {H : Type} : Lit × DataW H → Nat
  | (.string bytes, d) => bytes.length + uptoBulk d + 1
  | (_, d) => uptoBulk d + 1
 end
def uptoSmall : (H : Type) → List (DataW H) → Bool := fun _ ds => decide (uptoBulkAll ds ≤ 1048576)
def OpenSpec.upto (s : _root_.Go.ChangeSpec) : _root_.Go.OpenSpec := { _root_.Go.OpenSpec.ofChange s with cond := some uptoSmall }

/-- 'quadraturelaw06.QuotientMatchesReference', WHERE WHAT IT READS IS OF BULK AT MOST 1048576: true; the input reads as it did. -/
def quotientMatchesReferenceUptoRow : OpenClaim := { program := "ytfbogelmgdojgaagreat", sum := "4b1daca681f0afcd04e118f87008ffc5ee639536779e6e41c8ba1efdfa28f38f", func := "quadrature/quadraturelaw06.QuotientMatchesReference", spec := "quotientMatchesReference", unfollowed := true, recurses := true, apart := false, narrowed := true }
def QuotientMatchesReferenceUptoSaid : Prop := quotientMatchesReferenceUptoRow.holds Tryz.pinned (OpenSpec.upto quotientMatchesReferenceSpec)

/-- 'quadraturelaw06.QuotientRing', WHERE WHAT IT READS IS OF BULK AT MOST 1048576: true; the input reads as it did. -/
def quotientRingUptoRow : OpenClaim := { program := "ytfbogelmgdojgaagreat", sum := "4b1daca681f0afcd04e118f87008ffc5ee639536779e6e41c8ba1efdfa28f38f", func := "quadrature/quadraturelaw06.QuotientRing", spec := "quotientRing", unfollowed := true, recurses := true, apart := false, narrowed := true }
def QuotientRingUptoSaid : Prop := quotientRingUptoRow.holds Tryz.pinned (OpenSpec.upto quotientRingSpec)

/-- 'quadraturelaw06.QuotientInverts', WHERE WHAT IT READS IS OF BULK AT MOST 1048576: true; the input reads as it did. -/
def quotientInvertsUptoRow : OpenClaim := { program := "ytfbogelmgdojgaagreat", sum := "4b1daca681f0afcd04e118f87008ffc5ee639536779e6e41c8ba1efdfa28f38f", func := "quadrature/quadraturelaw06.QuotientInverts", spec := "quotientInverts", unfollowed := true, recurses := true, apart := false, narrowed := true }
def QuotientInvertsUptoSaid : Prop := quotientInvertsUptoRow.holds Tryz.pinned (OpenSpec.upto quotientInvertsSpec)

/-- 'quadraturelaw06.QuotientTraces', WHERE WHAT IT READS IS OF BULK AT MOST 1048576: true; the input reads as it did. -/
def quotientTracesUptoRow : OpenClaim := { program := "ytfbogelmgdojgaagreat", sum := "4b1daca681f0afcd04e118f87008ffc5ee639536779e6e41c8ba1efdfa28f38f", func := "quadrature/quadraturelaw06.QuotientTraces", spec := "quotientTraces", unfollowed := true, recurses := true, apart := false, narrowed := true }
def QuotientTracesUptoSaid : Prop := quotientTracesUptoRow.holds Tryz.pinned (OpenSpec.upto quotientTracesSpec)

/-- 'quadraturelaw06.QuotientRoots', WHERE WHAT IT READS IS OF BULK AT MOST 1048576: true; the input reads as it did. -/
def quotientRootsUptoRow : OpenClaim := { program := "ytfbogelmgdojgaagreat", sum := "4b1daca681f0afcd04e118f87008ffc5ee639536779e6e41c8ba1efdfa28f38f", func := "quadrature/quadraturelaw06.QuotientRoots", spec := "quotientRoots", unfollowed := true, recurses := true, apart := false, narrowed := true }
def QuotientRootsUptoSaid : Prop := quotientRootsUptoRow.holds Tryz.pinned (OpenSpec.upto quotientRootsSpec)

/-- 'quadraturelaw06.QuotientMinimal', WHERE WHAT IT READS IS OF BULK AT MOST 1048576: true; the input reads as it did. -/
def quotientMinimalUptoRow : OpenClaim := { program := "ytfbogelmgdojgaagreat", sum := "4b1daca681f0afcd04e118f87008ffc5ee639536779e6e41c8ba1efdfa28f38f", func := "quadrature/quadraturelaw06.QuotientMinimal", spec := "quotientMinimal", unfollowed := true, recurses := true, apart := false, narrowed := true }
def QuotientMinimalUptoSaid : Prop := quotientMinimalUptoRow.holds Tryz.pinned (OpenSpec.upto quotientMinimalSpec)

end Rows
end Go.Proofs.YtfbogelmgdojgaaGreat
