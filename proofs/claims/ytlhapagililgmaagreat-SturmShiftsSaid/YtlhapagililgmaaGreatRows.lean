/-
  No cell of these rows narrows 'for every input' (looked for: loops, veiled, ifaces, maps, wideKeys, modest, calm, conditions, laid).
  DERIVED. THE GIVEN ROWS OF THIS SEAT. 8 by the template 'for every input the law returns true; each argument reads behind the call as it read before'; 0 by the template 'total and deterministic' (their statements: YtlhapagililgmaaGreatTotals.lean).
  GIVEN WITH THE SEED: the statements are not yours to turn. If you find one false, say at which input.
  Laid BY PROGRAM, IN A SANDBOX (cutbox-rows.mjs): the forced cells as the released guide's own fill.sh prints them over the translation f2936eeaeb35e5a8… (all of the seat's roots in one cut). By AI agents, Wed Nov 11 2026. No macro, syntax, notation, axiom, sorry.
-/
import Derived.Test.YtlhapagililgmaaGreatChecked
import GoSem.Claim
import GoSem.ClaimJoined
import GoSem.ClaimMapViews
import Derived.JoinedTies
import Derived.KernelRfl
namespace Go.Proofs.YtlhapagililgmaaGreat
/- THE CELL 'sum', in the pinned program and in every row, IS THE sha256 OF THE DUMP (.gsa) THAT YtlhapagililgmaaGreatProg.lean LOADS. Nothing in Lean hashes anything: it is a label: what it is worth is what the hold of that sum in a sandbox is worth. -/
noncomputable def Tryz.pinned : Pinned := { name := "ytlhapagililgmaagreat", sum := "f2936eeaeb35e5a8e30bd87a102dc4ee4fc1795e285179a9844f489b603dd285", checked := Tryz.checked }
namespace Rows
def none {H : Type} : Left H := { results := [], args := [] }

/-- 'quadraturelaw04.SturmChains': WHATEVER THE INPUT: true; the input reads as it did. -/
def sturmChainsSpec : ChangeSpec := { name := "sturmChains", fn := fun _ => fun
  | [d] => { results := [.lit (.bool true)], args := [d] }
  | _ => none }
def sturmChainsRow : OpenClaim := { program := "ytlhapagililgmaagreat", sum := "f2936eeaeb35e5a8e30bd87a102dc4ee4fc1795e285179a9844f489b603dd285", func := "quadrature/quadraturelaw04.SturmChains", spec := "sturmChains", unfollowed := true, recurses := true, apart := false }
def SturmChainsSaid : Prop := sturmChainsRow.holds Tryz.pinned (OpenSpec.ofChange sturmChainsSpec)

/-- ITS FALSE NEIGHBOUR: 'it returns false'. Refute it at one input. -/
def sturmChainsWrong : ChangeSpec := { name := "sturmChains", fn := fun _ => fun
  | [d] => { results := [.lit (.bool false)], args := [d] }
  | _ => none }
def SturmChainsWrongFalsely : Prop := sturmChainsRow.holds Tryz.pinned (OpenSpec.ofChange sturmChainsWrong)

/-- 'quadraturelaw04.SturmCountMatchesReference': WHATEVER THE INPUT: true; the input reads as it did. -/
def sturmCountMatchesReferenceSpec : ChangeSpec := { name := "sturmCountMatchesReference", fn := fun _ => fun
  | [d1, d2] => { results := [.lit (.bool true)], args := [d1, d2] }
  | _ => none }
def sturmCountMatchesReferenceRow : OpenClaim := { program := "ytlhapagililgmaagreat", sum := "f2936eeaeb35e5a8e30bd87a102dc4ee4fc1795e285179a9844f489b603dd285", func := "quadrature/quadraturelaw04.SturmCountMatchesReference", spec := "sturmCountMatchesReference", unfollowed := true, recurses := true, apart := false }
def SturmCountMatchesReferenceSaid : Prop := sturmCountMatchesReferenceRow.holds Tryz.pinned (OpenSpec.ofChange sturmCountMatchesReferenceSpec)

/-- ITS FALSE NEIGHBOUR: 'it returns false'. Refute it at one input. -/
def sturmCountMatchesReferenceWrong : ChangeSpec := { name := "sturmCountMatchesReference", fn := fun _ => fun
  | [d1, d2] => { results := [.lit (.bool false)], args := [d1, d2] }
  | _ => none }
def SturmCountMatchesReferenceWrongFalsely : Prop := sturmCountMatchesReferenceRow.holds Tryz.pinned (OpenSpec.ofChange sturmCountMatchesReferenceWrong)

/-- 'quadraturelaw04.SturmCounts': WHATEVER THE INPUT: true; the input reads as it did. -/
def sturmCountsSpec : ChangeSpec := { name := "sturmCounts", fn := fun _ => fun
  | [d1, d2] => { results := [.lit (.bool true)], args := [d1, d2] }
  | _ => none }
def sturmCountsRow : OpenClaim := { program := "ytlhapagililgmaagreat", sum := "f2936eeaeb35e5a8e30bd87a102dc4ee4fc1795e285179a9844f489b603dd285", func := "quadrature/quadraturelaw04.SturmCounts", spec := "sturmCounts", unfollowed := true, recurses := true, apart := false }
def SturmCountsSaid : Prop := sturmCountsRow.holds Tryz.pinned (OpenSpec.ofChange sturmCountsSpec)

/-- ITS FALSE NEIGHBOUR: 'it returns false'. Refute it at one input. -/
def sturmCountsWrong : ChangeSpec := { name := "sturmCounts", fn := fun _ => fun
  | [d1, d2] => { results := [.lit (.bool false)], args := [d1, d2] }
  | _ => none }
def SturmCountsWrongFalsely : Prop := sturmCountsRow.holds Tryz.pinned (OpenSpec.ofChange sturmCountsWrong)

/-- 'quadraturelaw04.SturmAdds': WHATEVER THE INPUT: true; the input reads as it did. -/
def sturmAddsSpec : ChangeSpec := { name := "sturmAdds", fn := fun _ => fun
  | [d1, d2, d3] => { results := [.lit (.bool true)], args := [d1, d2, d3] }
  | _ => none }
def sturmAddsRow : OpenClaim := { program := "ytlhapagililgmaagreat", sum := "f2936eeaeb35e5a8e30bd87a102dc4ee4fc1795e285179a9844f489b603dd285", func := "quadrature/quadraturelaw04.SturmAdds", spec := "sturmAdds", unfollowed := true, recurses := true, apart := false }
def SturmAddsSaid : Prop := sturmAddsRow.holds Tryz.pinned (OpenSpec.ofChange sturmAddsSpec)

/-- ITS FALSE NEIGHBOUR: 'it returns false'. Refute it at one input. -/
def sturmAddsWrong : ChangeSpec := { name := "sturmAdds", fn := fun _ => fun
  | [d1, d2, d3] => { results := [.lit (.bool false)], args := [d1, d2, d3] }
  | _ => none }
def SturmAddsWrongFalsely : Prop := sturmAddsRow.holds Tryz.pinned (OpenSpec.ofChange sturmAddsWrong)

/-- 'quadraturelaw04.SturmBounds': WHATEVER THE INPUT: true; the input reads as it did. -/
def sturmBoundsSpec : ChangeSpec := { name := "sturmBounds", fn := fun _ => fun
  | [d1, d2] => { results := [.lit (.bool true)], args := [d1, d2] }
  | _ => none }
def sturmBoundsRow : OpenClaim := { program := "ytlhapagililgmaagreat", sum := "f2936eeaeb35e5a8e30bd87a102dc4ee4fc1795e285179a9844f489b603dd285", func := "quadrature/quadraturelaw04.SturmBounds", spec := "sturmBounds", unfollowed := true, recurses := true, apart := false }
def SturmBoundsSaid : Prop := sturmBoundsRow.holds Tryz.pinned (OpenSpec.ofChange sturmBoundsSpec)

/-- ITS FALSE NEIGHBOUR: 'it returns false'. Refute it at one input. -/
def sturmBoundsWrong : ChangeSpec := { name := "sturmBounds", fn := fun _ => fun
  | [d1, d2] => { results := [.lit (.bool false)], args := [d1, d2] }
  | _ => none }
def SturmBoundsWrongFalsely : Prop := sturmBoundsRow.holds Tryz.pinned (OpenSpec.ofChange sturmBoundsWrong)

/-- 'quadraturelaw04.SturmFinds': WHATEVER THE INPUT: true; the input reads as it did. -/
def sturmFindsSpec : ChangeSpec := { name := "sturmFinds", fn := fun _ => fun
  | [d] => { results := [.lit (.bool true)], args := [d] }
  | _ => none }
def sturmFindsRow : OpenClaim := { program := "ytlhapagililgmaagreat", sum := "f2936eeaeb35e5a8e30bd87a102dc4ee4fc1795e285179a9844f489b603dd285", func := "quadrature/quadraturelaw04.SturmFinds", spec := "sturmFinds", unfollowed := true, recurses := true, apart := false }
def SturmFindsSaid : Prop := sturmFindsRow.holds Tryz.pinned (OpenSpec.ofChange sturmFindsSpec)

/-- ITS FALSE NEIGHBOUR: 'it returns false'. Refute it at one input. -/
def sturmFindsWrong : ChangeSpec := { name := "sturmFinds", fn := fun _ => fun
  | [d] => { results := [.lit (.bool false)], args := [d] }
  | _ => none }
def SturmFindsWrongFalsely : Prop := sturmFindsRow.holds Tryz.pinned (OpenSpec.ofChange sturmFindsWrong)

/-- 'quadraturelaw04.SturmRootsMatchReference': WHATEVER THE INPUT: true; the input reads as it did. -/
def sturmRootsMatchReferenceSpec : ChangeSpec := { name := "sturmRootsMatchReference", fn := fun _ => fun
  | [d] => { results := [.lit (.bool true)], args := [d] }
  | _ => none }
def sturmRootsMatchReferenceRow : OpenClaim := { program := "ytlhapagililgmaagreat", sum := "f2936eeaeb35e5a8e30bd87a102dc4ee4fc1795e285179a9844f489b603dd285", func := "quadrature/quadraturelaw04.SturmRootsMatchReference", spec := "sturmRootsMatchReference", unfollowed := true, recurses := true, apart := false }
def SturmRootsMatchReferenceSaid : Prop := sturmRootsMatchReferenceRow.holds Tryz.pinned (OpenSpec.ofChange sturmRootsMatchReferenceSpec)

/-- ITS FALSE NEIGHBOUR: 'it returns false'. Refute it at one input. -/
def sturmRootsMatchReferenceWrong : ChangeSpec := { name := "sturmRootsMatchReference", fn := fun _ => fun
  | [d] => { results := [.lit (.bool false)], args := [d] }
  | _ => none }
def SturmRootsMatchReferenceWrongFalsely : Prop := sturmRootsMatchReferenceRow.holds Tryz.pinned (OpenSpec.ofChange sturmRootsMatchReferenceWrong)

/-- 'quadraturelaw04.SturmShifts': WHATEVER THE INPUT: true; the input reads as it did. -/
def sturmShiftsSpec : ChangeSpec := { name := "sturmShifts", fn := fun _ => fun
  | [d1, d2, d3] => { results := [.lit (.bool true)], args := [d1, d2, d3] }
  | _ => none }
def sturmShiftsRow : OpenClaim := { program := "ytlhapagililgmaagreat", sum := "f2936eeaeb35e5a8e30bd87a102dc4ee4fc1795e285179a9844f489b603dd285", func := "quadrature/quadraturelaw04.SturmShifts", spec := "sturmShifts", unfollowed := true, recurses := true, apart := false }
def SturmShiftsSaid : Prop := sturmShiftsRow.holds Tryz.pinned (OpenSpec.ofChange sturmShiftsSpec)

/-- ITS FALSE NEIGHBOUR: 'it returns false'. Refute it at one input. -/
def sturmShiftsWrong : ChangeSpec := { name := "sturmShifts", fn := fun _ => fun
  | [d1, d2, d3] => { results := [.lit (.bool false)], args := [d1, d2, d3] }
  | _ => none }
def SturmShiftsWrongFalsely : Prop := sturmShiftsRow.holds Tryz.pinned (OpenSpec.ofChange sturmShiftsWrong)

/- THE SECOND FORM. 'bulk': how many values and letters a reading holds, each counted each time it is reached (what is shared counts as often as it is met; a slice's spare places count too). A statement '..UptoSaid' is the law's where the arguments, and the package variables that the reading takes, are together of bulk at most 1048576: NARROWER than '..Said'. Prove '..Said' where nothing that the law and all that it calls make is longer than what came in: it says more and counts as full. Else prove '..UptoSaid'. A law counts once. -/
mutual
def uptoBulk {H : Type} : DataW H → Nat
  | .lit (.string bytes) => bytes.length + 1
  | .lit _ => 1
  | .nil => 1
  | .ptr d => uptoBulk d + 1
  | .slice elems spare => uptoBulkAll elems + uptoBulkAll spare + 1
  | .agg parts => uptoBulkAll parts + 1
  | .iface _ d => uptoBulk d + 1
  | .map entries => uptoBulkEntries entries + 1
  | .held _ => 1
def uptoBulkAll {H : Type} : List (DataW H) → Nat
  | [] => 0
  | d :: r => uptoBulk d + uptoBulkAll r
def uptoBulkEntries {H : Type} : List (Lit × DataW H) → Nat
  | [] => 0
  | x :: r => uptoBulkEntry x + uptoBulkEntries r
def uptoBulkEntry {H : Type} : Lit × DataW H → Nat
  | (.string bytes, d) => bytes.length + uptoBulk d + 1
  | (_, d) => uptoBulk d + 1
 end
def uptoSmall : (H : Type) → List (DataW H) → Bool := fun _ ds => decide (uptoBulkAll ds ≤ 1048576)
def OpenSpec.upto (s : _root_.Go.ChangeSpec) : _root_.Go.OpenSpec := { _root_.Go.OpenSpec.ofChange s with cond := some uptoSmall }

/-- 'quadraturelaw04.SturmChains', WHERE WHAT IT READS IS OF BULK AT MOST 1048576: true; the input reads as it did. -/
def sturmChainsUptoRow : OpenClaim := { program := "ytlhapagililgmaagreat", sum := "f2936eeaeb35e5a8e30bd87a102dc4ee4fc1795e285179a9844f489b603dd285", func := "quadrature/quadraturelaw04.SturmChains", spec := "sturmChains", unfollowed := true, recurses := true, apart := false, narrowed := true }
def SturmChainsUptoSaid : Prop := sturmChainsUptoRow.holds Tryz.pinned (OpenSpec.upto sturmChainsSpec)

/-- 'quadraturelaw04.SturmCountMatchesReference', WHERE WHAT IT READS IS OF BULK AT MOST 1048576: true; the input reads as it did. -/
def sturmCountMatchesReferenceUptoRow : OpenClaim := { program := "ytlhapagililgmaagreat", sum := "f2936eeaeb35e5a8e30bd87a102dc4ee4fc1795e285179a9844f489b603dd285", func := "quadrature/quadraturelaw04.SturmCountMatchesReference", spec := "sturmCountMatchesReference", unfollowed := true, recurses := true, apart := false, narrowed := true }
def SturmCountMatchesReferenceUptoSaid : Prop := sturmCountMatchesReferenceUptoRow.holds Tryz.pinned (OpenSpec.upto sturmCountMatchesReferenceSpec)

/-- 'quadraturelaw04.SturmCounts', WHERE WHAT IT READS IS OF BULK AT MOST 1048576: true; the input reads as it did. -/
def sturmCountsUptoRow : OpenClaim := { program := "ytlhapagililgmaagreat", sum := "f2936eeaeb35e5a8e30bd87a102dc4ee4fc1795e285179a9844f489b603dd285", func := "quadrature/quadraturelaw04.SturmCounts", spec := "sturmCounts", unfollowed := true, recurses := true, apart := false, narrowed := true }
def SturmCountsUptoSaid : Prop := sturmCountsUptoRow.holds Tryz.pinned (OpenSpec.upto sturmCountsSpec)

/-- 'quadraturelaw04.SturmAdds', WHERE WHAT IT READS IS OF BULK AT MOST 1048576: true; the input reads as it did. -/
def sturmAddsUptoRow : OpenClaim := { program := "ytlhapagililgmaagreat", sum := "f2936eeaeb35e5a8e30bd87a102dc4ee4fc1795e285179a9844f489b603dd285", func := "quadrature/quadraturelaw04.SturmAdds", spec := "sturmAdds", unfollowed := true, recurses := true, apart := false, narrowed := true }
def SturmAddsUptoSaid : Prop := sturmAddsUptoRow.holds Tryz.pinned (OpenSpec.upto sturmAddsSpec)

/-- 'quadraturelaw04.SturmBounds', WHERE WHAT IT READS IS OF BULK AT MOST 1048576: true; the input reads as it did. -/
def sturmBoundsUptoRow : OpenClaim := { program := "ytlhapagililgmaagreat", sum := "f2936eeaeb35e5a8e30bd87a102dc4ee4fc1795e285179a9844f489b603dd285", func := "quadrature/quadraturelaw04.SturmBounds", spec := "sturmBounds", unfollowed := true, recurses := true, apart := false, narrowed := true }
def SturmBoundsUptoSaid : Prop := sturmBoundsUptoRow.holds Tryz.pinned (OpenSpec.upto sturmBoundsSpec)

/-- 'quadraturelaw04.SturmFinds', WHERE WHAT IT READS IS OF BULK AT MOST 1048576: true; the input reads as it did. -/
def sturmFindsUptoRow : OpenClaim := { program := "ytlhapagililgmaagreat", sum := "f2936eeaeb35e5a8e30bd87a102dc4ee4fc1795e285179a9844f489b603dd285", func := "quadrature/quadraturelaw04.SturmFinds", spec := "sturmFinds", unfollowed := true, recurses := true, apart := false, narrowed := true }
def SturmFindsUptoSaid : Prop := sturmFindsUptoRow.holds Tryz.pinned (OpenSpec.upto sturmFindsSpec)

/-- 'quadraturelaw04.SturmRootsMatchReference', WHERE WHAT IT READS IS OF BULK AT MOST 1048576: true; the input reads as it did. -/
def sturmRootsMatchReferenceUptoRow : OpenClaim := { program := "ytlhapagililgmaagreat", sum := "f2936eeaeb35e5a8e30bd87a102dc4ee4fc1795e285179a9844f489b603dd285", func := "quadrature/quadraturelaw04.SturmRootsMatchReference", spec := "sturmRootsMatchReference", unfollowed := true, recurses := true, apart := false, narrowed := true }
def SturmRootsMatchReferenceUptoSaid : Prop := sturmRootsMatchReferenceUptoRow.holds Tryz.pinned (OpenSpec.upto sturmRootsMatchReferenceSpec)

/-- 'quadraturelaw04.SturmShifts', WHERE WHAT IT READS IS OF BULK AT MOST 1048576: true; the input reads as it did. -/
def sturmShiftsUptoRow : OpenClaim := { program := "ytlhapagililgmaagreat", sum := "f2936eeaeb35e5a8e30bd87a102dc4ee4fc1795e285179a9844f489b603dd285", func := "quadrature/quadraturelaw04.SturmShifts", spec := "sturmShifts", unfollowed := true, recurses := true, apart := false, narrowed := true }
def SturmShiftsUptoSaid : Prop := sturmShiftsUptoRow.holds Tryz.pinned (OpenSpec.upto sturmShiftsSpec)

end Rows
end Go.Proofs.YtlhapagililgmaaGreat
