/-
  No cell of these rows narrows 'for every input' (looked for: loops, veiled, ifaces, maps, wideKeys, modest, calm, conditions, laid).
  DERIVED. THE GIVEN ROWS OF THIS SEAT. 10 by the template 'for every input the law returns true; each argument reads behind the call as it read before'; 0 by the template 'total and deterministic' (their statements: YtiaaceeelfhdlaaGreatTotals.lean).
  GIVEN WITH THE SEED: the statements are not yours to turn. If you find one false, say at which input.
  Laid BY PROGRAM, IN A SANDBOX (cutbox-rows.mjs): the forced cells as the released guide's own fill.sh prints them over the translation 2710ee46fae6ae12… (all of the seat's roots in one cut). By AI agents, Wed Nov 11 2026. No macro, syntax, notation, axiom, sorry.
-/
import Derived.Test.YtiaaceeelfhdlaaGreatChecked
import GoSem.Claim
import GoSem.ClaimJoined
import GoSem.ClaimMapViews
import Derived.JoinedTies
import Derived.KernelRfl
namespace Go.Proofs.YtiaaceeelfhdlaaGreat
/- THE CELL 'sum', in the pinned program and in every row, IS THE sha256 OF THE DUMP (.gsa) THAT YtiaaceeelfhdlaaGreatProg.lean LOADS. Nothing in Lean hashes anything: it is a label: what it is worth is what the hold of that sum in a sandbox is worth. -/
noncomputable def Tryz.pinned : Pinned := { name := "ytiaaceeelfhdlaagreat", sum := "2710ee46fae6ae127f8b050c7ec8e4a9aa6cc0dcee685308182436c7bb8a69b9", checked := Tryz.checked }
namespace Rows
def none {H : Type} : Left H := { results := [], args := [] }

/-- 'exactppllaw30.PiecewiseEvals': WHATEVER THE INPUT: true; the input reads as it did. -/
def piecewiseEvalsSpec : ChangeSpec := { name := "piecewiseEvals", fn := fun _ => fun
  | [d] => { results := [.lit (.bool true)], args := [d] }
  | _ => none }
def piecewiseEvalsRow : OpenClaim := { program := "ytiaaceeelfhdlaagreat", sum := "2710ee46fae6ae127f8b050c7ec8e4a9aa6cc0dcee685308182436c7bb8a69b9", func := "exactppl/exactppllaw30.PiecewiseEvals", spec := "piecewiseEvals", unfollowed := true, recurses := true, named := ["math/bits.overflowError"], plainKeys := false, apart := false }
def PiecewiseEvalsSaid : Prop := piecewiseEvalsRow.holds Tryz.pinned (OpenSpec.ofChange piecewiseEvalsSpec)

/-- ITS FALSE NEIGHBOUR: 'it returns false'. Refute it at one input. -/
def piecewiseEvalsWrong : ChangeSpec := { name := "piecewiseEvals", fn := fun _ => fun
  | [d] => { results := [.lit (.bool false)], args := [d] }
  | _ => none }
def PiecewiseEvalsWrongFalsely : Prop := piecewiseEvalsRow.holds Tryz.pinned (OpenSpec.ofChange piecewiseEvalsWrong)

/-- 'exactppllaw30.PiecewiseFlattens': WHATEVER THE INPUT: true; the input reads as it did. -/
def piecewiseFlattensSpec : ChangeSpec := { name := "piecewiseFlattens", fn := fun _ => fun
  | [d] => { results := [.lit (.bool true)], args := [d] }
  | _ => none }
def piecewiseFlattensRow : OpenClaim := { program := "ytiaaceeelfhdlaagreat", sum := "2710ee46fae6ae127f8b050c7ec8e4a9aa6cc0dcee685308182436c7bb8a69b9", func := "exactppl/exactppllaw30.PiecewiseFlattens", spec := "piecewiseFlattens", unfollowed := true, recurses := true, named := ["math/bits.overflowError"], plainKeys := false, apart := false }
def PiecewiseFlattensSaid : Prop := piecewiseFlattensRow.holds Tryz.pinned (OpenSpec.ofChange piecewiseFlattensSpec)

/-- ITS FALSE NEIGHBOUR: 'it returns false'. Refute it at one input. -/
def piecewiseFlattensWrong : ChangeSpec := { name := "piecewiseFlattens", fn := fun _ => fun
  | [d] => { results := [.lit (.bool false)], args := [d] }
  | _ => none }
def PiecewiseFlattensWrongFalsely : Prop := piecewiseFlattensRow.holds Tryz.pinned (OpenSpec.ofChange piecewiseFlattensWrong)

/-- 'exactppllaw30.PiecewiseCells': WHATEVER THE INPUT: true; the input reads as it did. -/
def piecewiseCellsSpec : ChangeSpec := { name := "piecewiseCells", fn := fun _ => fun
  | [d] => { results := [.lit (.bool true)], args := [d] }
  | _ => none }
def piecewiseCellsRow : OpenClaim := { program := "ytiaaceeelfhdlaagreat", sum := "2710ee46fae6ae127f8b050c7ec8e4a9aa6cc0dcee685308182436c7bb8a69b9", func := "exactppl/exactppllaw30.PiecewiseCells", spec := "piecewiseCells", unfollowed := true, recurses := true, named := ["math/bits.overflowError"], plainKeys := false, apart := false }
def PiecewiseCellsSaid : Prop := piecewiseCellsRow.holds Tryz.pinned (OpenSpec.ofChange piecewiseCellsSpec)

/-- ITS FALSE NEIGHBOUR: 'it returns false'. Refute it at one input. -/
def piecewiseCellsWrong : ChangeSpec := { name := "piecewiseCells", fn := fun _ => fun
  | [d] => { results := [.lit (.bool false)], args := [d] }
  | _ => none }
def PiecewiseCellsWrongFalsely : Prop := piecewiseCellsRow.holds Tryz.pinned (OpenSpec.ofChange piecewiseCellsWrong)

/-- 'exactppllaw30.PiecewiseDiffers': WHATEVER THE INPUT: true; the input reads as it did. -/
def piecewiseDiffersSpec : ChangeSpec := { name := "piecewiseDiffers", fn := fun _ => fun
  | [d] => { results := [.lit (.bool true)], args := [d] }
  | _ => none }
def piecewiseDiffersRow : OpenClaim := { program := "ytiaaceeelfhdlaagreat", sum := "2710ee46fae6ae127f8b050c7ec8e4a9aa6cc0dcee685308182436c7bb8a69b9", func := "exactppl/exactppllaw30.PiecewiseDiffers", spec := "piecewiseDiffers", unfollowed := true, recurses := true, named := ["math/bits.overflowError"], plainKeys := false, apart := false }
def PiecewiseDiffersSaid : Prop := piecewiseDiffersRow.holds Tryz.pinned (OpenSpec.ofChange piecewiseDiffersSpec)

/-- ITS FALSE NEIGHBOUR: 'it returns false'. Refute it at one input. -/
def piecewiseDiffersWrong : ChangeSpec := { name := "piecewiseDiffers", fn := fun _ => fun
  | [d] => { results := [.lit (.bool false)], args := [d] }
  | _ => none }
def PiecewiseDiffersWrongFalsely : Prop := piecewiseDiffersRow.holds Tryz.pinned (OpenSpec.ofChange piecewiseDiffersWrong)

/-- 'exactppllaw30.PiecewiseNormals': WHATEVER THE INPUT: true; the input reads as it did. -/
def piecewiseNormalsSpec : ChangeSpec := { name := "piecewiseNormals", fn := fun _ => fun
  | [d] => { results := [.lit (.bool true)], args := [d] }
  | _ => none }
def piecewiseNormalsRow : OpenClaim := { program := "ytiaaceeelfhdlaagreat", sum := "2710ee46fae6ae127f8b050c7ec8e4a9aa6cc0dcee685308182436c7bb8a69b9", func := "exactppl/exactppllaw30.PiecewiseNormals", spec := "piecewiseNormals", unfollowed := true, recurses := true, named := ["math/bits.overflowError"], plainKeys := false, apart := false }
def PiecewiseNormalsSaid : Prop := piecewiseNormalsRow.holds Tryz.pinned (OpenSpec.ofChange piecewiseNormalsSpec)

/-- ITS FALSE NEIGHBOUR: 'it returns false'. Refute it at one input. -/
def piecewiseNormalsWrong : ChangeSpec := { name := "piecewiseNormals", fn := fun _ => fun
  | [d] => { results := [.lit (.bool false)], args := [d] }
  | _ => none }
def PiecewiseNormalsWrongFalsely : Prop := piecewiseNormalsRow.holds Tryz.pinned (OpenSpec.ofChange piecewiseNormalsWrong)

/-- 'exactppllaw30.PiecewiseSides': WHATEVER THE INPUT: true; the input reads as it did. -/
def piecewiseSidesSpec : ChangeSpec := { name := "piecewiseSides", fn := fun _ => fun
  | [d] => { results := [.lit (.bool true)], args := [d] }
  | _ => none }
def piecewiseSidesRow : OpenClaim := { program := "ytiaaceeelfhdlaagreat", sum := "2710ee46fae6ae127f8b050c7ec8e4a9aa6cc0dcee685308182436c7bb8a69b9", func := "exactppl/exactppllaw30.PiecewiseSides", spec := "piecewiseSides", unfollowed := true, recurses := true, named := ["math/bits.overflowError"], plainKeys := false, apart := false }
def PiecewiseSidesSaid : Prop := piecewiseSidesRow.holds Tryz.pinned (OpenSpec.ofChange piecewiseSidesSpec)

/-- ITS FALSE NEIGHBOUR: 'it returns false'. Refute it at one input. -/
def piecewiseSidesWrong : ChangeSpec := { name := "piecewiseSides", fn := fun _ => fun
  | [d] => { results := [.lit (.bool false)], args := [d] }
  | _ => none }
def PiecewiseSidesWrongFalsely : Prop := piecewiseSidesRow.holds Tryz.pinned (OpenSpec.ofChange piecewiseSidesWrong)

/-- 'exactppllaw30.PiecewiseAdds': WHATEVER THE INPUT: true; the input reads as it did. -/
def piecewiseAddsSpec : ChangeSpec := { name := "piecewiseAdds", fn := fun _ => fun
  | [d] => { results := [.lit (.bool true)], args := [d] }
  | _ => none }
def piecewiseAddsRow : OpenClaim := { program := "ytiaaceeelfhdlaagreat", sum := "2710ee46fae6ae127f8b050c7ec8e4a9aa6cc0dcee685308182436c7bb8a69b9", func := "exactppl/exactppllaw30.PiecewiseAdds", spec := "piecewiseAdds", unfollowed := true, recurses := true, named := ["math/bits.overflowError"], plainKeys := false, apart := false }
def PiecewiseAddsSaid : Prop := piecewiseAddsRow.holds Tryz.pinned (OpenSpec.ofChange piecewiseAddsSpec)

/-- ITS FALSE NEIGHBOUR: 'it returns false'. Refute it at one input. -/
def piecewiseAddsWrong : ChangeSpec := { name := "piecewiseAdds", fn := fun _ => fun
  | [d] => { results := [.lit (.bool false)], args := [d] }
  | _ => none }
def PiecewiseAddsWrongFalsely : Prop := piecewiseAddsRow.holds Tryz.pinned (OpenSpec.ofChange piecewiseAddsWrong)

/-- 'exactppllaw30.PiecewisePointwise': WHATEVER THE INPUT: true; the input reads as it did. -/
def piecewisePointwiseSpec : ChangeSpec := { name := "piecewisePointwise", fn := fun _ => fun
  | [d] => { results := [.lit (.bool true)], args := [d] }
  | _ => none }
def piecewisePointwiseRow : OpenClaim := { program := "ytiaaceeelfhdlaagreat", sum := "2710ee46fae6ae127f8b050c7ec8e4a9aa6cc0dcee685308182436c7bb8a69b9", func := "exactppl/exactppllaw30.PiecewisePointwise", spec := "piecewisePointwise", unfollowed := true, recurses := true, named := ["math/bits.overflowError"], plainKeys := false, apart := false }
def PiecewisePointwiseSaid : Prop := piecewisePointwiseRow.holds Tryz.pinned (OpenSpec.ofChange piecewisePointwiseSpec)

/-- ITS FALSE NEIGHBOUR: 'it returns false'. Refute it at one input. -/
def piecewisePointwiseWrong : ChangeSpec := { name := "piecewisePointwise", fn := fun _ => fun
  | [d] => { results := [.lit (.bool false)], args := [d] }
  | _ => none }
def PiecewisePointwiseWrongFalsely : Prop := piecewisePointwiseRow.holds Tryz.pinned (OpenSpec.ofChange piecewisePointwiseWrong)

/-- 'exactppllaw30.PiecewiseMoves': WHATEVER THE INPUT: true; the input reads as it did. -/
def piecewiseMovesSpec : ChangeSpec := { name := "piecewiseMoves", fn := fun _ => fun
  | [d] => { results := [.lit (.bool true)], args := [d] }
  | _ => none }
def piecewiseMovesRow : OpenClaim := { program := "ytiaaceeelfhdlaagreat", sum := "2710ee46fae6ae127f8b050c7ec8e4a9aa6cc0dcee685308182436c7bb8a69b9", func := "exactppl/exactppllaw30.PiecewiseMoves", spec := "piecewiseMoves", unfollowed := true, recurses := true, named := ["math/bits.overflowError"], plainKeys := false, apart := false }
def PiecewiseMovesSaid : Prop := piecewiseMovesRow.holds Tryz.pinned (OpenSpec.ofChange piecewiseMovesSpec)

/-- ITS FALSE NEIGHBOUR: 'it returns false'. Refute it at one input. -/
def piecewiseMovesWrong : ChangeSpec := { name := "piecewiseMoves", fn := fun _ => fun
  | [d] => { results := [.lit (.bool false)], args := [d] }
  | _ => none }
def PiecewiseMovesWrongFalsely : Prop := piecewiseMovesRow.holds Tryz.pinned (OpenSpec.ofChange piecewiseMovesWrong)

/-- 'exactppllaw30.PiecewiseRestricts': WHATEVER THE INPUT: true; the input reads as it did. -/
def piecewiseRestrictsSpec : ChangeSpec := { name := "piecewiseRestricts", fn := fun _ => fun
  | [d1, d2] => { results := [.lit (.bool true)], args := [d1, d2] }
  | _ => none }
def piecewiseRestrictsRow : OpenClaim := { program := "ytiaaceeelfhdlaagreat", sum := "2710ee46fae6ae127f8b050c7ec8e4a9aa6cc0dcee685308182436c7bb8a69b9", func := "exactppl/exactppllaw30.PiecewiseRestricts", spec := "piecewiseRestricts", unfollowed := true, recurses := true, named := ["math/bits.overflowError"], plainKeys := false, apart := false }
def PiecewiseRestrictsSaid : Prop := piecewiseRestrictsRow.holds Tryz.pinned (OpenSpec.ofChange piecewiseRestrictsSpec)

/-- ITS FALSE NEIGHBOUR: 'it returns false'. Refute it at one input. -/
def piecewiseRestrictsWrong : ChangeSpec := { name := "piecewiseRestricts", fn := fun _ => fun
  | [d1, d2] => { results := [.lit (.bool false)], args := [d1, d2] }
  | _ => none }
def PiecewiseRestrictsWrongFalsely : Prop := piecewiseRestrictsRow.holds Tryz.pinned (OpenSpec.ofChange piecewiseRestrictsWrong)

/- THE SECOND FORM. 'bulk': how many values and letters a reading holds, each counted each time it is reached (what is shared counts as often as it is met; a slice's spare places count too). A statement '..UptoSaid' is the law's where the arguments, and the package variables that the reading takes, are together of bulk at most 1048576: NARROWER than '..Said'. Prove '..Said' where nothing that the law and all that it calls make is longer than what came in: it says more and counts as full. Else prove '..UptoSaid'. A law counts once. -/
mutual
def uptoBulk {H : Type} : DataW H → Nat
  | .lit (.string bytes) => bytes.length + 1
  | .lit _ => 1
  | .nil => 1
  | .ptr d => uptoBulk d + 1
  | .slice elems spare => uptoBulkAll elems + uptoBulkAll spare + 1
  | .agg parts => uptoBulkAll parts + 1
  | .iface _ d => uptoBulk d + 1
  | .map entries => uptoBulkEntries entries + 1
  | .held _ => 1
def uptoBulkAll {H : Type} : List (DataW H) → Nat
  | [] => 0
  | d :: r => uptoBulk d + uptoBulkAll r
def uptoBulkEntries {H : Type} : List (Lit × DataW H) → Nat
  | [] => 0
  | x :: r => uptoBulkEntry x + uptoBulkEntries r
def uptoBulkEntry {H : Type} : Lit × DataW H → Nat
  | (.string bytes, d) => bytes.length + uptoBulk d + 1
  | (_, d) => uptoBulk d + 1
 end
def uptoSmall : (H : Type) → List (DataW H) → Bool := fun _ ds => decide (uptoBulkAll ds ≤ 1048576)
def OpenSpec.upto (s : _root_.Go.ChangeSpec) : _root_.Go.OpenSpec := { _root_.Go.OpenSpec.ofChange s with cond := some uptoSmall }

/-- 'exactppllaw30.PiecewiseEvals', WHERE WHAT IT READS IS OF BULK AT MOST 1048576: true; the input reads as it did. -/
def piecewiseEvalsUptoRow : OpenClaim := { program := "ytiaaceeelfhdlaagreat", sum := "2710ee46fae6ae127f8b050c7ec8e4a9aa6cc0dcee685308182436c7bb8a69b9", func := "exactppl/exactppllaw30.PiecewiseEvals", spec := "piecewiseEvals", unfollowed := true, recurses := true, named := ["math/bits.overflowError"], plainKeys := false, apart := false, narrowed := true }
def PiecewiseEvalsUptoSaid : Prop := piecewiseEvalsUptoRow.holds Tryz.pinned (OpenSpec.upto piecewiseEvalsSpec)

/-- 'exactppllaw30.PiecewiseFlattens', WHERE WHAT IT READS IS OF BULK AT MOST 1048576: true; the input reads as it did. -/
def piecewiseFlattensUptoRow : OpenClaim := { program := "ytiaaceeelfhdlaagreat", sum := "2710ee46fae6ae127f8b050c7ec8e4a9aa6cc0dcee685308182436c7bb8a69b9", func := "exactppl/exactppllaw30.PiecewiseFlattens", spec := "piecewiseFlattens", unfollowed := true, recurses := true, named := ["math/bits.overflowError"], plainKeys := false, apart := false, narrowed := true }
def PiecewiseFlattensUptoSaid : Prop := piecewiseFlattensUptoRow.holds Tryz.pinned (OpenSpec.upto piecewiseFlattensSpec)

/-- 'exactppllaw30.PiecewiseCells', WHERE WHAT IT READS IS OF BULK AT MOST 1048576: true; the input reads as it did. -/
def piecewiseCellsUptoRow : OpenClaim := { program := "ytiaaceeelfhdlaagreat", sum := "2710ee46fae6ae127f8b050c7ec8e4a9aa6cc0dcee685308182436c7bb8a69b9", func := "exactppl/exactppllaw30.PiecewiseCells", spec := "piecewiseCells", unfollowed := true, recurses := true, named := ["math/bits.overflowError"], plainKeys := false, apart := false, narrowed := true }
def PiecewiseCellsUptoSaid : Prop := piecewiseCellsUptoRow.holds Tryz.pinned (OpenSpec.upto piecewiseCellsSpec)

/-- 'exactppllaw30.PiecewiseDiffers', WHERE WHAT IT READS IS OF BULK AT MOST 1048576: true; the input reads as it did. -/
def piecewiseDiffersUptoRow : OpenClaim := { program := "ytiaaceeelfhdlaagreat", sum := "2710ee46fae6ae127f8b050c7ec8e4a9aa6cc0dcee685308182436c7bb8a69b9", func := "exactppl/exactppllaw30.PiecewiseDiffers", spec := "piecewiseDiffers", unfollowed := true, recurses := true, named := ["math/bits.overflowError"], plainKeys := false, apart := false, narrowed := true }
def PiecewiseDiffersUptoSaid : Prop := piecewiseDiffersUptoRow.holds Tryz.pinned (OpenSpec.upto piecewiseDiffersSpec)

/-- 'exactppllaw30.PiecewiseNormals', WHERE WHAT IT READS IS OF BULK AT MOST 1048576: true; the input reads as it did. -/
def piecewiseNormalsUptoRow : OpenClaim := { program := "ytiaaceeelfhdlaagreat", sum := "2710ee46fae6ae127f8b050c7ec8e4a9aa6cc0dcee685308182436c7bb8a69b9", func := "exactppl/exactppllaw30.PiecewiseNormals", spec := "piecewiseNormals", unfollowed := true, recurses := true, named := ["math/bits.overflowError"], plainKeys := false, apart := false, narrowed := true }
def PiecewiseNormalsUptoSaid : Prop := piecewiseNormalsUptoRow.holds Tryz.pinned (OpenSpec.upto piecewiseNormalsSpec)

/-- 'exactppllaw30.PiecewiseSides', WHERE WHAT IT READS IS OF BULK AT MOST 1048576: true; the input reads as it did. -/
def piecewiseSidesUptoRow : OpenClaim := { program := "ytiaaceeelfhdlaagreat", sum := "2710ee46fae6ae127f8b050c7ec8e4a9aa6cc0dcee685308182436c7bb8a69b9", func := "exactppl/exactppllaw30.PiecewiseSides", spec := "piecewiseSides", unfollowed := true, recurses := true, named := ["math/bits.overflowError"], plainKeys := false, apart := false, narrowed := true }
def PiecewiseSidesUptoSaid : Prop := piecewiseSidesUptoRow.holds Tryz.pinned (OpenSpec.upto piecewiseSidesSpec)

/-- 'exactppllaw30.PiecewiseAdds', WHERE WHAT IT READS IS OF BULK AT MOST 1048576: true; the input reads as it did. -/
def piecewiseAddsUptoRow : OpenClaim := { program := "ytiaaceeelfhdlaagreat", sum := "2710ee46fae6ae127f8b050c7ec8e4a9aa6cc0dcee685308182436c7bb8a69b9", func := "exactppl/exactppllaw30.PiecewiseAdds", spec := "piecewiseAdds", unfollowed := true, recurses := true, named := ["math/bits.overflowError"], plainKeys := false, apart := false, narrowed := true }
def PiecewiseAddsUptoSaid : Prop := piecewiseAddsUptoRow.holds Tryz.pinned (OpenSpec.upto piecewiseAddsSpec)

/-- 'exactppllaw30.PiecewisePointwise', WHERE WHAT IT READS IS OF BULK AT MOST 1048576: true; the input reads as it did. -/
def piecewisePointwiseUptoRow : OpenClaim := { program := "ytiaaceeelfhdlaagreat", sum := "2710ee46fae6ae127f8b050c7ec8e4a9aa6cc0dcee685308182436c7bb8a69b9", func := "exactppl/exactppllaw30.PiecewisePointwise", spec := "piecewisePointwise", unfollowed := true, recurses := true, named := ["math/bits.overflowError"], plainKeys := false, apart := false, narrowed := true }
def PiecewisePointwiseUptoSaid : Prop := piecewisePointwiseUptoRow.holds Tryz.pinned (OpenSpec.upto piecewisePointwiseSpec)

/-- 'exactppllaw30.PiecewiseMoves', WHERE WHAT IT READS IS OF BULK AT MOST 1048576: true; the input reads as it did. -/
def piecewiseMovesUptoRow : OpenClaim := { program := "ytiaaceeelfhdlaagreat", sum := "2710ee46fae6ae127f8b050c7ec8e4a9aa6cc0dcee685308182436c7bb8a69b9", func := "exactppl/exactppllaw30.PiecewiseMoves", spec := "piecewiseMoves", unfollowed := true, recurses := true, named := ["math/bits.overflowError"], plainKeys := false, apart := false, narrowed := true }
def PiecewiseMovesUptoSaid : Prop := piecewiseMovesUptoRow.holds Tryz.pinned (OpenSpec.upto piecewiseMovesSpec)

/-- 'exactppllaw30.PiecewiseRestricts', WHERE WHAT IT READS IS OF BULK AT MOST 1048576: true; the input reads as it did. -/
def piecewiseRestrictsUptoRow : OpenClaim := { program := "ytiaaceeelfhdlaagreat", sum := "2710ee46fae6ae127f8b050c7ec8e4a9aa6cc0dcee685308182436c7bb8a69b9", func := "exactppl/exactppllaw30.PiecewiseRestricts", spec := "piecewiseRestricts", unfollowed := true, recurses := true, named := ["math/bits.overflowError"], plainKeys := false, apart := false, narrowed := true }
def PiecewiseRestrictsUptoSaid : Prop := piecewiseRestrictsUptoRow.holds Tryz.pinned (OpenSpec.upto piecewiseRestrictsSpec)

end Rows
end Go.Proofs.YtiaaceeelfhdlaaGreat
