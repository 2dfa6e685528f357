/-
  No cell of these rows narrows 'for every input' (looked for: loops, veiled, ifaces, maps, wideKeys, modest, calm, conditions, laid).
  DERIVED. THE GIVEN ROWS OF THIS SEAT. 12 by the template 'for every input the law returns true; each argument reads behind the call as it read before'; 0 by the template 'total and deterministic' (their statements: YtjjbkjgifdhlcaaGreatTotals.lean).
  GIVEN WITH THE SEED: the statements are not yours to turn. If you find one false, say at which input.
  Laid BY PROGRAM, IN A SANDBOX (cutbox-rows.mjs): the forced cells as the released guide's own fill.sh prints them over the translation 8e9ec2bbdcb4dff3… (all of the seat's roots in one cut). By AI agents, Wed Nov 11 2026. No macro, syntax, notation, axiom, sorry.
-/
import Derived.Test.YtjjbkjgifdhlcaaGreatChecked
import GoSem.Claim
import GoSem.ClaimJoined
import GoSem.ClaimMapViews
import Derived.JoinedTies
import Derived.KernelRfl
namespace Go.Proofs.YtjjbkjgifdhlcaaGreat
/- THE CELL 'sum', in the pinned program and in every row, IS THE sha256 OF THE DUMP (.gsa) THAT YtjjbkjgifdhlcaaGreatProg.lean LOADS. Nothing in Lean hashes anything: it is a label: what it is worth is what the hold of that sum in a sandbox is worth. -/
noncomputable def Tryz.pinned : Pinned := { name := "ytjjbkjgifdhlcaagreat", sum := "8e9ec2bbdcb4dff37bcedbacab767a877535e9f067e64d217008a7b9fe98349d", checked := Tryz.checked }
namespace Rows
def none {H : Type} : Left H := { results := [], args := [] }

/-- 'exactppllaw28.LinearPolys': WHATEVER THE INPUT: true; the input reads as it did. -/
def linearPolysSpec : ChangeSpec := { name := "linearPolys", fn := fun _ => fun
  | [d] => { results := [.lit (.bool true)], args := [d] }
  | _ => none }
def linearPolysRow : OpenClaim := { program := "ytjjbkjgifdhlcaagreat", sum := "8e9ec2bbdcb4dff37bcedbacab767a877535e9f067e64d217008a7b9fe98349d", func := "exactppl/exactppllaw28.LinearPolys", spec := "linearPolys", unfollowed := true, recurses := true, named := ["math/bits.overflowError"], plainKeys := false, apart := false }
def LinearPolysSaid : Prop := linearPolysRow.holds Tryz.pinned (OpenSpec.ofChange linearPolysSpec)

/-- ITS FALSE NEIGHBOUR: 'it returns false'. Refute it at one input. -/
def linearPolysWrong : ChangeSpec := { name := "linearPolys", fn := fun _ => fun
  | [d] => { results := [.lit (.bool false)], args := [d] }
  | _ => none }
def LinearPolysWrongFalsely : Prop := linearPolysRow.holds Tryz.pinned (OpenSpec.ofChange linearPolysWrong)

/-- 'exactppllaw31.IntegralAntiderivatives': WHATEVER THE INPUT: true; the input reads as it did. -/
def integralAntiderivativesSpec : ChangeSpec := { name := "integralAntiderivatives", fn := fun _ => fun
  | [d1, d2] => { results := [.lit (.bool true)], args := [d1, d2] }
  | _ => none }
def integralAntiderivativesRow : OpenClaim := { program := "ytjjbkjgifdhlcaagreat", sum := "8e9ec2bbdcb4dff37bcedbacab767a877535e9f067e64d217008a7b9fe98349d", func := "exactppl/exactppllaw31.IntegralAntiderivatives", spec := "integralAntiderivatives", unfollowed := true, recurses := true, named := ["math/bits.overflowError"], plainKeys := false, apart := false }
def IntegralAntiderivativesSaid : Prop := integralAntiderivativesRow.holds Tryz.pinned (OpenSpec.ofChange integralAntiderivativesSpec)

/-- ITS FALSE NEIGHBOUR: 'it returns false'. Refute it at one input. -/
def integralAntiderivativesWrong : ChangeSpec := { name := "integralAntiderivatives", fn := fun _ => fun
  | [d1, d2] => { results := [.lit (.bool false)], args := [d1, d2] }
  | _ => none }
def IntegralAntiderivativesWrongFalsely : Prop := integralAntiderivativesRow.holds Tryz.pinned (OpenSpec.ofChange integralAntiderivativesWrong)

/-- 'exactppllaw31.IntegralBetween': WHATEVER THE INPUT: true; the input reads as it did. -/
def integralBetweenSpec : ChangeSpec := { name := "integralBetween", fn := fun _ => fun
  | [d1, d2] => { results := [.lit (.bool true)], args := [d1, d2] }
  | _ => none }
def integralBetweenRow : OpenClaim := { program := "ytjjbkjgifdhlcaagreat", sum := "8e9ec2bbdcb4dff37bcedbacab767a877535e9f067e64d217008a7b9fe98349d", func := "exactppl/exactppllaw31.IntegralBetween", spec := "integralBetween", unfollowed := true, recurses := true, named := ["math/bits.overflowError"], plainKeys := false, apart := false }
def IntegralBetweenSaid : Prop := integralBetweenRow.holds Tryz.pinned (OpenSpec.ofChange integralBetweenSpec)

/-- ITS FALSE NEIGHBOUR: 'it returns false'. Refute it at one input. -/
def integralBetweenWrong : ChangeSpec := { name := "integralBetween", fn := fun _ => fun
  | [d1, d2] => { results := [.lit (.bool false)], args := [d1, d2] }
  | _ => none }
def IntegralBetweenWrongFalsely : Prop := integralBetweenRow.holds Tryz.pinned (OpenSpec.ofChange integralBetweenWrong)

/-- 'exactppllaw31.IntegralEliminates': WHATEVER THE INPUT: true; the input reads as it did. -/
def integralEliminatesSpec : ChangeSpec := { name := "integralEliminates", fn := fun _ => fun
  | [d1, d2] => { results := [.lit (.bool true)], args := [d1, d2] }
  | _ => none }
def integralEliminatesRow : OpenClaim := { program := "ytjjbkjgifdhlcaagreat", sum := "8e9ec2bbdcb4dff37bcedbacab767a877535e9f067e64d217008a7b9fe98349d", func := "exactppl/exactppllaw31.IntegralEliminates", spec := "integralEliminates", unfollowed := true, recurses := true, named := ["math/bits.overflowError"], plainKeys := false, apart := false }
def IntegralEliminatesSaid : Prop := integralEliminatesRow.holds Tryz.pinned (OpenSpec.ofChange integralEliminatesSpec)

/-- ITS FALSE NEIGHBOUR: 'it returns false'. Refute it at one input. -/
def integralEliminatesWrong : ChangeSpec := { name := "integralEliminates", fn := fun _ => fun
  | [d1, d2] => { results := [.lit (.bool false)], args := [d1, d2] }
  | _ => none }
def IntegralEliminatesWrongFalsely : Prop := integralEliminatesRow.holds Tryz.pinned (OpenSpec.ofChange integralEliminatesWrong)

/-- 'exactppllaw31.IntegralTotals': WHATEVER THE INPUT: true; the input reads as it did. -/
def integralTotalsSpec : ChangeSpec := { name := "integralTotals", fn := fun _ => fun
  | [d1, d2] => { results := [.lit (.bool true)], args := [d1, d2] }
  | _ => none }
def integralTotalsRow : OpenClaim := { program := "ytjjbkjgifdhlcaagreat", sum := "8e9ec2bbdcb4dff37bcedbacab767a877535e9f067e64d217008a7b9fe98349d", func := "exactppl/exactppllaw31.IntegralTotals", spec := "integralTotals", unfollowed := true, recurses := true, named := ["math/bits.overflowError"], plainKeys := false, apart := false }
def IntegralTotalsSaid : Prop := integralTotalsRow.holds Tryz.pinned (OpenSpec.ofChange integralTotalsSpec)

/-- ITS FALSE NEIGHBOUR: 'it returns false'. Refute it at one input. -/
def integralTotalsWrong : ChangeSpec := { name := "integralTotals", fn := fun _ => fun
  | [d1, d2] => { results := [.lit (.bool false)], args := [d1, d2] }
  | _ => none }
def IntegralTotalsWrongFalsely : Prop := integralTotalsRow.holds Tryz.pinned (OpenSpec.ofChange integralTotalsWrong)

/-- 'exactppllaw31.IntegralDerives': WHATEVER THE INPUT: true; the input reads as it did. -/
def integralDerivesSpec : ChangeSpec := { name := "integralDerives", fn := fun _ => fun
  | [d] => { results := [.lit (.bool true)], args := [d] }
  | _ => none }
def integralDerivesRow : OpenClaim := { program := "ytjjbkjgifdhlcaagreat", sum := "8e9ec2bbdcb4dff37bcedbacab767a877535e9f067e64d217008a7b9fe98349d", func := "exactppl/exactppllaw31.IntegralDerives", spec := "integralDerives", unfollowed := true, recurses := true, named := ["math/bits.overflowError"], plainKeys := false, apart := false }
def IntegralDerivesSaid : Prop := integralDerivesRow.holds Tryz.pinned (OpenSpec.ofChange integralDerivesSpec)

/-- ITS FALSE NEIGHBOUR: 'it returns false'. Refute it at one input. -/
def integralDerivesWrong : ChangeSpec := { name := "integralDerives", fn := fun _ => fun
  | [d] => { results := [.lit (.bool false)], args := [d] }
  | _ => none }
def IntegralDerivesWrongFalsely : Prop := integralDerivesRow.holds Tryz.pinned (OpenSpec.ofChange integralDerivesWrong)

/-- 'exactppllaw31.IntegralOrder': WHATEVER THE INPUT: true; the input reads as it did. -/
def integralOrderSpec : ChangeSpec := { name := "integralOrder", fn := fun _ => fun
  | [d] => { results := [.lit (.bool true)], args := [d] }
  | _ => none }
def integralOrderRow : OpenClaim := { program := "ytjjbkjgifdhlcaagreat", sum := "8e9ec2bbdcb4dff37bcedbacab767a877535e9f067e64d217008a7b9fe98349d", func := "exactppl/exactppllaw31.IntegralOrder", spec := "integralOrder", unfollowed := true, recurses := true, named := ["math/bits.overflowError"], plainKeys := false, apart := false }
def IntegralOrderSaid : Prop := integralOrderRow.holds Tryz.pinned (OpenSpec.ofChange integralOrderSpec)

/-- ITS FALSE NEIGHBOUR: 'it returns false'. Refute it at one input. -/
def integralOrderWrong : ChangeSpec := { name := "integralOrder", fn := fun _ => fun
  | [d] => { results := [.lit (.bool false)], args := [d] }
  | _ => none }
def IntegralOrderWrongFalsely : Prop := integralOrderRow.holds Tryz.pinned (OpenSpec.ofChange integralOrderWrong)

/-- 'exactppllaw31.IntegralBoxes': WHATEVER THE INPUT: true; the input reads as it did. -/
def integralBoxesSpec : ChangeSpec := { name := "integralBoxes", fn := fun _ => fun
  | [d] => { results := [.lit (.bool true)], args := [d] }
  | _ => none }
def integralBoxesRow : OpenClaim := { program := "ytjjbkjgifdhlcaagreat", sum := "8e9ec2bbdcb4dff37bcedbacab767a877535e9f067e64d217008a7b9fe98349d", func := "exactppl/exactppllaw31.IntegralBoxes", spec := "integralBoxes", unfollowed := true, recurses := true, named := ["math/bits.overflowError"], plainKeys := false, apart := false }
def IntegralBoxesSaid : Prop := integralBoxesRow.holds Tryz.pinned (OpenSpec.ofChange integralBoxesSpec)

/-- ITS FALSE NEIGHBOUR: 'it returns false'. Refute it at one input. -/
def integralBoxesWrong : ChangeSpec := { name := "integralBoxes", fn := fun _ => fun
  | [d] => { results := [.lit (.bool false)], args := [d] }
  | _ => none }
def IntegralBoxesWrongFalsely : Prop := integralBoxesRow.holds Tryz.pinned (OpenSpec.ofChange integralBoxesWrong)

/-- 'exactppllaw31.IntegralSplits': WHATEVER THE INPUT: true; the input reads as it did. -/
def integralSplitsSpec : ChangeSpec := { name := "integralSplits", fn := fun _ => fun
  | [d] => { results := [.lit (.bool true)], args := [d] }
  | _ => none }
def integralSplitsRow : OpenClaim := { program := "ytjjbkjgifdhlcaagreat", sum := "8e9ec2bbdcb4dff37bcedbacab767a877535e9f067e64d217008a7b9fe98349d", func := "exactppl/exactppllaw31.IntegralSplits", spec := "integralSplits", unfollowed := true, recurses := true, named := ["math/bits.overflowError"], plainKeys := false, apart := false }
def IntegralSplitsSaid : Prop := integralSplitsRow.holds Tryz.pinned (OpenSpec.ofChange integralSplitsSpec)

/-- ITS FALSE NEIGHBOUR: 'it returns false'. Refute it at one input. -/
def integralSplitsWrong : ChangeSpec := { name := "integralSplits", fn := fun _ => fun
  | [d] => { results := [.lit (.bool false)], args := [d] }
  | _ => none }
def IntegralSplitsWrongFalsely : Prop := integralSplitsRow.holds Tryz.pinned (OpenSpec.ofChange integralSplitsWrong)

/-- 'exactppllaw31.IntegralScales': WHATEVER THE INPUT: true; the input reads as it did. -/
def integralScalesSpec : ChangeSpec := { name := "integralScales", fn := fun _ => fun
  | [d] => { results := [.lit (.bool true)], args := [d] }
  | _ => none }
def integralScalesRow : OpenClaim := { program := "ytjjbkjgifdhlcaagreat", sum := "8e9ec2bbdcb4dff37bcedbacab767a877535e9f067e64d217008a7b9fe98349d", func := "exactppl/exactppllaw31.IntegralScales", spec := "integralScales", unfollowed := true, recurses := true, named := ["math/bits.overflowError"], plainKeys := false, apart := false }
def IntegralScalesSaid : Prop := integralScalesRow.holds Tryz.pinned (OpenSpec.ofChange integralScalesSpec)

/-- ITS FALSE NEIGHBOUR: 'it returns false'. Refute it at one input. -/
def integralScalesWrong : ChangeSpec := { name := "integralScales", fn := fun _ => fun
  | [d] => { results := [.lit (.bool false)], args := [d] }
  | _ => none }
def IntegralScalesWrongFalsely : Prop := integralScalesRow.holds Tryz.pinned (OpenSpec.ofChange integralScalesWrong)

/-- 'exactppllaw31.IntegralLinear': WHATEVER THE INPUT: true; the input reads as it did. -/
def integralLinearSpec : ChangeSpec := { name := "integralLinear", fn := fun _ => fun
  | [d] => { results := [.lit (.bool true)], args := [d] }
  | _ => none }
def integralLinearRow : OpenClaim := { program := "ytjjbkjgifdhlcaagreat", sum := "8e9ec2bbdcb4dff37bcedbacab767a877535e9f067e64d217008a7b9fe98349d", func := "exactppl/exactppllaw31.IntegralLinear", spec := "integralLinear", unfollowed := true, recurses := true, named := ["math/bits.overflowError"], plainKeys := false, apart := false }
def IntegralLinearSaid : Prop := integralLinearRow.holds Tryz.pinned (OpenSpec.ofChange integralLinearSpec)

/-- ITS FALSE NEIGHBOUR: 'it returns false'. Refute it at one input. -/
def integralLinearWrong : ChangeSpec := { name := "integralLinear", fn := fun _ => fun
  | [d] => { results := [.lit (.bool false)], args := [d] }
  | _ => none }
def IntegralLinearWrongFalsely : Prop := integralLinearRow.holds Tryz.pinned (OpenSpec.ofChange integralLinearWrong)

/-- 'exactppllaw31.IntegralFactors': WHATEVER THE INPUT: true; the input reads as it did. -/
def integralFactorsSpec : ChangeSpec := { name := "integralFactors", fn := fun _ => fun
  | [d] => { results := [.lit (.bool true)], args := [d] }
  | _ => none }
def integralFactorsRow : OpenClaim := { program := "ytjjbkjgifdhlcaagreat", sum := "8e9ec2bbdcb4dff37bcedbacab767a877535e9f067e64d217008a7b9fe98349d", func := "exactppl/exactppllaw31.IntegralFactors", spec := "integralFactors", unfollowed := true, recurses := true, named := ["math/bits.overflowError"], plainKeys := false, apart := false }
def IntegralFactorsSaid : Prop := integralFactorsRow.holds Tryz.pinned (OpenSpec.ofChange integralFactorsSpec)

/-- ITS FALSE NEIGHBOUR: 'it returns false'. Refute it at one input. -/
def integralFactorsWrong : ChangeSpec := { name := "integralFactors", fn := fun _ => fun
  | [d] => { results := [.lit (.bool false)], args := [d] }
  | _ => none }
def IntegralFactorsWrongFalsely : Prop := integralFactorsRow.holds Tryz.pinned (OpenSpec.ofChange integralFactorsWrong)

/- THE SECOND FORM. 'bulk': how many values and letters a reading holds, each counted each time it is reached (what is shared counts as often as it is met; a slice's spare places count too). A statement '..UptoSaid' is the law's where the arguments, and the package variables that the reading takes, are together of bulk at most 1048576: NARROWER than '..Said'. Prove '..Said' where nothing that the law and all that it calls make is longer than what came in: it says more and counts as full. Else prove '..UptoSaid'. A law counts once. -/
mutual
def uptoBulk {H : Type} : DataW H → Nat
  | .lit (.string bytes) => bytes.length + 1
  | .lit _ => 1
  | .nil => 1
  | .ptr d => uptoBulk d + 1
  | .slice elems spare => uptoBulkAll elems + uptoBulkAll spare + 1
  | .agg parts => uptoBulkAll parts + 1
  | .iface _ d => uptoBulk d + 1
  | .map entries => uptoBulkEntries entries + 1
  | .held _ => 1
def uptoBulkAll {H : Type} : List (DataW H) → Nat
  | [] => 0
  | d :: r => uptoBulk d + uptoBulkAll r
def uptoBulkEntries {H : Type} : List (Lit × DataW H) → Nat
  | [] => 0
  | x :: r => uptoBulkEntry x + uptoBulkEntries r
def uptoBulkEntry {H : Type} : Lit × DataW H → Nat
  | (.string bytes, d) => bytes.length + uptoBulk d + 1
  | (_, d) => uptoBulk d + 1
 end
def uptoSmall : (H : Type) → List (DataW H) → Bool := fun _ ds => decide (uptoBulkAll ds ≤ 1048576)
def OpenSpec.upto (s : _root_.Go.ChangeSpec) : _root_.Go.OpenSpec := { _root_.Go.OpenSpec.ofChange s with cond := some uptoSmall }

/-- 'exactppllaw28.LinearPolys', WHERE WHAT IT READS IS OF BULK AT MOST 1048576: true; the input reads as it did. -/
def linearPolysUptoRow : OpenClaim := { program := "ytjjbkjgifdhlcaagreat", sum := "8e9ec2bbdcb4dff37bcedbacab767a877535e9f067e64d217008a7b9fe98349d", func := "exactppl/exactppllaw28.LinearPolys", spec := "linearPolys", unfollowed := true, recurses := true, named := ["math/bits.overflowError"], plainKeys := false, apart := false, narrowed := true }
def LinearPolysUptoSaid : Prop := linearPolysUptoRow.holds Tryz.pinned (OpenSpec.upto linearPolysSpec)

/-- 'exactppllaw31.IntegralAntiderivatives', WHERE WHAT IT READS IS OF BULK AT MOST 1048576: true; the input reads as it did. -/
def integralAntiderivativesUptoRow : OpenClaim := { program := "ytjjbkjgifdhlcaagreat", sum := "8e9ec2bbdcb4dff37bcedbacab767a877535e9f067e64d217008a7b9fe98349d", func := "exactppl/exactppllaw31.IntegralAntiderivatives", spec := "integralAntiderivatives", unfollowed := true, recurses := true, named := ["math/bits.overflowError"], plainKeys := false, apart := false, narrowed := true }
def IntegralAntiderivativesUptoSaid : Prop := integralAntiderivativesUptoRow.holds Tryz.pinned (OpenSpec.upto integralAntiderivativesSpec)

/-- 'exactppllaw31.IntegralBetween', WHERE WHAT IT READS IS OF BULK AT MOST 1048576: true; the input reads as it did. -/
def integralBetweenUptoRow : OpenClaim := { program := "ytjjbkjgifdhlcaagreat", sum := "8e9ec2bbdcb4dff37bcedbacab767a877535e9f067e64d217008a7b9fe98349d", func := "exactppl/exactppllaw31.IntegralBetween", spec := "integralBetween", unfollowed := true, recurses := true, named := ["math/bits.overflowError"], plainKeys := false, apart := false, narrowed := true }
def IntegralBetweenUptoSaid : Prop := integralBetweenUptoRow.holds Tryz.pinned (OpenSpec.upto integralBetweenSpec)

/-- 'exactppllaw31.IntegralEliminates', WHERE WHAT IT READS IS OF BULK AT MOST 1048576: true; the input reads as it did. -/
def integralEliminatesUptoRow : OpenClaim := { program := "ytjjbkjgifdhlcaagreat", sum := "8e9ec2bbdcb4dff37bcedbacab767a877535e9f067e64d217008a7b9fe98349d", func := "exactppl/exactppllaw31.IntegralEliminates", spec := "integralEliminates", unfollowed := true, recurses := true, named := ["math/bits.overflowError"], plainKeys := false, apart := false, narrowed := true }
def IntegralEliminatesUptoSaid : Prop := integralEliminatesUptoRow.holds Tryz.pinned (OpenSpec.upto integralEliminatesSpec)

/-- 'exactppllaw31.IntegralTotals', WHERE WHAT IT READS IS OF BULK AT MOST 1048576: true; the input reads as it did. -/
def integralTotalsUptoRow : OpenClaim := { program := "ytjjbkjgifdhlcaagreat", sum := "8e9ec2bbdcb4dff37bcedbacab767a877535e9f067e64d217008a7b9fe98349d", func := "exactppl/exactppllaw31.IntegralTotals", spec := "integralTotals", unfollowed := true, recurses := true, named := ["math/bits.overflowError"], plainKeys := false, apart := false, narrowed := true }
def IntegralTotalsUptoSaid : Prop := integralTotalsUptoRow.holds Tryz.pinned (OpenSpec.upto integralTotalsSpec)

/-- 'exactppllaw31.IntegralDerives', WHERE WHAT IT READS IS OF BULK AT MOST 1048576: true; the input reads as it did. -/
def integralDerivesUptoRow : OpenClaim := { program := "ytjjbkjgifdhlcaagreat", sum := "8e9ec2bbdcb4dff37bcedbacab767a877535e9f067e64d217008a7b9fe98349d", func := "exactppl/exactppllaw31.IntegralDerives", spec := "integralDerives", unfollowed := true, recurses := true, named := ["math/bits.overflowError"], plainKeys := false, apart := false, narrowed := true }
def IntegralDerivesUptoSaid : Prop := integralDerivesUptoRow.holds Tryz.pinned (OpenSpec.upto integralDerivesSpec)

/-- 'exactppllaw31.IntegralOrder', WHERE WHAT IT READS IS OF BULK AT MOST 1048576: true; the input reads as it did. -/
def integralOrderUptoRow : OpenClaim := { program := "ytjjbkjgifdhlcaagreat", sum := "8e9ec2bbdcb4dff37bcedbacab767a877535e9f067e64d217008a7b9fe98349d", func := "exactppl/exactppllaw31.IntegralOrder", spec := "integralOrder", unfollowed := true, recurses := true, named := ["math/bits.overflowError"], plainKeys := false, apart := false, narrowed := true }
def IntegralOrderUptoSaid : Prop := integralOrderUptoRow.holds Tryz.pinned (OpenSpec.upto integralOrderSpec)

/-- 'exactppllaw31.IntegralBoxes', WHERE WHAT IT READS IS OF BULK AT MOST 1048576: true; the input reads as it did. -/
def integralBoxesUptoRow : OpenClaim := { program := "ytjjbkjgifdhlcaagreat", sum := "8e9ec2bbdcb4dff37bcedbacab767a877535e9f067e64d217008a7b9fe98349d", func := "exactppl/exactppllaw31.IntegralBoxes", spec := "integralBoxes", unfollowed := true, recurses := true, named := ["math/bits.overflowError"], plainKeys := false, apart := false, narrowed := true }
def IntegralBoxesUptoSaid : Prop := integralBoxesUptoRow.holds Tryz.pinned (OpenSpec.upto integralBoxesSpec)

/-- 'exactppllaw31.IntegralSplits', WHERE WHAT IT READS IS OF BULK AT MOST 1048576: true; the input reads as it did. -/
def integralSplitsUptoRow : OpenClaim := { program := "ytjjbkjgifdhlcaagreat", sum := "8e9ec2bbdcb4dff37bcedbacab767a877535e9f067e64d217008a7b9fe98349d", func := "exactppl/exactppllaw31.IntegralSplits", spec := "integralSplits", unfollowed := true, recurses := true, named := ["math/bits.overflowError"], plainKeys := false, apart := false, narrowed := true }
def IntegralSplitsUptoSaid : Prop := integralSplitsUptoRow.holds Tryz.pinned (OpenSpec.upto integralSplitsSpec)

/-- 'exactppllaw31.IntegralScales', WHERE WHAT IT READS IS OF BULK AT MOST 1048576: true; the input reads as it did. -/
def integralScalesUptoRow : OpenClaim := { program := "ytjjbkjgifdhlcaagreat", sum := "8e9ec2bbdcb4dff37bcedbacab767a877535e9f067e64d217008a7b9fe98349d", func := "exactppl/exactppllaw31.IntegralScales", spec := "integralScales", unfollowed := true, recurses := true, named := ["math/bits.overflowError"], plainKeys := false, apart := false, narrowed := true }
def IntegralScalesUptoSaid : Prop := integralScalesUptoRow.holds Tryz.pinned (OpenSpec.upto integralScalesSpec)

/-- 'exactppllaw31.IntegralLinear', WHERE WHAT IT READS IS OF BULK AT MOST 1048576: true; the input reads as it did. -/
def integralLinearUptoRow : OpenClaim := { program := "ytjjbkjgifdhlcaagreat", sum := "8e9ec2bbdcb4dff37bcedbacab767a877535e9f067e64d217008a7b9fe98349d", func := "exactppl/exactppllaw31.IntegralLinear", spec := "integralLinear", unfollowed := true, recurses := true, named := ["math/bits.overflowError"], plainKeys := false, apart := false, narrowed := true }
def IntegralLinearUptoSaid : Prop := integralLinearUptoRow.holds Tryz.pinned (OpenSpec.upto integralLinearSpec)

/-- 'exactppllaw31.IntegralFactors', WHERE WHAT IT READS IS OF BULK AT MOST 1048576: true; the input reads as it did. -/
def integralFactorsUptoRow : OpenClaim := { program := "ytjjbkjgifdhlcaagreat", sum := "8e9ec2bbdcb4dff37bcedbacab767a877535e9f067e64d217008a7b9fe98349d", func := "exactppl/exactppllaw31.IntegralFactors", spec := "integralFactors", unfollowed := true, recurses := true, named := ["math/bits.overflowError"], plainKeys := false, apart := false, narrowed := true }
def IntegralFactorsUptoSaid : Prop := integralFactorsUptoRow.holds Tryz.pinned (OpenSpec.upto integralFactorsSpec)

end Rows
end Go.Proofs.YtjjbkjgifdhlcaaGreat
