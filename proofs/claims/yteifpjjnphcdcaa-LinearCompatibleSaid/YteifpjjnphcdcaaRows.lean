/-
  No cell of these rows narrows 'for every input' (looked for: loops, veiled, ifaces, maps, wideKeys, modest, calm, conditions, laid).
  DERIVED. THE GIVEN ROWS OF THIS SEAT. 6 by the template 'for every input the law returns true; each argument reads behind the call as it read before'; 0 by the template 'total and deterministic' (their statements: YteifpjjnphcdcaaTotals.lean).
  GIVEN WITH THE SEED: the statements are not yours to turn. If you find one false, say at which input.
  Laid BY PROGRAM, IN A SANDBOX (cutbox-rows.mjs): the forced cells as the released guide's own fill.sh prints them over the translation 6c1e84c5c398a642… (all of the seat's roots in one cut). By AI agents, Wed Nov 11 2026. No macro, syntax, notation, axiom, sorry.
-/
import Derived.Test.YteifpjjnphcdcaaChecked
import GoSem.Claim
import GoSem.ClaimJoined
import GoSem.ClaimMapViews
import Derived.JoinedTies
import Derived.KernelRfl
namespace Go.Proofs.Yteifpjjnphcdcaa
/- THE CELL 'sum', in the pinned program and in every row, IS THE sha256 OF THE DUMP (.gsa) THAT YteifpjjnphcdcaaProg.lean LOADS. Nothing in Lean hashes anything: it is a label: what it is worth is what the hold of that sum in a sandbox is worth. -/
noncomputable def Try.pinned : Pinned := { name := "yteifpjjnphcdcaa", sum := "6c1e84c5c398a642d769a01973e39727b567fbe4833aaad0306dfedc6a393fb8", checked := Try.checked }
namespace Rows
def none {H : Type} : Left H := { results := [], args := [] }

/-- 'exactppllaw28.LinearNorms': WHATEVER THE INPUT: true; the input reads as it did. -/
def linearNormsSpec : ChangeSpec := { name := "linearNorms", fn := fun _ => fun
  | [d] => { results := [.lit (.bool true)], args := [d] }
  | _ => none }
def linearNormsRow : OpenClaim := { program := "yteifpjjnphcdcaa", sum := "6c1e84c5c398a642d769a01973e39727b567fbe4833aaad0306dfedc6a393fb8", func := "exactppl/exactppllaw28.LinearNorms", spec := "linearNorms", unfollowed := true, recurses := true, named := ["math/bits.overflowError"], apart := false }
def LinearNormsSaid : Prop := linearNormsRow.holds Try.pinned (OpenSpec.ofChange linearNormsSpec)

/-- ITS FALSE NEIGHBOUR: 'it returns false'. Refute it at one input. -/
def linearNormsWrong : ChangeSpec := { name := "linearNorms", fn := fun _ => fun
  | [d] => { results := [.lit (.bool false)], args := [d] }
  | _ => none }
def LinearNormsWrongFalsely : Prop := linearNormsRow.holds Try.pinned (OpenSpec.ofChange linearNormsWrong)

/-- 'exactppllaw28.LinearSolves': WHATEVER THE INPUT: true; the input reads as it did. -/
def linearSolvesSpec : ChangeSpec := { name := "linearSolves", fn := fun _ => fun
  | [d1, d2] => { results := [.lit (.bool true)], args := [d1, d2] }
  | _ => none }
def linearSolvesRow : OpenClaim := { program := "yteifpjjnphcdcaa", sum := "6c1e84c5c398a642d769a01973e39727b567fbe4833aaad0306dfedc6a393fb8", func := "exactppl/exactppllaw28.LinearSolves", spec := "linearSolves", unfollowed := true, recurses := true, named := ["math/bits.overflowError"], apart := false }
def LinearSolvesSaid : Prop := linearSolvesRow.holds Try.pinned (OpenSpec.ofChange linearSolvesSpec)

/-- ITS FALSE NEIGHBOUR: 'it returns false'. Refute it at one input. -/
def linearSolvesWrong : ChangeSpec := { name := "linearSolves", fn := fun _ => fun
  | [d1, d2] => { results := [.lit (.bool false)], args := [d1, d2] }
  | _ => none }
def LinearSolvesWrongFalsely : Prop := linearSolvesRow.holds Try.pinned (OpenSpec.ofChange linearSolvesWrong)

/-- 'exactppllaw28.LinearSubstitutes': WHATEVER THE INPUT: true; the input reads as it did. -/
def linearSubstitutesSpec : ChangeSpec := { name := "linearSubstitutes", fn := fun _ => fun
  | [d1, d2] => { results := [.lit (.bool true)], args := [d1, d2] }
  | _ => none }
def linearSubstitutesRow : OpenClaim := { program := "yteifpjjnphcdcaa", sum := "6c1e84c5c398a642d769a01973e39727b567fbe4833aaad0306dfedc6a393fb8", func := "exactppl/exactppllaw28.LinearSubstitutes", spec := "linearSubstitutes", unfollowed := true, recurses := true, named := ["math/bits.overflowError"], apart := false }
def LinearSubstitutesSaid : Prop := linearSubstitutesRow.holds Try.pinned (OpenSpec.ofChange linearSubstitutesSpec)

/-- ITS FALSE NEIGHBOUR: 'it returns false'. Refute it at one input. -/
def linearSubstitutesWrong : ChangeSpec := { name := "linearSubstitutes", fn := fun _ => fun
  | [d1, d2] => { results := [.lit (.bool false)], args := [d1, d2] }
  | _ => none }
def LinearSubstitutesWrongFalsely : Prop := linearSubstitutesRow.holds Try.pinned (OpenSpec.ofChange linearSubstitutesWrong)

/-- 'exactppllaw28.LinearOrders': WHATEVER THE INPUT: true; the input reads as it did. -/
def linearOrdersSpec : ChangeSpec := { name := "linearOrders", fn := fun _ => fun
  | [d] => { results := [.lit (.bool true)], args := [d] }
  | _ => none }
def linearOrdersRow : OpenClaim := { program := "yteifpjjnphcdcaa", sum := "6c1e84c5c398a642d769a01973e39727b567fbe4833aaad0306dfedc6a393fb8", func := "exactppl/exactppllaw28.LinearOrders", spec := "linearOrders", unfollowed := true, recurses := true, named := ["math/bits.overflowError"], apart := false }
def LinearOrdersSaid : Prop := linearOrdersRow.holds Try.pinned (OpenSpec.ofChange linearOrdersSpec)

/-- ITS FALSE NEIGHBOUR: 'it returns false'. Refute it at one input. -/
def linearOrdersWrong : ChangeSpec := { name := "linearOrders", fn := fun _ => fun
  | [d] => { results := [.lit (.bool false)], args := [d] }
  | _ => none }
def LinearOrdersWrongFalsely : Prop := linearOrdersRow.holds Try.pinned (OpenSpec.ofChange linearOrdersWrong)

/-- 'exactppllaw28.LinearBounds': WHATEVER THE INPUT: true; the input reads as it did. -/
def linearBoundsSpec : ChangeSpec := { name := "linearBounds", fn := fun _ => fun
  | [d] => { results := [.lit (.bool true)], args := [d] }
  | _ => none }
def linearBoundsRow : OpenClaim := { program := "yteifpjjnphcdcaa", sum := "6c1e84c5c398a642d769a01973e39727b567fbe4833aaad0306dfedc6a393fb8", func := "exactppl/exactppllaw28.LinearBounds", spec := "linearBounds", unfollowed := true, recurses := true, named := ["math/bits.overflowError"], apart := false }
def LinearBoundsSaid : Prop := linearBoundsRow.holds Try.pinned (OpenSpec.ofChange linearBoundsSpec)

/-- ITS FALSE NEIGHBOUR: 'it returns false'. Refute it at one input. -/
def linearBoundsWrong : ChangeSpec := { name := "linearBounds", fn := fun _ => fun
  | [d] => { results := [.lit (.bool false)], args := [d] }
  | _ => none }
def LinearBoundsWrongFalsely : Prop := linearBoundsRow.holds Try.pinned (OpenSpec.ofChange linearBoundsWrong)

/-- 'exactppllaw28.LinearCompatible': WHATEVER THE INPUT: true; the input reads as it did. -/
def linearCompatibleSpec : ChangeSpec := { name := "linearCompatible", fn := fun _ => fun
  | [d] => { results := [.lit (.bool true)], args := [d] }
  | _ => none }
def linearCompatibleRow : OpenClaim := { program := "yteifpjjnphcdcaa", sum := "6c1e84c5c398a642d769a01973e39727b567fbe4833aaad0306dfedc6a393fb8", func := "exactppl/exactppllaw28.LinearCompatible", spec := "linearCompatible", unfollowed := true, recurses := true, named := ["math/bits.overflowError"], apart := false }
def LinearCompatibleSaid : Prop := linearCompatibleRow.holds Try.pinned (OpenSpec.ofChange linearCompatibleSpec)

/-- ITS FALSE NEIGHBOUR: 'it returns false'. Refute it at one input. -/
def linearCompatibleWrong : ChangeSpec := { name := "linearCompatible", fn := fun _ => fun
  | [d] => { results := [.lit (.bool false)], args := [d] }
  | _ => none }
def LinearCompatibleWrongFalsely : Prop := linearCompatibleRow.holds Try.pinned (OpenSpec.ofChange linearCompatibleWrong)

/- THE SECOND FORM. 'bulk': how many values and letters a reading holds, each counted each time it is reached (what is shared counts as often as it is met; a slice's spare places count too). A statement '..UptoSaid' is the law's where the arguments, and the package variables that the reading takes, are together of bulk at most 1048576: NARROWER than '..Said'. Prove '..Said' where nothing that the law and all that it calls make is longer than what came in: it says more and counts as full. Else prove '..UptoSaid'. A law counts once. -/
mutual
def uptoBulk {H : Type} : DataW H → Nat
  | .lit (.string bytes) => bytes.length + 1
  | .lit _ => 1
  | .nil => 1
  | .ptr d => uptoBulk d + 1
  | .slice elems spare => uptoBulkAll elems + uptoBulkAll spare + 1
  | .agg parts => uptoBulkAll parts + 1
  | .iface _ d => uptoBulk d + 1
  | .map entries => uptoBulkEntries entries + 1
  | .held _ => 1
def uptoBulkAll {H : Type} : List (DataW H) → Nat
  | [] => 0
  | d :: r => uptoBulk d + uptoBulkAll r
def uptoBulkEntries {H : Type} : List (Lit × DataW H) → Nat
  | [] => 0
  | x :: r => uptoBulkEntry x + uptoBulkEntries r
def uptoBulkEntry {H : Type} : Lit × DataW H → Nat
  | (.string bytes, d) => bytes.length + uptoBulk d + 1
  | (_, d) => uptoBulk d + 1
 end
def uptoSmall : (H : Type) → List (DataW H) → Bool := fun _ ds => decide (uptoBulkAll ds ≤ 1048576)
def OpenSpec.upto (s : _root_.Go.ChangeSpec) : _root_.Go.OpenSpec := { _root_.Go.OpenSpec.ofChange s with cond := some uptoSmall }

/-- 'exactppllaw28.LinearNorms', WHERE WHAT IT READS IS OF BULK AT MOST 1048576: true; the input reads as it did. -/
def linearNormsUptoRow : OpenClaim := { program := "yteifpjjnphcdcaa", sum := "6c1e84c5c398a642d769a01973e39727b567fbe4833aaad0306dfedc6a393fb8", func := "exactppl/exactppllaw28.LinearNorms", spec := "linearNorms", unfollowed := true, recurses := true, named := ["math/bits.overflowError"], apart := false, narrowed := true }
def LinearNormsUptoSaid : Prop := linearNormsUptoRow.holds Try.pinned (OpenSpec.upto linearNormsSpec)

/-- 'exactppllaw28.LinearSolves', WHERE WHAT IT READS IS OF BULK AT MOST 1048576: true; the input reads as it did. -/
def linearSolvesUptoRow : OpenClaim := { program := "yteifpjjnphcdcaa", sum := "6c1e84c5c398a642d769a01973e39727b567fbe4833aaad0306dfedc6a393fb8", func := "exactppl/exactppllaw28.LinearSolves", spec := "linearSolves", unfollowed := true, recurses := true, named := ["math/bits.overflowError"], apart := false, narrowed := true }
def LinearSolvesUptoSaid : Prop := linearSolvesUptoRow.holds Try.pinned (OpenSpec.upto linearSolvesSpec)

/-- 'exactppllaw28.LinearSubstitutes', WHERE WHAT IT READS IS OF BULK AT MOST 1048576: true; the input reads as it did. -/
def linearSubstitutesUptoRow : OpenClaim := { program := "yteifpjjnphcdcaa", sum := "6c1e84c5c398a642d769a01973e39727b567fbe4833aaad0306dfedc6a393fb8", func := "exactppl/exactppllaw28.LinearSubstitutes", spec := "linearSubstitutes", unfollowed := true, recurses := true, named := ["math/bits.overflowError"], apart := false, narrowed := true }
def LinearSubstitutesUptoSaid : Prop := linearSubstitutesUptoRow.holds Try.pinned (OpenSpec.upto linearSubstitutesSpec)

/-- 'exactppllaw28.LinearOrders', WHERE WHAT IT READS IS OF BULK AT MOST 1048576: true; the input reads as it did. -/
def linearOrdersUptoRow : OpenClaim := { program := "yteifpjjnphcdcaa", sum := "6c1e84c5c398a642d769a01973e39727b567fbe4833aaad0306dfedc6a393fb8", func := "exactppl/exactppllaw28.LinearOrders", spec := "linearOrders", unfollowed := true, recurses := true, named := ["math/bits.overflowError"], apart := false, narrowed := true }
def LinearOrdersUptoSaid : Prop := linearOrdersUptoRow.holds Try.pinned (OpenSpec.upto linearOrdersSpec)

/-- 'exactppllaw28.LinearBounds', WHERE WHAT IT READS IS OF BULK AT MOST 1048576: true; the input reads as it did. -/
def linearBoundsUptoRow : OpenClaim := { program := "yteifpjjnphcdcaa", sum := "6c1e84c5c398a642d769a01973e39727b567fbe4833aaad0306dfedc6a393fb8", func := "exactppl/exactppllaw28.LinearBounds", spec := "linearBounds", unfollowed := true, recurses := true, named := ["math/bits.overflowError"], apart := false, narrowed := true }
def LinearBoundsUptoSaid : Prop := linearBoundsUptoRow.holds Try.pinned (OpenSpec.upto linearBoundsSpec)

/-- 'exactppllaw28.LinearCompatible', WHERE WHAT IT READS IS OF BULK AT MOST 1048576: true; the input reads as it did. -/
def linearCompatibleUptoRow : OpenClaim := { program := "yteifpjjnphcdcaa", sum := "6c1e84c5c398a642d769a01973e39727b567fbe4833aaad0306dfedc6a393fb8", func := "exactppl/exactppllaw28.LinearCompatible", spec := "linearCompatible", unfollowed := true, recurses := true, named := ["math/bits.overflowError"], apart := false, narrowed := true }
def LinearCompatibleUptoSaid : Prop := linearCompatibleUptoRow.holds Try.pinned (OpenSpec.upto linearCompatibleSpec)

end Rows
end Go.Proofs.Yteifpjjnphcdcaa
