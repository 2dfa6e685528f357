/-
  No cell of these rows narrows 'for every input' (looked for: loops, veiled, ifaces, maps, wideKeys, modest, calm, conditions, laid).
  DERIVED. THE GIVEN ROWS OF THIS SEAT. 7 by the template 'for every input the law returns true; each argument reads behind the call as it read before'; 0 by the template 'total and deterministic' (their statements: YtddnnhlcpffbdaaGreatTotals.lean).
  GIVEN WITH THE SEED: the statements are not yours to turn. If you find one false, say at which input.
  Laid BY PROGRAM, IN A SANDBOX (cutbox-rows.mjs): the forced cells as the released guide's own fill.sh prints them over the translation 5efd3afcc62d2487… (all of the seat's roots in one cut). By AI agents, Wed Nov 11 2026. No macro, syntax, notation, axiom, sorry.
-/
import Derived.Test.YtddnnhlcpffbdaaGreatChecked
import GoSem.Claim
import GoSem.ClaimJoined
import GoSem.ClaimMapViews
import Derived.JoinedTies
import Derived.KernelRfl
namespace Go.Proofs.YtddnnhlcpffbdaaGreat
/- THE CELL 'sum', in the pinned program and in every row, IS THE sha256 OF THE DUMP (.gsa) THAT YtddnnhlcpffbdaaGreatProg.lean LOADS. Nothing in Lean hashes anything: it is a label: what it is worth is what the hold of that sum in a sandbox is worth. -/
noncomputable def Tryz.pinned : Pinned := { name := "ytddnnhlcpffbdaagreat", sum := "5efd3afcc62d2487a207736ac92f36d7f42ca1a163d81d6117a6f1611327839d", checked := Tryz.checked }
namespace Rows
def none {H : Type} : Left H := { results := [], args := [] }

/-- 'exactppllaw29.PolytopeBounds': WHATEVER THE INPUT: true; the input reads as it did. -/
def polytopeBoundsSpec : ChangeSpec := { name := "polytopeBounds", fn := fun _ => fun
  | [d1, d2] => { results := [.lit (.bool true)], args := [d1, d2] }
  | _ => none }
def polytopeBoundsRow : OpenClaim := { program := "ytddnnhlcpffbdaagreat", sum := "5efd3afcc62d2487a207736ac92f36d7f42ca1a163d81d6117a6f1611327839d", func := "exactppl/exactppllaw29.PolytopeBounds", spec := "polytopeBounds", unfollowed := true, recurses := true, named := ["math/bits.overflowError"], apart := false }
def PolytopeBoundsSaid : Prop := polytopeBoundsRow.holds Tryz.pinned (OpenSpec.ofChange polytopeBoundsSpec)

/-- ITS FALSE NEIGHBOUR: 'it returns false'. Refute it at one input. -/
def polytopeBoundsWrong : ChangeSpec := { name := "polytopeBounds", fn := fun _ => fun
  | [d1, d2] => { results := [.lit (.bool false)], args := [d1, d2] }
  | _ => none }
def PolytopeBoundsWrongFalsely : Prop := polytopeBoundsRow.holds Tryz.pinned (OpenSpec.ofChange polytopeBoundsWrong)

/-- 'exactppllaw29.PolytopeMiddle': WHATEVER THE INPUT: true; the input reads as it did. -/
def polytopeMiddleSpec : ChangeSpec := { name := "polytopeMiddle", fn := fun _ => fun
  | [d] => { results := [.lit (.bool true)], args := [d] }
  | _ => none }
def polytopeMiddleRow : OpenClaim := { program := "ytddnnhlcpffbdaagreat", sum := "5efd3afcc62d2487a207736ac92f36d7f42ca1a163d81d6117a6f1611327839d", func := "exactppl/exactppllaw29.PolytopeMiddle", spec := "polytopeMiddle", unfollowed := true, recurses := true, named := ["math/bits.overflowError"], apart := false }
def PolytopeMiddleSaid : Prop := polytopeMiddleRow.holds Tryz.pinned (OpenSpec.ofChange polytopeMiddleSpec)

/-- ITS FALSE NEIGHBOUR: 'it returns false'. Refute it at one input. -/
def polytopeMiddleWrong : ChangeSpec := { name := "polytopeMiddle", fn := fun _ => fun
  | [d] => { results := [.lit (.bool false)], args := [d] }
  | _ => none }
def PolytopeMiddleWrongFalsely : Prop := polytopeMiddleRow.holds Tryz.pinned (OpenSpec.ofChange polytopeMiddleWrong)

/-- 'exactppllaw29.PolytopeFeasible': WHATEVER THE INPUT: true; the input reads as it did. -/
def polytopeFeasibleSpec : ChangeSpec := { name := "polytopeFeasible", fn := fun _ => fun
  | [d] => { results := [.lit (.bool true)], args := [d] }
  | _ => none }
def polytopeFeasibleRow : OpenClaim := { program := "ytddnnhlcpffbdaagreat", sum := "5efd3afcc62d2487a207736ac92f36d7f42ca1a163d81d6117a6f1611327839d", func := "exactppl/exactppllaw29.PolytopeFeasible", spec := "polytopeFeasible", unfollowed := true, recurses := true, named := ["math/bits.overflowError"], apart := false }
def PolytopeFeasibleSaid : Prop := polytopeFeasibleRow.holds Tryz.pinned (OpenSpec.ofChange polytopeFeasibleSpec)

/-- ITS FALSE NEIGHBOUR: 'it returns false'. Refute it at one input. -/
def polytopeFeasibleWrong : ChangeSpec := { name := "polytopeFeasible", fn := fun _ => fun
  | [d] => { results := [.lit (.bool false)], args := [d] }
  | _ => none }
def PolytopeFeasibleWrongFalsely : Prop := polytopeFeasibleRow.holds Tryz.pinned (OpenSpec.ofChange polytopeFeasibleWrong)

/-- 'exactppllaw29.PolytopeWithin': WHATEVER THE INPUT: true; the input reads as it did. -/
def polytopeWithinSpec : ChangeSpec := { name := "polytopeWithin", fn := fun _ => fun
  | [d] => { results := [.lit (.bool true)], args := [d] }
  | _ => none }
def polytopeWithinRow : OpenClaim := { program := "ytddnnhlcpffbdaagreat", sum := "5efd3afcc62d2487a207736ac92f36d7f42ca1a163d81d6117a6f1611327839d", func := "exactppl/exactppllaw29.PolytopeWithin", spec := "polytopeWithin", unfollowed := true, recurses := true, named := ["math/bits.overflowError"], apart := false }
def PolytopeWithinSaid : Prop := polytopeWithinRow.holds Tryz.pinned (OpenSpec.ofChange polytopeWithinSpec)

/-- ITS FALSE NEIGHBOUR: 'it returns false'. Refute it at one input. -/
def polytopeWithinWrong : ChangeSpec := { name := "polytopeWithin", fn := fun _ => fun
  | [d] => { results := [.lit (.bool false)], args := [d] }
  | _ => none }
def PolytopeWithinWrongFalsely : Prop := polytopeWithinRow.holds Tryz.pinned (OpenSpec.ofChange polytopeWithinWrong)

/-- 'exactppllaw29.PolytopeSimplifies': WHATEVER THE INPUT: true; the input reads as it did. -/
def polytopeSimplifiesSpec : ChangeSpec := { name := "polytopeSimplifies", fn := fun _ => fun
  | [d] => { results := [.lit (.bool true)], args := [d] }
  | _ => none }
def polytopeSimplifiesRow : OpenClaim := { program := "ytddnnhlcpffbdaagreat", sum := "5efd3afcc62d2487a207736ac92f36d7f42ca1a163d81d6117a6f1611327839d", func := "exactppl/exactppllaw29.PolytopeSimplifies", spec := "polytopeSimplifies", unfollowed := true, recurses := true, named := ["math/bits.overflowError"], apart := false }
def PolytopeSimplifiesSaid : Prop := polytopeSimplifiesRow.holds Tryz.pinned (OpenSpec.ofChange polytopeSimplifiesSpec)

/-- ITS FALSE NEIGHBOUR: 'it returns false'. Refute it at one input. -/
def polytopeSimplifiesWrong : ChangeSpec := { name := "polytopeSimplifies", fn := fun _ => fun
  | [d] => { results := [.lit (.bool false)], args := [d] }
  | _ => none }
def PolytopeSimplifiesWrongFalsely : Prop := polytopeSimplifiesRow.holds Tryz.pinned (OpenSpec.ofChange polytopeSimplifiesWrong)

/-- 'exactppllaw29.PolytopeCanonical': WHATEVER THE INPUT: true; the input reads as it did. -/
def polytopeCanonicalSpec : ChangeSpec := { name := "polytopeCanonical", fn := fun _ => fun
  | [d] => { results := [.lit (.bool true)], args := [d] }
  | _ => none }
def polytopeCanonicalRow : OpenClaim := { program := "ytddnnhlcpffbdaagreat", sum := "5efd3afcc62d2487a207736ac92f36d7f42ca1a163d81d6117a6f1611327839d", func := "exactppl/exactppllaw29.PolytopeCanonical", spec := "polytopeCanonical", unfollowed := true, recurses := true, named := ["math/bits.overflowError"], apart := false }
def PolytopeCanonicalSaid : Prop := polytopeCanonicalRow.holds Tryz.pinned (OpenSpec.ofChange polytopeCanonicalSpec)

/-- ITS FALSE NEIGHBOUR: 'it returns false'. Refute it at one input. -/
def polytopeCanonicalWrong : ChangeSpec := { name := "polytopeCanonical", fn := fun _ => fun
  | [d] => { results := [.lit (.bool false)], args := [d] }
  | _ => none }
def PolytopeCanonicalWrongFalsely : Prop := polytopeCanonicalRow.holds Tryz.pinned (OpenSpec.ofChange polytopeCanonicalWrong)

/-- 'exactppllaw29.PolytopePoints': WHATEVER THE INPUT: true; the input reads as it did. -/
def polytopePointsSpec : ChangeSpec := { name := "polytopePoints", fn := fun _ => fun
  | [d] => { results := [.lit (.bool true)], args := [d] }
  | _ => none }
def polytopePointsRow : OpenClaim := { program := "ytddnnhlcpffbdaagreat", sum := "5efd3afcc62d2487a207736ac92f36d7f42ca1a163d81d6117a6f1611327839d", func := "exactppl/exactppllaw29.PolytopePoints", spec := "polytopePoints", unfollowed := true, recurses := true, named := ["math/bits.overflowError"], apart := false }
def PolytopePointsSaid : Prop := polytopePointsRow.holds Tryz.pinned (OpenSpec.ofChange polytopePointsSpec)

/-- ITS FALSE NEIGHBOUR: 'it returns false'. Refute it at one input. -/
def polytopePointsWrong : ChangeSpec := { name := "polytopePoints", fn := fun _ => fun
  | [d] => { results := [.lit (.bool false)], args := [d] }
  | _ => none }
def PolytopePointsWrongFalsely : Prop := polytopePointsRow.holds Tryz.pinned (OpenSpec.ofChange polytopePointsWrong)

/- THE SECOND FORM. 'bulk': how many values and letters a reading holds, each counted each time it is reached (what is shared counts as often as it is met; a slice's spare places count too). A statement '..UptoSaid' is the law's where the arguments, and the package variables that the reading takes, are together of bulk at most 1048576: NARROWER than '..Said'. Prove '..Said' where nothing that the law and all that it calls make is longer than what came in: it says more and counts as full. Else prove '..UptoSaid'. A law counts once. -/
mutual
def uptoBulk {H : Type} : DataW H → Nat
  | .lit (.string bytes) => bytes.length + 1
  | .lit _ => 1
  | .nil => 1
  | .ptr d => uptoBulk d + 1
  | .slice elems spare => uptoBulkAll elems + uptoBulkAll spare + 1
  | .agg parts => uptoBulkAll parts + 1
  | .iface _ d => uptoBulk d + 1
  | .map entries => uptoBulkEntries entries + 1
  | .held _ => 1
def uptoBulkAll {H : Type} : List (DataW H) → Nat
  | [] => 0
  | d :: r => uptoBulk d + uptoBulkAll r
def uptoBulkEntries {H : Type} : List (Lit × DataW H) → Nat
  | [] => 0
  | x :: r => uptoBulkEntry x + uptoBulkEntries r
def uptoBulkEntry {H : Type} : Lit × DataW H → Nat
  | (.string bytes, d) => bytes.length + uptoBulk d + 1
  | (_, d) => uptoBulk d + 1
 end
def uptoSmall : (H : Type) → List (DataW H) → Bool := fun _ ds => decide (uptoBulkAll ds ≤ 1048576)
def OpenSpec.upto (s : _root_.Go.ChangeSpec) : _root_.Go.OpenSpec := { _root_.Go.OpenSpec.ofChange s with cond := some uptoSmall }

/-- 'exactppllaw29.PolytopeBounds', WHERE WHAT IT READS IS OF BULK AT MOST 1048576: true; the input reads as it did. -/
def polytopeBoundsUptoRow : OpenClaim := { program := "ytddnnhlcpffbdaagreat", sum := "5efd3afcc62d2487a207736ac92f36d7f42ca1a163d81d6117a6f1611327839d", func := "exactppl/exactppllaw29.PolytopeBounds", spec := "polytopeBounds", unfollowed := true, recurses := true, named := ["math/bits.overflowError"], apart := false, narrowed := true }
def PolytopeBoundsUptoSaid : Prop := polytopeBoundsUptoRow.holds Tryz.pinned (OpenSpec.upto polytopeBoundsSpec)

/-- 'exactppllaw29.PolytopeMiddle', WHERE WHAT IT READS IS OF BULK AT MOST 1048576: true; the input reads as it did. -/
def polytopeMiddleUptoRow : OpenClaim := { program := "ytddnnhlcpffbdaagreat", sum := "5efd3afcc62d2487a207736ac92f36d7f42ca1a163d81d6117a6f1611327839d", func := "exactppl/exactppllaw29.PolytopeMiddle", spec := "polytopeMiddle", unfollowed := true, recurses := true, named := ["math/bits.overflowError"], apart := false, narrowed := true }
def PolytopeMiddleUptoSaid : Prop := polytopeMiddleUptoRow.holds Tryz.pinned (OpenSpec.upto polytopeMiddleSpec)

/-- 'exactppllaw29.PolytopeFeasible', WHERE WHAT IT READS IS OF BULK AT MOST 1048576: true; the input reads as it did. -/
def polytopeFeasibleUptoRow : OpenClaim := { program := "ytddnnhlcpffbdaagreat", sum := "5efd3afcc62d2487a207736ac92f36d7f42ca1a163d81d6117a6f1611327839d", func := "exactppl/exactppllaw29.PolytopeFeasible", spec := "polytopeFeasible", unfollowed := true, recurses := true, named := ["math/bits.overflowError"], apart := false, narrowed := true }
def PolytopeFeasibleUptoSaid : Prop := polytopeFeasibleUptoRow.holds Tryz.pinned (OpenSpec.upto polytopeFeasibleSpec)

/-- 'exactppllaw29.PolytopeWithin', WHERE WHAT IT READS IS OF BULK AT MOST 1048576: true; the input reads as it did. -/
def polytopeWithinUptoRow : OpenClaim := { program := "ytddnnhlcpffbdaagreat", sum := "5efd3afcc62d2487a207736ac92f36d7f42ca1a163d81d6117a6f1611327839d", func := "exactppl/exactppllaw29.PolytopeWithin", spec := "polytopeWithin", unfollowed := true, recurses := true, named := ["math/bits.overflowError"], apart := false, narrowed := true }
def PolytopeWithinUptoSaid : Prop := polytopeWithinUptoRow.holds Tryz.pinned (OpenSpec.upto polytopeWithinSpec)

/-- 'exactppllaw29.PolytopeSimplifies', WHERE WHAT IT READS IS OF BULK AT MOST 1048576: true; the input reads as it did. -/
def polytopeSimplifiesUptoRow : OpenClaim := { program := "ytddnnhlcpffbdaagreat", sum := "5efd3afcc62d2487a207736ac92f36d7f42ca1a163d81d6117a6f1611327839d", func := "exactppl/exactppllaw29.PolytopeSimplifies", spec := "polytopeSimplifies", unfollowed := true, recurses := true, named := ["math/bits.overflowError"], apart := false, narrowed := true }
def PolytopeSimplifiesUptoSaid : Prop := polytopeSimplifiesUptoRow.holds Tryz.pinned (OpenSpec.upto polytopeSimplifiesSpec)

/-- 'exactppllaw29.PolytopeCanonical', WHERE WHAT IT READS IS OF BULK AT MOST 1048576: true; the input reads as it did. -/
def polytopeCanonicalUptoRow : OpenClaim := { program := "ytddnnhlcpffbdaagreat", sum := "5efd3afcc62d2487a207736ac92f36d7f42ca1a163d81d6117a6f1611327839d", func := "exactppl/exactppllaw29.PolytopeCanonical", spec := "polytopeCanonical", unfollowed := true, recurses := true, named := ["math/bits.overflowError"], apart := false, narrowed := true }
def PolytopeCanonicalUptoSaid : Prop := polytopeCanonicalUptoRow.holds Tryz.pinned (OpenSpec.upto polytopeCanonicalSpec)

/-- 'exactppllaw29.PolytopePoints', WHERE WHAT IT READS IS OF BULK AT MOST 1048576: true; the input reads as it did. -/
def polytopePointsUptoRow : OpenClaim := { program := "ytddnnhlcpffbdaagreat", sum := "5efd3afcc62d2487a207736ac92f36d7f42ca1a163d81d6117a6f1611327839d", func := "exactppl/exactppllaw29.PolytopePoints", spec := "polytopePoints", unfollowed := true, recurses := true, named := ["math/bits.overflowError"], apart := false, narrowed := true }
def PolytopePointsUptoSaid : Prop := polytopePointsUptoRow.holds Tryz.pinned (OpenSpec.upto polytopePointsSpec)

end Rows
end Go.Proofs.YtddnnhlcpffbdaaGreat
