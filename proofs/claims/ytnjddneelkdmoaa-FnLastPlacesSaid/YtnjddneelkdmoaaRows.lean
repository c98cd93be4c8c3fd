/-
  No cell of these rows narrows 'for every input' (looked for: loops, veiled, ifaces, maps, wideKeys, modest, calm, conditions, laid).
  DERIVED. THE GIVEN ROWS OF THIS SEAT. 10 by the template 'for every input the law returns true; each argument reads behind the call as it read before'; 0 by the template 'total and deterministic' (their statements: YtnjddneelkdmoaaTotals.lean).
  GIVEN WITH THE SEED: the statements are not yours to turn. If you find one false, say at which input.
  Laid BY PROGRAM, IN A SANDBOX (cutbox-rows.mjs): the forced cells as the released guide's own fill.sh prints them over the translation d1d809292d66ef61… (all of the seat's roots in one cut). By AI agents, Wed Nov 11 2026. No macro, syntax, notation, axiom, sorry.
-/
import Derived.Test.YtnjddneelkdmoaaChecked
import GoSem.Claim
import GoSem.ClaimJoined
import GoSem.ClaimMapViews
import Derived.JoinedTies
import Derived.KernelRfl
namespace Go.Proofs.Ytnjddneelkdmoaa
/- THE CELL 'sum', in the pinned program and in every row, IS THE sha256 OF THE DUMP (.gsa) THAT YtnjddneelkdmoaaProg.lean LOADS. Nothing in Lean hashes anything: it is a label: what it is worth is what the hold of that sum in a sandbox is worth. -/
noncomputable def Try.pinned : Pinned := { name := "ytnjddneelkdmoaa", sum := "d1d809292d66ef6188b85f8852fa9ff7aa2372c1884f693d6c6fc2f9e045c87c", checked := Try.checked }
namespace Rows
def none {H : Type} : Left H := { results := [], args := [] }

/-- 'laws.FnDeriveWord': WHATEVER THE INPUT: true; the input reads as it did. -/
def fnDeriveWordSpec : ChangeSpec := { name := "fnDeriveWord", fn := fun _ => fun
  | [d] => { results := [.lit (.bool true)], args := [d] }
  | _ => none }
def fnDeriveWordRow : OpenClaim := { program := "ytnjddneelkdmoaa", sum := "d1d809292d66ef6188b85f8852fa9ff7aa2372c1884f693d6c6fc2f9e045c87c", func := "loop.example/regularlanguages/laws.FnDeriveWord", spec := "fnDeriveWord", unfollowed := true, recurses := true, apart := false }
def FnDeriveWordSaid : Prop := fnDeriveWordRow.holds Try.pinned (OpenSpec.ofChange fnDeriveWordSpec)

/-- ITS FALSE NEIGHBOUR: 'it returns false'. Refute it at one input. -/
def fnDeriveWordWrong : ChangeSpec := { name := "fnDeriveWord", fn := fun _ => fun
  | [d] => { results := [.lit (.bool false)], args := [d] }
  | _ => none }
def FnDeriveWordWrongFalsely : Prop := fnDeriveWordRow.holds Try.pinned (OpenSpec.ofChange fnDeriveWordWrong)

/-- 'laws.FnNfaValid': WHATEVER THE INPUT: true; the input reads as it did. -/
def fnNfaValidSpec : ChangeSpec := { name := "fnNfaValid", fn := fun _ => fun
  | [d] => { results := [.lit (.bool true)], args := [d] }
  | _ => none }
def fnNfaValidRow : OpenClaim := { program := "ytnjddneelkdmoaa", sum := "d1d809292d66ef6188b85f8852fa9ff7aa2372c1884f693d6c6fc2f9e045c87c", func := "loop.example/regularlanguages/laws.FnNfaValid", spec := "fnNfaValid", unfollowed := true, recurses := true, apart := false }
def FnNfaValidSaid : Prop := fnNfaValidRow.holds Try.pinned (OpenSpec.ofChange fnNfaValidSpec)

/-- ITS FALSE NEIGHBOUR: 'it returns false'. Refute it at one input. -/
def fnNfaValidWrong : ChangeSpec := { name := "fnNfaValid", fn := fun _ => fun
  | [d] => { results := [.lit (.bool false)], args := [d] }
  | _ => none }
def FnNfaValidWrongFalsely : Prop := fnNfaValidRow.holds Try.pinned (OpenSpec.ofChange fnNfaValidWrong)

/-- 'laws.FnWordExpr': WHATEVER THE INPUT: true; the input reads as it did. -/
def fnWordExprSpec : ChangeSpec := { name := "fnWordExpr", fn := fun _ => fun
  | [d1, d2] => { results := [.lit (.bool true)], args := [d1, d2] }
  | _ => none }
def fnWordExprRow : OpenClaim := { program := "ytnjddneelkdmoaa", sum := "d1d809292d66ef6188b85f8852fa9ff7aa2372c1884f693d6c6fc2f9e045c87c", func := "loop.example/regularlanguages/laws.FnWordExpr", spec := "fnWordExpr", unfollowed := true, recurses := true, apart := false }
def FnWordExprSaid : Prop := fnWordExprRow.holds Try.pinned (OpenSpec.ofChange fnWordExprSpec)

/-- ITS FALSE NEIGHBOUR: 'it returns false'. Refute it at one input. -/
def fnWordExprWrong : ChangeSpec := { name := "fnWordExpr", fn := fun _ => fun
  | [d1, d2] => { results := [.lit (.bool false)], args := [d1, d2] }
  | _ => none }
def FnWordExprWrongFalsely : Prop := fnWordExprRow.holds Try.pinned (OpenSpec.ofChange fnWordExprWrong)

/-- 'laws.FnFirstPlaces': WHATEVER THE INPUT: true; the input reads as it did. -/
def fnFirstPlacesSpec : ChangeSpec := { name := "fnFirstPlaces", fn := fun _ => fun
  | [d] => { results := [.lit (.bool true)], args := [d] }
  | _ => none }
def fnFirstPlacesRow : OpenClaim := { program := "ytnjddneelkdmoaa", sum := "d1d809292d66ef6188b85f8852fa9ff7aa2372c1884f693d6c6fc2f9e045c87c", func := "loop.example/regularlanguages/laws.FnFirstPlaces", spec := "fnFirstPlaces", unfollowed := true, recurses := true, apart := false }
def FnFirstPlacesSaid : Prop := fnFirstPlacesRow.holds Try.pinned (OpenSpec.ofChange fnFirstPlacesSpec)

/-- ITS FALSE NEIGHBOUR: 'it returns false'. Refute it at one input. -/
def fnFirstPlacesWrong : ChangeSpec := { name := "fnFirstPlaces", fn := fun _ => fun
  | [d] => { results := [.lit (.bool false)], args := [d] }
  | _ => none }
def FnFirstPlacesWrongFalsely : Prop := fnFirstPlacesRow.holds Try.pinned (OpenSpec.ofChange fnFirstPlacesWrong)

/-- 'laws.FnLastPlaces': WHATEVER THE INPUT: true; the input reads as it did. -/
def fnLastPlacesSpec : ChangeSpec := { name := "fnLastPlaces", fn := fun _ => fun
  | [d] => { results := [.lit (.bool true)], args := [d] }
  | _ => none }
def fnLastPlacesRow : OpenClaim := { program := "ytnjddneelkdmoaa", sum := "d1d809292d66ef6188b85f8852fa9ff7aa2372c1884f693d6c6fc2f9e045c87c", func := "loop.example/regularlanguages/laws.FnLastPlaces", spec := "fnLastPlaces", unfollowed := true, recurses := true, apart := false }
def FnLastPlacesSaid : Prop := fnLastPlacesRow.holds Try.pinned (OpenSpec.ofChange fnLastPlacesSpec)

/-- ITS FALSE NEIGHBOUR: 'it returns false'. Refute it at one input. -/
def fnLastPlacesWrong : ChangeSpec := { name := "fnLastPlaces", fn := fun _ => fun
  | [d] => { results := [.lit (.bool false)], args := [d] }
  | _ => none }
def FnLastPlacesWrongFalsely : Prop := fnLastPlacesRow.holds Try.pinned (OpenSpec.ofChange fnLastPlacesWrong)

/-- 'laws.FnExactBuildNfa': WHATEVER THE INPUT: true; the input reads as it did. -/
def fnExactBuildNfaSpec : ChangeSpec := { name := "fnExactBuildNfa", fn := fun _ => fun
  | [d] => { results := [.lit (.bool true)], args := [d] }
  | _ => none }
def fnExactBuildNfaRow : OpenClaim := { program := "ytnjddneelkdmoaa", sum := "d1d809292d66ef6188b85f8852fa9ff7aa2372c1884f693d6c6fc2f9e045c87c", func := "loop.example/regularlanguages/laws.FnExactBuildNfa", spec := "fnExactBuildNfa", unfollowed := true, recurses := true, apart := false }
def FnExactBuildNfaSaid : Prop := fnExactBuildNfaRow.holds Try.pinned (OpenSpec.ofChange fnExactBuildNfaSpec)

/-- ITS FALSE NEIGHBOUR: 'it returns false'. Refute it at one input. -/
def fnExactBuildNfaWrong : ChangeSpec := { name := "fnExactBuildNfa", fn := fun _ => fun
  | [d] => { results := [.lit (.bool false)], args := [d] }
  | _ => none }
def FnExactBuildNfaWrongFalsely : Prop := fnExactBuildNfaRow.holds Try.pinned (OpenSpec.ofChange fnExactBuildNfaWrong)

/-- 'laws.FnPositionMoves': WHATEVER THE INPUT: true; the input reads as it did. -/
def fnPositionMovesSpec : ChangeSpec := { name := "fnPositionMoves", fn := fun _ => fun
  | [d] => { results := [.lit (.bool true)], args := [d] }
  | _ => none }
def fnPositionMovesRow : OpenClaim := { program := "ytnjddneelkdmoaa", sum := "d1d809292d66ef6188b85f8852fa9ff7aa2372c1884f693d6c6fc2f9e045c87c", func := "loop.example/regularlanguages/laws.FnPositionMoves", spec := "fnPositionMoves", unfollowed := true, recurses := true, apart := false }
def FnPositionMovesSaid : Prop := fnPositionMovesRow.holds Try.pinned (OpenSpec.ofChange fnPositionMovesSpec)

/-- ITS FALSE NEIGHBOUR: 'it returns false'. Refute it at one input. -/
def fnPositionMovesWrong : ChangeSpec := { name := "fnPositionMoves", fn := fun _ => fun
  | [d] => { results := [.lit (.bool false)], args := [d] }
  | _ => none }
def FnPositionMovesWrongFalsely : Prop := fnPositionMovesRow.holds Try.pinned (OpenSpec.ofChange fnPositionMovesWrong)

/-- 'laws.FnExactPositionNfa': WHATEVER THE INPUT: true; the input reads as it did. -/
def fnExactPositionNfaSpec : ChangeSpec := { name := "fnExactPositionNfa", fn := fun _ => fun
  | [d] => { results := [.lit (.bool true)], args := [d] }
  | _ => none }
def fnExactPositionNfaRow : OpenClaim := { program := "ytnjddneelkdmoaa", sum := "d1d809292d66ef6188b85f8852fa9ff7aa2372c1884f693d6c6fc2f9e045c87c", func := "loop.example/regularlanguages/laws.FnExactPositionNfa", spec := "fnExactPositionNfa", unfollowed := true, recurses := true, apart := false }
def FnExactPositionNfaSaid : Prop := fnExactPositionNfaRow.holds Try.pinned (OpenSpec.ofChange fnExactPositionNfaSpec)

/-- ITS FALSE NEIGHBOUR: 'it returns false'. Refute it at one input. -/
def fnExactPositionNfaWrong : ChangeSpec := { name := "fnExactPositionNfa", fn := fun _ => fun
  | [d] => { results := [.lit (.bool false)], args := [d] }
  | _ => none }
def FnExactPositionNfaWrongFalsely : Prop := fnExactPositionNfaRow.holds Try.pinned (OpenSpec.ofChange fnExactPositionNfaWrong)

/-- 'laws.FnExactExprOf': WHATEVER THE INPUT: true; the input reads as it did. -/
def fnExactExprOfSpec : ChangeSpec := { name := "fnExactExprOf", fn := fun _ => fun
  | [d] => { results := [.lit (.bool true)], args := [d] }
  | _ => none }
def fnExactExprOfRow : OpenClaim := { program := "ytnjddneelkdmoaa", sum := "d1d809292d66ef6188b85f8852fa9ff7aa2372c1884f693d6c6fc2f9e045c87c", func := "loop.example/regularlanguages/laws.FnExactExprOf", spec := "fnExactExprOf", unfollowed := true, recurses := true, apart := false }
def FnExactExprOfSaid : Prop := fnExactExprOfRow.holds Try.pinned (OpenSpec.ofChange fnExactExprOfSpec)

/-- ITS FALSE NEIGHBOUR: 'it returns false'. Refute it at one input. -/
def fnExactExprOfWrong : ChangeSpec := { name := "fnExactExprOf", fn := fun _ => fun
  | [d] => { results := [.lit (.bool false)], args := [d] }
  | _ => none }
def FnExactExprOfWrongFalsely : Prop := fnExactExprOfRow.holds Try.pinned (OpenSpec.ofChange fnExactExprOfWrong)

/-- 'laws.FnDeriveCount': WHATEVER THE INPUT: true; the input reads as it did. -/
def fnDeriveCountSpec : ChangeSpec := { name := "fnDeriveCount", fn := fun _ => fun
  | [d] => { results := [.lit (.bool true)], args := [d] }
  | _ => none }
def fnDeriveCountRow : OpenClaim := { program := "ytnjddneelkdmoaa", sum := "d1d809292d66ef6188b85f8852fa9ff7aa2372c1884f693d6c6fc2f9e045c87c", func := "loop.example/regularlanguages/laws.FnDeriveCount", spec := "fnDeriveCount", recurses := true, apart := false }
def FnDeriveCountSaid : Prop := fnDeriveCountRow.holds Try.pinned (OpenSpec.ofChange fnDeriveCountSpec)

/-- ITS FALSE NEIGHBOUR: 'it returns false'. Refute it at one input. -/
def fnDeriveCountWrong : ChangeSpec := { name := "fnDeriveCount", fn := fun _ => fun
  | [d] => { results := [.lit (.bool false)], args := [d] }
  | _ => none }
def FnDeriveCountWrongFalsely : Prop := fnDeriveCountRow.holds Try.pinned (OpenSpec.ofChange fnDeriveCountWrong)

/- THE SECOND FORM. 'bulk': how many values and letters a reading holds, each counted each time it is reached (what is shared counts as often as it is met; a slice's spare places count too). A statement '..UptoSaid' is the law's where the arguments, and the package variables that the reading takes, are together of bulk at most 1048576: NARROWER than '..Said'. Prove '..Said' where nothing that the law and all that it calls make is longer than what came in: it says more and counts as full. Else prove '..UptoSaid'. A law counts once. -/
mutual
def uptoBulk {H : Type} : DataW H → Nat
  | .lit (.string bytes) => bytes.length + 1
  | .lit _ => 1
  | .nil => 1
  | .ptr d => uptoBulk d + 1
  | .slice elems spare => uptoBulkAll elems + uptoBulkAll spare + 1
  | .agg parts => uptoBulkAll parts + 1
  | .iface _ d => uptoBulk d + 1
  | .map entries => uptoBulkEntries entries + 1
  | .held _ => 1
def uptoBulkAll {H : Type} : List (DataW H) → Nat
  | [] => 0
  | d :: r => uptoBulk d + uptoBulkAll r
def uptoBulkEntries {H : Type} : List (Lit × DataW H) → Nat
  | [] => 0
  | x :: r => uptoBulkEntry x + uptoBulkEntries r
def uptoBulkEntry {H : Type} : Lit × DataW H → Nat
  | (.string bytes, d) => bytes.length + uptoBulk d + 1
  | (_, d) => uptoBulk d + 1
 end
def uptoSmall : (H : Type) → List (DataW H) → Bool := fun _ ds => decide (uptoBulkAll ds ≤ 1048576)
def OpenSpec.upto (s : _root_.Go.ChangeSpec) : _root_.Go.OpenSpec := { _root_.Go.OpenSpec.ofChange s with cond := some uptoSmall }

/-- 'laws.FnDeriveWord', WHERE WHAT IT READS IS OF BULK AT MOST 1048576: true; the input reads as it did. -/
def fnDeriveWordUptoRow : OpenClaim := { program := "ytnjddneelkdmoaa", sum := "d1d809292d66ef6188b85f8852fa9ff7aa2372c1884f693d6c6fc2f9e045c87c", func := "loop.example/regularlanguages/laws.FnDeriveWord", spec := "fnDeriveWord", unfollowed := true, recurses := true, apart := false, narrowed := true }
def FnDeriveWordUptoSaid : Prop := fnDeriveWordUptoRow.holds Try.pinned (OpenSpec.upto fnDeriveWordSpec)

/-- 'laws.FnNfaValid', WHERE WHAT IT READS IS OF BULK AT MOST 1048576: true; the input reads as it did. -/
def fnNfaValidUptoRow : OpenClaim := { program := "ytnjddneelkdmoaa", sum := "d1d809292d66ef6188b85f8852fa9ff7aa2372c1884f693d6c6fc2f9e045c87c", func := "loop.example/regularlanguages/laws.FnNfaValid", spec := "fnNfaValid", unfollowed := true, recurses := true, apart := false, narrowed := true }
def FnNfaValidUptoSaid : Prop := fnNfaValidUptoRow.holds Try.pinned (OpenSpec.upto fnNfaValidSpec)

/-- 'laws.FnWordExpr', WHERE WHAT IT READS IS OF BULK AT MOST 1048576: true; the input reads as it did. -/
def fnWordExprUptoRow : OpenClaim := { program := "ytnjddneelkdmoaa", sum := "d1d809292d66ef6188b85f8852fa9ff7aa2372c1884f693d6c6fc2f9e045c87c", func := "loop.example/regularlanguages/laws.FnWordExpr", spec := "fnWordExpr", unfollowed := true, recurses := true, apart := false, narrowed := true }
def FnWordExprUptoSaid : Prop := fnWordExprUptoRow.holds Try.pinned (OpenSpec.upto fnWordExprSpec)

/-- 'laws.FnFirstPlaces', WHERE WHAT IT READS IS OF BULK AT MOST 1048576: true; the input reads as it did. -/
def fnFirstPlacesUptoRow : OpenClaim := { program := "ytnjddneelkdmoaa", sum := "d1d809292d66ef6188b85f8852fa9ff7aa2372c1884f693d6c6fc2f9e045c87c", func := "loop.example/regularlanguages/laws.FnFirstPlaces", spec := "fnFirstPlaces", unfollowed := true, recurses := true, apart := false, narrowed := true }
def FnFirstPlacesUptoSaid : Prop := fnFirstPlacesUptoRow.holds Try.pinned (OpenSpec.upto fnFirstPlacesSpec)

/-- 'laws.FnLastPlaces', WHERE WHAT IT READS IS OF BULK AT MOST 1048576: true; the input reads as it did. -/
def fnLastPlacesUptoRow : OpenClaim := { program := "ytnjddneelkdmoaa", sum := "d1d809292d66ef6188b85f8852fa9ff7aa2372c1884f693d6c6fc2f9e045c87c", func := "loop.example/regularlanguages/laws.FnLastPlaces", spec := "fnLastPlaces", unfollowed := true, recurses := true, apart := false, narrowed := true }
def FnLastPlacesUptoSaid : Prop := fnLastPlacesUptoRow.holds Try.pinned (OpenSpec.upto fnLastPlacesSpec)

/-- 'laws.FnExactBuildNfa', WHERE WHAT IT READS IS OF BULK AT MOST 1048576: true; the input reads as it did. -/
def fnExactBuildNfaUptoRow : OpenClaim := { program := "ytnjddneelkdmoaa", sum := "d1d809292d66ef6188b85f8852fa9ff7aa2372c1884f693d6c6fc2f9e045c87c", func := "loop.example/regularlanguages/laws.FnExactBuildNfa", spec := "fnExactBuildNfa", unfollowed := true, recurses := true, apart := false, narrowed := true }
def FnExactBuildNfaUptoSaid : Prop := fnExactBuildNfaUptoRow.holds Try.pinned (OpenSpec.upto fnExactBuildNfaSpec)

/-- 'laws.FnPositionMoves', WHERE WHAT IT READS IS OF BULK AT MOST 1048576: true; the input reads as it did. -/
def fnPositionMovesUptoRow : OpenClaim := { program := "ytnjddneelkdmoaa", sum := "d1d809292d66ef6188b85f8852fa9ff7aa2372c1884f693d6c6fc2f9e045c87c", func := "loop.example/regularlanguages/laws.FnPositionMoves", spec := "fnPositionMoves", unfollowed := true, recurses := true, apart := false, narrowed := true }
def FnPositionMovesUptoSaid : Prop := fnPositionMovesUptoRow.holds Try.pinned (OpenSpec.upto fnPositionMovesSpec)

/-- 'laws.FnExactPositionNfa', WHERE WHAT IT READS IS OF BULK AT MOST 1048576: true; the input reads as it did. -/
def fnExactPositionNfaUptoRow : OpenClaim := { program := "ytnjddneelkdmoaa", sum := "d1d809292d66ef6188b85f8852fa9ff7aa2372c1884f693d6c6fc2f9e045c87c", func := "loop.example/regularlanguages/laws.FnExactPositionNfa", spec := "fnExactPositionNfa", unfollowed := true, recurses := true, apart := false, narrowed := true }
def FnExactPositionNfaUptoSaid : Prop := fnExactPositionNfaUptoRow.holds Try.pinned (OpenSpec.upto fnExactPositionNfaSpec)

/-- 'laws.FnExactExprOf', WHERE WHAT IT READS IS OF BULK AT MOST 1048576: true; the input reads as it did. -/
def fnExactExprOfUptoRow : OpenClaim := { program := "ytnjddneelkdmoaa", sum := "d1d809292d66ef6188b85f8852fa9ff7aa2372c1884f693d6c6fc2f9e045c87c", func := "loop.example/regularlanguages/laws.FnExactExprOf", spec := "fnExactExprOf", unfollowed := true, recurses := true, apart := false, narrowed := true }
def FnExactExprOfUptoSaid : Prop := fnExactExprOfUptoRow.holds Try.pinned (OpenSpec.upto fnExactExprOfSpec)

/-- 'laws.FnDeriveCount', WHERE WHAT IT READS IS OF BULK AT MOST 1048576: true; the input reads as it did. -/
def fnDeriveCountUptoRow : OpenClaim := { program := "ytnjddneelkdmoaa", sum := "d1d809292d66ef6188b85f8852fa9ff7aa2372c1884f693d6c6fc2f9e045c87c", func := "loop.example/regularlanguages/laws.FnDeriveCount", spec := "fnDeriveCount", recurses := true, apart := false, narrowed := true }
def FnDeriveCountUptoSaid : Prop := fnDeriveCountUptoRow.holds Try.pinned (OpenSpec.upto fnDeriveCountSpec)

end Rows
end Go.Proofs.Ytnjddneelkdmoaa
