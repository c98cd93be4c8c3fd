/-
  No cell of these rows narrows 'for every input' (looked for: loops, veiled, ifaces, maps, wideKeys, modest, calm, conditions, laid).
  DERIVED. THE GIVEN ROWS OF THIS SEAT. 12 by the template 'for every input the law returns true; each argument reads behind the call as it read before'; 0 by the template 'total and deterministic' (their statements: YtgihihnbapnnjaaTotals.lean).
  GIVEN WITH THE SEED: the statements are not yours to turn. If you find one false, say at which input.
  Laid BY PROGRAM, IN A SANDBOX (cutbox-rows.mjs): the forced cells as the released guide's own fill.sh prints them over the translation d0b0a187792bf9ca… (all of the seat's roots in one cut). By AI agents, Wed Nov 11 2026. No macro, syntax, notation, axiom, sorry.
-/
import Derived.Test.YtgihihnbapnnjaaChecked
import GoSem.Claim
import GoSem.ClaimJoined
import GoSem.ClaimMapViews
import Derived.JoinedTies
import Derived.KernelRfl
namespace Go.Proofs.Ytgihihnbapnnjaa
/- THE CELL 'sum', in the pinned program and in every row, IS THE sha256 OF THE DUMP (.gsa) THAT YtgihihnbapnnjaaProg.lean LOADS. Nothing in Lean hashes anything: it is a label: what it is worth is what the hold of that sum in a sandbox is worth. -/
noncomputable def Try.pinned : Pinned := { name := "ytgihihnbapnnjaa", sum := "d0b0a187792bf9caedfe20985bcbb5c205d763acc7ffd6b66d1dbc9ba43aad85", checked := Try.checked }
namespace Rows
def none {H : Type} : Left H := { results := [], args := [] }

/-- 'laws.FnExactLetterPlaces': WHATEVER THE INPUT: true; the input reads as it did. -/
def fnExactLetterPlacesSpec : ChangeSpec := { name := "fnExactLetterPlaces", fn := fun _ => fun
  | [d] => { results := [.lit (.bool true)], args := [d] }
  | _ => none }
def fnExactLetterPlacesRow : OpenClaim := { program := "ytgihihnbapnnjaa", sum := "d0b0a187792bf9caedfe20985bcbb5c205d763acc7ffd6b66d1dbc9ba43aad85", func := "loop.example/regularlanguages/laws.FnExactLetterPlaces", spec := "fnExactLetterPlaces", apart := false }
def FnExactLetterPlacesSaid : Prop := fnExactLetterPlacesRow.holds Try.pinned (OpenSpec.ofChange fnExactLetterPlacesSpec)

/-- ITS FALSE NEIGHBOUR: 'it returns false'. Refute it at one input. -/
def fnExactLetterPlacesWrong : ChangeSpec := { name := "fnExactLetterPlaces", fn := fun _ => fun
  | [d] => { results := [.lit (.bool false)], args := [d] }
  | _ => none }
def FnExactLetterPlacesWrongFalsely : Prop := fnExactLetterPlacesRow.holds Try.pinned (OpenSpec.ofChange fnExactLetterPlacesWrong)

/-- 'laws.FnExactWordsExpr': WHATEVER THE INPUT: true; the input reads as it did. -/
def fnExactWordsExprSpec : ChangeSpec := { name := "fnExactWordsExpr", fn := fun _ => fun
  | [d] => { results := [.lit (.bool true)], args := [d] }
  | _ => none }
def fnExactWordsExprRow : OpenClaim := { program := "ytgihihnbapnnjaa", sum := "d0b0a187792bf9caedfe20985bcbb5c205d763acc7ffd6b66d1dbc9ba43aad85", func := "loop.example/regularlanguages/laws.FnExactWordsExpr", spec := "fnExactWordsExpr", unfollowed := true, recurses := true, apart := false }
def FnExactWordsExprSaid : Prop := fnExactWordsExprRow.holds Try.pinned (OpenSpec.ofChange fnExactWordsExprSpec)

/-- ITS FALSE NEIGHBOUR: 'it returns false'. Refute it at one input. -/
def fnExactWordsExprWrong : ChangeSpec := { name := "fnExactWordsExpr", fn := fun _ => fun
  | [d] => { results := [.lit (.bool false)], args := [d] }
  | _ => none }
def FnExactWordsExprWrongFalsely : Prop := fnExactWordsExprRow.holds Try.pinned (OpenSpec.ofChange fnExactWordsExprWrong)

/-- 'laws.FnExactTurnNfa': WHATEVER THE INPUT: true; the input reads as it did. -/
def fnExactTurnNfaSpec : ChangeSpec := { name := "fnExactTurnNfa", fn := fun _ => fun
  | [d] => { results := [.lit (.bool true)], args := [d] }
  | _ => none }
def fnExactTurnNfaRow : OpenClaim := { program := "ytgihihnbapnnjaa", sum := "d0b0a187792bf9caedfe20985bcbb5c205d763acc7ffd6b66d1dbc9ba43aad85", func := "loop.example/regularlanguages/laws.FnExactTurnNfa", spec := "fnExactTurnNfa", unfollowed := true, recurses := true, apart := false }
def FnExactTurnNfaSaid : Prop := fnExactTurnNfaRow.holds Try.pinned (OpenSpec.ofChange fnExactTurnNfaSpec)

/-- ITS FALSE NEIGHBOUR: 'it returns false'. Refute it at one input. -/
def fnExactTurnNfaWrong : ChangeSpec := { name := "fnExactTurnNfa", fn := fun _ => fun
  | [d] => { results := [.lit (.bool false)], args := [d] }
  | _ => none }
def FnExactTurnNfaWrongFalsely : Prop := fnExactTurnNfaRow.holds Try.pinned (OpenSpec.ofChange fnExactTurnNfaWrong)

/-- 'laws.FnExactNfaStar': WHATEVER THE INPUT: true; the input reads as it did. -/
def fnExactNfaStarSpec : ChangeSpec := { name := "fnExactNfaStar", fn := fun _ => fun
  | [d] => { results := [.lit (.bool true)], args := [d] }
  | _ => none }
def fnExactNfaStarRow : OpenClaim := { program := "ytgihihnbapnnjaa", sum := "d0b0a187792bf9caedfe20985bcbb5c205d763acc7ffd6b66d1dbc9ba43aad85", func := "loop.example/regularlanguages/laws.FnExactNfaStar", spec := "fnExactNfaStar", unfollowed := true, recurses := true, apart := false }
def FnExactNfaStarSaid : Prop := fnExactNfaStarRow.holds Try.pinned (OpenSpec.ofChange fnExactNfaStarSpec)

/-- ITS FALSE NEIGHBOUR: 'it returns false'. Refute it at one input. -/
def fnExactNfaStarWrong : ChangeSpec := { name := "fnExactNfaStar", fn := fun _ => fun
  | [d] => { results := [.lit (.bool false)], args := [d] }
  | _ => none }
def FnExactNfaStarWrongFalsely : Prop := fnExactNfaStarRow.holds Try.pinned (OpenSpec.ofChange fnExactNfaStarWrong)

/-- 'laws.FnExactNfaJoin': WHATEVER THE INPUT: true; the input reads as it did. -/
def fnExactNfaJoinSpec : ChangeSpec := { name := "fnExactNfaJoin", fn := fun _ => fun
  | [d1, d2] => { results := [.lit (.bool true)], args := [d1, d2] }
  | _ => none }
def fnExactNfaJoinRow : OpenClaim := { program := "ytgihihnbapnnjaa", sum := "d0b0a187792bf9caedfe20985bcbb5c205d763acc7ffd6b66d1dbc9ba43aad85", func := "loop.example/regularlanguages/laws.FnExactNfaJoin", spec := "fnExactNfaJoin", unfollowed := true, recurses := true, apart := false }
def FnExactNfaJoinSaid : Prop := fnExactNfaJoinRow.holds Try.pinned (OpenSpec.ofChange fnExactNfaJoinSpec)

/-- ITS FALSE NEIGHBOUR: 'it returns false'. Refute it at one input. -/
def fnExactNfaJoinWrong : ChangeSpec := { name := "fnExactNfaJoin", fn := fun _ => fun
  | [d1, d2] => { results := [.lit (.bool false)], args := [d1, d2] }
  | _ => none }
def FnExactNfaJoinWrongFalsely : Prop := fnExactNfaJoinRow.holds Try.pinned (OpenSpec.ofChange fnExactNfaJoinWrong)

/-- 'laws.FnExactNfaOf': WHATEVER THE INPUT: true; the input reads as it did. -/
def fnExactNfaOfSpec : ChangeSpec := { name := "fnExactNfaOf", fn := fun _ => fun
  | [d] => { results := [.lit (.bool true)], args := [d] }
  | _ => none }
def fnExactNfaOfRow : OpenClaim := { program := "ytgihihnbapnnjaa", sum := "d0b0a187792bf9caedfe20985bcbb5c205d763acc7ffd6b66d1dbc9ba43aad85", func := "loop.example/regularlanguages/laws.FnExactNfaOf", spec := "fnExactNfaOf", unfollowed := true, recurses := true, apart := false }
def FnExactNfaOfSaid : Prop := fnExactNfaOfRow.holds Try.pinned (OpenSpec.ofChange fnExactNfaOfSpec)

/-- ITS FALSE NEIGHBOUR: 'it returns false'. Refute it at one input. -/
def fnExactNfaOfWrong : ChangeSpec := { name := "fnExactNfaOf", fn := fun _ => fun
  | [d] => { results := [.lit (.bool false)], args := [d] }
  | _ => none }
def FnExactNfaOfWrongFalsely : Prop := fnExactNfaOfRow.holds Try.pinned (OpenSpec.ofChange fnExactNfaOfWrong)

/-- 'laws.FnExactNfaEither': WHATEVER THE INPUT: true; the input reads as it did. -/
def fnExactNfaEitherSpec : ChangeSpec := { name := "fnExactNfaEither", fn := fun _ => fun
  | [d1, d2] => { results := [.lit (.bool true)], args := [d1, d2] }
  | _ => none }
def fnExactNfaEitherRow : OpenClaim := { program := "ytgihihnbapnnjaa", sum := "d0b0a187792bf9caedfe20985bcbb5c205d763acc7ffd6b66d1dbc9ba43aad85", func := "loop.example/regularlanguages/laws.FnExactNfaEither", spec := "fnExactNfaEither", unfollowed := true, recurses := true, apart := false }
def FnExactNfaEitherSaid : Prop := fnExactNfaEitherRow.holds Try.pinned (OpenSpec.ofChange fnExactNfaEitherSpec)

/-- ITS FALSE NEIGHBOUR: 'it returns false'. Refute it at one input. -/
def fnExactNfaEitherWrong : ChangeSpec := { name := "fnExactNfaEither", fn := fun _ => fun
  | [d1, d2] => { results := [.lit (.bool false)], args := [d1, d2] }
  | _ => none }
def FnExactNfaEitherWrongFalsely : Prop := fnExactNfaEitherRow.holds Try.pinned (OpenSpec.ofChange fnExactNfaEitherWrong)

/-- 'laws.FnExactFirstPlaces': WHATEVER THE INPUT: true; the input reads as it did. -/
def fnExactFirstPlacesSpec : ChangeSpec := { name := "fnExactFirstPlaces", fn := fun _ => fun
  | [d] => { results := [.lit (.bool true)], args := [d] }
  | _ => none }
def fnExactFirstPlacesRow : OpenClaim := { program := "ytgihihnbapnnjaa", sum := "d0b0a187792bf9caedfe20985bcbb5c205d763acc7ffd6b66d1dbc9ba43aad85", func := "loop.example/regularlanguages/laws.FnExactFirstPlaces", spec := "fnExactFirstPlaces", unfollowed := true, recurses := true, apart := false }
def FnExactFirstPlacesSaid : Prop := fnExactFirstPlacesRow.holds Try.pinned (OpenSpec.ofChange fnExactFirstPlacesSpec)

/-- ITS FALSE NEIGHBOUR: 'it returns false'. Refute it at one input. -/
def fnExactFirstPlacesWrong : ChangeSpec := { name := "fnExactFirstPlaces", fn := fun _ => fun
  | [d] => { results := [.lit (.bool false)], args := [d] }
  | _ => none }
def FnExactFirstPlacesWrongFalsely : Prop := fnExactFirstPlacesRow.holds Try.pinned (OpenSpec.ofChange fnExactFirstPlacesWrong)

/-- 'laws.FnExactLastPlaces': WHATEVER THE INPUT: true; the input reads as it did. -/
def fnExactLastPlacesSpec : ChangeSpec := { name := "fnExactLastPlaces", fn := fun _ => fun
  | [d] => { results := [.lit (.bool true)], args := [d] }
  | _ => none }
def fnExactLastPlacesRow : OpenClaim := { program := "ytgihihnbapnnjaa", sum := "d0b0a187792bf9caedfe20985bcbb5c205d763acc7ffd6b66d1dbc9ba43aad85", func := "loop.example/regularlanguages/laws.FnExactLastPlaces", spec := "fnExactLastPlaces", unfollowed := true, recurses := true, apart := false }
def FnExactLastPlacesSaid : Prop := fnExactLastPlacesRow.holds Try.pinned (OpenSpec.ofChange fnExactLastPlacesSpec)

/-- ITS FALSE NEIGHBOUR: 'it returns false'. Refute it at one input. -/
def fnExactLastPlacesWrong : ChangeSpec := { name := "fnExactLastPlaces", fn := fun _ => fun
  | [d] => { results := [.lit (.bool false)], args := [d] }
  | _ => none }
def FnExactLastPlacesWrongFalsely : Prop := fnExactLastPlacesRow.holds Try.pinned (OpenSpec.ofChange fnExactLastPlacesWrong)

/-- 'laws.FnExactBuildNfa': WHATEVER THE INPUT: true; the input reads as it did. -/
def fnExactBuildNfaSpec : ChangeSpec := { name := "fnExactBuildNfa", fn := fun _ => fun
  | [d] => { results := [.lit (.bool true)], args := [d] }
  | _ => none }
def fnExactBuildNfaRow : OpenClaim := { program := "ytgihihnbapnnjaa", sum := "d0b0a187792bf9caedfe20985bcbb5c205d763acc7ffd6b66d1dbc9ba43aad85", func := "loop.example/regularlanguages/laws.FnExactBuildNfa", spec := "fnExactBuildNfa", unfollowed := true, recurses := true, apart := false }
def FnExactBuildNfaSaid : Prop := fnExactBuildNfaRow.holds Try.pinned (OpenSpec.ofChange fnExactBuildNfaSpec)

/-- ITS FALSE NEIGHBOUR: 'it returns false'. Refute it at one input. -/
def fnExactBuildNfaWrong : ChangeSpec := { name := "fnExactBuildNfa", fn := fun _ => fun
  | [d] => { results := [.lit (.bool false)], args := [d] }
  | _ => none }
def FnExactBuildNfaWrongFalsely : Prop := fnExactBuildNfaRow.holds Try.pinned (OpenSpec.ofChange fnExactBuildNfaWrong)

/-- 'laws.FnExactPositionNfa': WHATEVER THE INPUT: true; the input reads as it did. -/
def fnExactPositionNfaSpec : ChangeSpec := { name := "fnExactPositionNfa", fn := fun _ => fun
  | [d] => { results := [.lit (.bool true)], args := [d] }
  | _ => none }
def fnExactPositionNfaRow : OpenClaim := { program := "ytgihihnbapnnjaa", sum := "d0b0a187792bf9caedfe20985bcbb5c205d763acc7ffd6b66d1dbc9ba43aad85", func := "loop.example/regularlanguages/laws.FnExactPositionNfa", spec := "fnExactPositionNfa", unfollowed := true, recurses := true, apart := false }
def FnExactPositionNfaSaid : Prop := fnExactPositionNfaRow.holds Try.pinned (OpenSpec.ofChange fnExactPositionNfaSpec)

/-- ITS FALSE NEIGHBOUR: 'it returns false'. Refute it at one input. -/
def fnExactPositionNfaWrong : ChangeSpec := { name := "fnExactPositionNfa", fn := fun _ => fun
  | [d] => { results := [.lit (.bool false)], args := [d] }
  | _ => none }
def FnExactPositionNfaWrongFalsely : Prop := fnExactPositionNfaRow.holds Try.pinned (OpenSpec.ofChange fnExactPositionNfaWrong)

/-- 'laws.FnExactExprOf': WHATEVER THE INPUT: true; the input reads as it did. -/
def fnExactExprOfSpec : ChangeSpec := { name := "fnExactExprOf", fn := fun _ => fun
  | [d] => { results := [.lit (.bool true)], args := [d] }
  | _ => none }
def fnExactExprOfRow : OpenClaim := { program := "ytgihihnbapnnjaa", sum := "d0b0a187792bf9caedfe20985bcbb5c205d763acc7ffd6b66d1dbc9ba43aad85", func := "loop.example/regularlanguages/laws.FnExactExprOf", spec := "fnExactExprOf", unfollowed := true, recurses := true, apart := false }
def FnExactExprOfSaid : Prop := fnExactExprOfRow.holds Try.pinned (OpenSpec.ofChange fnExactExprOfSpec)

/-- ITS FALSE NEIGHBOUR: 'it returns false'. Refute it at one input. -/
def fnExactExprOfWrong : ChangeSpec := { name := "fnExactExprOf", fn := fun _ => fun
  | [d] => { results := [.lit (.bool false)], args := [d] }
  | _ => none }
def FnExactExprOfWrongFalsely : Prop := fnExactExprOfRow.holds Try.pinned (OpenSpec.ofChange fnExactExprOfWrong)

/- THE SECOND FORM. 'bulk': how many values and letters a reading holds, each counted each time it is reached (what is shared counts as often as it is met; a slice's spare places count too). A statement '..UptoSaid' is the law's where the arguments, and the package variables that the reading takes, are together of bulk at most 1048576: NARROWER than '..Said'. Prove '..Said' where nothing that the law and all that it calls make is longer than what came in: it says more and counts as full. Else prove '..UptoSaid'. A law counts once. -/
mutual
def uptoBulk {H : Type} : DataW H → Nat
  | .lit (.string bytes) => bytes.length + 1
  | .lit _ => 1
  | .nil => 1
  | .ptr d => uptoBulk d + 1
  | .slice elems spare => uptoBulkAll elems + uptoBulkAll spare + 1
  | .agg parts => uptoBulkAll parts + 1
  | .iface _ d => uptoBulk d + 1
  | .map entries => uptoBulkEntries entries + 1
  | .held _ => 1
def uptoBulkAll {H : Type} : List (DataW H) → Nat
  | [] => 0
  | d :: r => uptoBulk d + uptoBulkAll r
def uptoBulkEntries {H : Type} : List (Lit × DataW H) → Nat
  | [] => 0
  | x :: r => uptoBulkEntry x + uptoBulkEntries r
def uptoBulkEntry {H : Type} : Lit × DataW H → Nat
  | (.string bytes, d) => bytes.length + uptoBulk d + 1
  | (_, d) => uptoBulk d + 1
 end
def uptoSmall : (H : Type) → List (DataW H) → Bool := fun _ ds => decide (uptoBulkAll ds ≤ 1048576)
def OpenSpec.upto (s : _root_.Go.ChangeSpec) : _root_.Go.OpenSpec := { _root_.Go.OpenSpec.ofChange s with cond := some uptoSmall }

/-- 'laws.FnExactLetterPlaces', WHERE WHAT IT READS IS OF BULK AT MOST 1048576: true; the input reads as it did. -/
def fnExactLetterPlacesUptoRow : OpenClaim := { program := "ytgihihnbapnnjaa", sum := "d0b0a187792bf9caedfe20985bcbb5c205d763acc7ffd6b66d1dbc9ba43aad85", func := "loop.example/regularlanguages/laws.FnExactLetterPlaces", spec := "fnExactLetterPlaces", apart := false, narrowed := true }
def FnExactLetterPlacesUptoSaid : Prop := fnExactLetterPlacesUptoRow.holds Try.pinned (OpenSpec.upto fnExactLetterPlacesSpec)

/-- 'laws.FnExactWordsExpr', WHERE WHAT IT READS IS OF BULK AT MOST 1048576: true; the input reads as it did. -/
def fnExactWordsExprUptoRow : OpenClaim := { program := "ytgihihnbapnnjaa", sum := "d0b0a187792bf9caedfe20985bcbb5c205d763acc7ffd6b66d1dbc9ba43aad85", func := "loop.example/regularlanguages/laws.FnExactWordsExpr", spec := "fnExactWordsExpr", unfollowed := true, recurses := true, apart := false, narrowed := true }
def FnExactWordsExprUptoSaid : Prop := fnExactWordsExprUptoRow.holds Try.pinned (OpenSpec.upto fnExactWordsExprSpec)

/-- 'laws.FnExactTurnNfa', WHERE WHAT IT READS IS OF BULK AT MOST 1048576: true; the input reads as it did. -/
def fnExactTurnNfaUptoRow : OpenClaim := { program := "ytgihihnbapnnjaa", sum := "d0b0a187792bf9caedfe20985bcbb5c205d763acc7ffd6b66d1dbc9ba43aad85", func := "loop.example/regularlanguages/laws.FnExactTurnNfa", spec := "fnExactTurnNfa", unfollowed := true, recurses := true, apart := false, narrowed := true }
def FnExactTurnNfaUptoSaid : Prop := fnExactTurnNfaUptoRow.holds Try.pinned (OpenSpec.upto fnExactTurnNfaSpec)

/-- 'laws.FnExactNfaStar', WHERE WHAT IT READS IS OF BULK AT MOST 1048576: true; the input reads as it did. -/
def fnExactNfaStarUptoRow : OpenClaim := { program := "ytgihihnbapnnjaa", sum := "d0b0a187792bf9caedfe20985bcbb5c205d763acc7ffd6b66d1dbc9ba43aad85", func := "loop.example/regularlanguages/laws.FnExactNfaStar", spec := "fnExactNfaStar", unfollowed := true, recurses := true, apart := false, narrowed := true }
def FnExactNfaStarUptoSaid : Prop := fnExactNfaStarUptoRow.holds Try.pinned (OpenSpec.upto fnExactNfaStarSpec)

/-- 'laws.FnExactNfaJoin', WHERE WHAT IT READS IS OF BULK AT MOST 1048576: true; the input reads as it did. -/
def fnExactNfaJoinUptoRow : OpenClaim := { program := "ytgihihnbapnnjaa", sum := "d0b0a187792bf9caedfe20985bcbb5c205d763acc7ffd6b66d1dbc9ba43aad85", func := "loop.example/regularlanguages/laws.FnExactNfaJoin", spec := "fnExactNfaJoin", unfollowed := true, recurses := true, apart := false, narrowed := true }
def FnExactNfaJoinUptoSaid : Prop := fnExactNfaJoinUptoRow.holds Try.pinned (OpenSpec.upto fnExactNfaJoinSpec)

/-- 'laws.FnExactNfaOf', WHERE WHAT IT READS IS OF BULK AT MOST 1048576: true; the input reads as it did. -/
def fnExactNfaOfUptoRow : OpenClaim := { program := "ytgihihnbapnnjaa", sum := "d0b0a187792bf9caedfe20985bcbb5c205d763acc7ffd6b66d1dbc9ba43aad85", func := "loop.example/regularlanguages/laws.FnExactNfaOf", spec := "fnExactNfaOf", unfollowed := true, recurses := true, apart := false, narrowed := true }
def FnExactNfaOfUptoSaid : Prop := fnExactNfaOfUptoRow.holds Try.pinned (OpenSpec.upto fnExactNfaOfSpec)

/-- 'laws.FnExactNfaEither', WHERE WHAT IT READS IS OF BULK AT MOST 1048576: true; the input reads as it did. -/
def fnExactNfaEitherUptoRow : OpenClaim := { program := "ytgihihnbapnnjaa", sum := "d0b0a187792bf9caedfe20985bcbb5c205d763acc7ffd6b66d1dbc9ba43aad85", func := "loop.example/regularlanguages/laws.FnExactNfaEither", spec := "fnExactNfaEither", unfollowed := true, recurses := true, apart := false, narrowed := true }
def FnExactNfaEitherUptoSaid : Prop := fnExactNfaEitherUptoRow.holds Try.pinned (OpenSpec.upto fnExactNfaEitherSpec)

/-- 'laws.FnExactFirstPlaces', WHERE WHAT IT READS IS OF BULK AT MOST 1048576: true; the input reads as it did. -/
def fnExactFirstPlacesUptoRow : OpenClaim := { program := "ytgihihnbapnnjaa", sum := "d0b0a187792bf9caedfe20985bcbb5c205d763acc7ffd6b66d1dbc9ba43aad85", func := "loop.example/regularlanguages/laws.FnExactFirstPlaces", spec := "fnExactFirstPlaces", unfollowed := true, recurses := true, apart := false, narrowed := true }
def FnExactFirstPlacesUptoSaid : Prop := fnExactFirstPlacesUptoRow.holds Try.pinned (OpenSpec.upto fnExactFirstPlacesSpec)

/-- 'laws.FnExactLastPlaces', WHERE WHAT IT READS IS OF BULK AT MOST 1048576: true; the input reads as it did. -/
def fnExactLastPlacesUptoRow : OpenClaim := { program := "ytgihihnbapnnjaa", sum := "d0b0a187792bf9caedfe20985bcbb5c205d763acc7ffd6b66d1dbc9ba43aad85", func := "loop.example/regularlanguages/laws.FnExactLastPlaces", spec := "fnExactLastPlaces", unfollowed := true, recurses := true, apart := false, narrowed := true }
def FnExactLastPlacesUptoSaid : Prop := fnExactLastPlacesUptoRow.holds Try.pinned (OpenSpec.upto fnExactLastPlacesSpec)

/-- 'laws.FnExactBuildNfa', WHERE WHAT IT READS IS OF BULK AT MOST 1048576: true; the input reads as it did. -/
def fnExactBuildNfaUptoRow : OpenClaim := { program := "ytgihihnbapnnjaa", sum := "d0b0a187792bf9caedfe20985bcbb5c205d763acc7ffd6b66d1dbc9ba43aad85", func := "loop.example/regularlanguages/laws.FnExactBuildNfa", spec := "fnExactBuildNfa", unfollowed := true, recurses := true, apart := false, narrowed := true }
def FnExactBuildNfaUptoSaid : Prop := fnExactBuildNfaUptoRow.holds Try.pinned (OpenSpec.upto fnExactBuildNfaSpec)

/-- 'laws.FnExactPositionNfa', WHERE WHAT IT READS IS OF BULK AT MOST 1048576: true; the input reads as it did. -/
def fnExactPositionNfaUptoRow : OpenClaim := { program := "ytgihihnbapnnjaa", sum := "d0b0a187792bf9caedfe20985bcbb5c205d763acc7ffd6b66d1dbc9ba43aad85", func := "loop.example/regularlanguages/laws.FnExactPositionNfa", spec := "fnExactPositionNfa", unfollowed := true, recurses := true, apart := false, narrowed := true }
def FnExactPositionNfaUptoSaid : Prop := fnExactPositionNfaUptoRow.holds Try.pinned (OpenSpec.upto fnExactPositionNfaSpec)

/-- 'laws.FnExactExprOf', WHERE WHAT IT READS IS OF BULK AT MOST 1048576: true; the input reads as it did. -/
def fnExactExprOfUptoRow : OpenClaim := { program := "ytgihihnbapnnjaa", sum := "d0b0a187792bf9caedfe20985bcbb5c205d763acc7ffd6b66d1dbc9ba43aad85", func := "loop.example/regularlanguages/laws.FnExactExprOf", spec := "fnExactExprOf", unfollowed := true, recurses := true, apart := false, narrowed := true }
def FnExactExprOfUptoSaid : Prop := fnExactExprOfUptoRow.holds Try.pinned (OpenSpec.upto fnExactExprOfSpec)

end Rows
end Go.Proofs.Ytgihihnbapnnjaa
