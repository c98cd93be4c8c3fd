/-
  No cell of these rows narrows 'for every input' (looked for: loops, veiled, ifaces, maps, wideKeys, modest, calm, conditions, laid).
  DERIVED. THE GIVEN ROWS OF THIS SEAT. 12 by the template 'for every input the law returns true; each argument reads behind the call as it read before'; 0 by the template 'total and deterministic' (their statements: YtcbhfopabgiiiaaTotals.lean).
  GIVEN WITH THE SEED: the statements are not yours to turn. If you find one false, say at which input.
  Laid BY PROGRAM, IN A SANDBOX (cutbox-rows.mjs): the forced cells as the released guide's own fill.sh prints them over the translation 8669443497194e55… (all of the seat's roots in one cut). By AI agents, Wed Nov 11 2026. No macro, syntax, notation, axiom, sorry.
-/
import Derived.Test.YtcbhfopabgiiiaaChecked
import GoSem.Claim
import GoSem.ClaimJoined
import GoSem.ClaimMapViews
import Derived.JoinedTies
import Derived.KernelRfl
namespace Go.Proofs.Ytcbhfopabgiiiaa
/- THE CELL 'sum', in the pinned program and in every row, IS THE sha256 OF THE DUMP (.gsa) THAT YtcbhfopabgiiiaaProg.lean LOADS. Nothing in Lean hashes anything: it is a label: what it is worth is what the hold of that sum in a sandbox is worth. -/
noncomputable def Try.pinned : Pinned := { name := "ytcbhfopabgiiiaa", sum := "8669443497194e558db09c329f1d7518772b027d43717546da9b7bcc0f5a12b6", checked := Try.checked }
namespace Rows
def none {H : Type} : Left H := { results := [], args := [] }

/-- 'laws.FnLongestLength': WHATEVER THE INPUT: true; the input reads as it did. -/
def fnLongestLengthSpec : ChangeSpec := { name := "fnLongestLength", fn := fun _ => fun
  | [d] => { results := [.lit (.bool true)], args := [d] }
  | _ => none }
def fnLongestLengthRow : OpenClaim := { program := "ytcbhfopabgiiiaa", sum := "8669443497194e558db09c329f1d7518772b027d43717546da9b7bcc0f5a12b6", func := "loop.example/regularlanguages/laws.FnLongestLength", spec := "fnLongestLength", unfollowed := true, recurses := true, apart := false }
def FnLongestLengthSaid : Prop := fnLongestLengthRow.holds Try.pinned (OpenSpec.ofChange fnLongestLengthSpec)

/-- ITS FALSE NEIGHBOUR: 'it returns false'. Refute it at one input. -/
def fnLongestLengthWrong : ChangeSpec := { name := "fnLongestLength", fn := fun _ => fun
  | [d] => { results := [.lit (.bool false)], args := [d] }
  | _ => none }
def FnLongestLengthWrongFalsely : Prop := fnLongestLengthRow.holds Try.pinned (OpenSpec.ofChange fnLongestLengthWrong)

/-- 'laws.FnRankShort': WHATEVER THE INPUT: true; the input reads as it did. -/
def fnRankShortSpec : ChangeSpec := { name := "fnRankShort", fn := fun _ => fun
  | [d] => { results := [.lit (.bool true)], args := [d] }
  | _ => none }
def fnRankShortRow : OpenClaim := { program := "ytcbhfopabgiiiaa", sum := "8669443497194e558db09c329f1d7518772b027d43717546da9b7bcc0f5a12b6", func := "loop.example/regularlanguages/laws.FnRankShort", spec := "fnRankShort", unfollowed := true, recurses := true, apart := false }
def FnRankShortSaid : Prop := fnRankShortRow.holds Try.pinned (OpenSpec.ofChange fnRankShortSpec)

/-- ITS FALSE NEIGHBOUR: 'it returns false'. Refute it at one input. -/
def fnRankShortWrong : ChangeSpec := { name := "fnRankShort", fn := fun _ => fun
  | [d] => { results := [.lit (.bool false)], args := [d] }
  | _ => none }
def FnRankShortWrongFalsely : Prop := fnRankShortRow.holds Try.pinned (OpenSpec.ofChange fnRankShortWrong)

/-- 'laws.FnFindEverything': WHATEVER THE INPUT: true; the input reads as it did. -/
def fnFindEverythingSpec : ChangeSpec := { name := "fnFindEverything", fn := fun _ => fun
  | [d] => { results := [.lit (.bool true)], args := [d] }
  | _ => none }
def fnFindEverythingRow : OpenClaim := { program := "ytcbhfopabgiiiaa", sum := "8669443497194e558db09c329f1d7518772b027d43717546da9b7bcc0f5a12b6", func := "loop.example/regularlanguages/laws.FnFindEverything", spec := "fnFindEverything", unfollowed := true, recurses := true, apart := false }
def FnFindEverythingSaid : Prop := fnFindEverythingRow.holds Try.pinned (OpenSpec.ofChange fnFindEverythingSpec)

/-- ITS FALSE NEIGHBOUR: 'it returns false'. Refute it at one input. -/
def fnFindEverythingWrong : ChangeSpec := { name := "fnFindEverything", fn := fun _ => fun
  | [d] => { results := [.lit (.bool false)], args := [d] }
  | _ => none }
def FnFindEverythingWrongFalsely : Prop := fnFindEverythingRow.holds Try.pinned (OpenSpec.ofChange fnFindEverythingWrong)

/-- 'laws.FnFindAll': WHATEVER THE INPUT: true; the input reads as it did. -/
def fnFindAllSpec : ChangeSpec := { name := "fnFindAll", fn := fun _ => fun
  | [d] => { results := [.lit (.bool true)], args := [d] }
  | _ => none }
def fnFindAllRow : OpenClaim := { program := "ytcbhfopabgiiiaa", sum := "8669443497194e558db09c329f1d7518772b027d43717546da9b7bcc0f5a12b6", func := "loop.example/regularlanguages/laws.FnFindAll", spec := "fnFindAll", unfollowed := true, recurses := true, apart := false }
def FnFindAllSaid : Prop := fnFindAllRow.holds Try.pinned (OpenSpec.ofChange fnFindAllSpec)

/-- ITS FALSE NEIGHBOUR: 'it returns false'. Refute it at one input. -/
def fnFindAllWrong : ChangeSpec := { name := "fnFindAll", fn := fun _ => fun
  | [d] => { results := [.lit (.bool false)], args := [d] }
  | _ => none }
def FnFindAllWrongFalsely : Prop := fnFindAllRow.holds Try.pinned (OpenSpec.ofChange fnFindAllWrong)

/-- 'laws.FnReplaceAll': WHATEVER THE INPUT: true; the input reads as it did. -/
def fnReplaceAllSpec : ChangeSpec := { name := "fnReplaceAll", fn := fun _ => fun
  | [d] => { results := [.lit (.bool true)], args := [d] }
  | _ => none }
def fnReplaceAllRow : OpenClaim := { program := "ytcbhfopabgiiiaa", sum := "8669443497194e558db09c329f1d7518772b027d43717546da9b7bcc0f5a12b6", func := "loop.example/regularlanguages/laws.FnReplaceAll", spec := "fnReplaceAll", unfollowed := true, recurses := true, apart := false }
def FnReplaceAllSaid : Prop := fnReplaceAllRow.holds Try.pinned (OpenSpec.ofChange fnReplaceAllSpec)

/-- ITS FALSE NEIGHBOUR: 'it returns false'. Refute it at one input. -/
def fnReplaceAllWrong : ChangeSpec := { name := "fnReplaceAll", fn := fun _ => fun
  | [d] => { results := [.lit (.bool false)], args := [d] }
  | _ => none }
def FnReplaceAllWrongFalsely : Prop := fnReplaceAllRow.holds Try.pinned (OpenSpec.ofChange fnReplaceAllWrong)

/-- 'laws.FnWordExpr': WHATEVER THE INPUT: true; the input reads as it did. -/
def fnWordExprSpec : ChangeSpec := { name := "fnWordExpr", fn := fun _ => fun
  | [d1, d2] => { results := [.lit (.bool true)], args := [d1, d2] }
  | _ => none }
def fnWordExprRow : OpenClaim := { program := "ytcbhfopabgiiiaa", sum := "8669443497194e558db09c329f1d7518772b027d43717546da9b7bcc0f5a12b6", func := "loop.example/regularlanguages/laws.FnWordExpr", spec := "fnWordExpr", unfollowed := true, recurses := true, apart := false }
def FnWordExprSaid : Prop := fnWordExprRow.holds Try.pinned (OpenSpec.ofChange fnWordExprSpec)

/-- ITS FALSE NEIGHBOUR: 'it returns false'. Refute it at one input. -/
def fnWordExprWrong : ChangeSpec := { name := "fnWordExpr", fn := fun _ => fun
  | [d1, d2] => { results := [.lit (.bool false)], args := [d1, d2] }
  | _ => none }
def FnWordExprWrongFalsely : Prop := fnWordExprRow.holds Try.pinned (OpenSpec.ofChange fnWordExprWrong)

/-- 'laws.FnLetterPlaces': WHATEVER THE INPUT: true; the input reads as it did. -/
def fnLetterPlacesSpec : ChangeSpec := { name := "fnLetterPlaces", fn := fun _ => fun
  | [d] => { results := [.lit (.bool true)], args := [d] }
  | _ => none }
def fnLetterPlacesRow : OpenClaim := { program := "ytcbhfopabgiiiaa", sum := "8669443497194e558db09c329f1d7518772b027d43717546da9b7bcc0f5a12b6", func := "loop.example/regularlanguages/laws.FnLetterPlaces", spec := "fnLetterPlaces", recurses := true, apart := false }
def FnLetterPlacesSaid : Prop := fnLetterPlacesRow.holds Try.pinned (OpenSpec.ofChange fnLetterPlacesSpec)

/-- ITS FALSE NEIGHBOUR: 'it returns false'. Refute it at one input. -/
def fnLetterPlacesWrong : ChangeSpec := { name := "fnLetterPlaces", fn := fun _ => fun
  | [d] => { results := [.lit (.bool false)], args := [d] }
  | _ => none }
def FnLetterPlacesWrongFalsely : Prop := fnLetterPlacesRow.holds Try.pinned (OpenSpec.ofChange fnLetterPlacesWrong)

/-- 'laws.FnDeriveWord': WHATEVER THE INPUT: true; the input reads as it did. -/
def fnDeriveWordSpec : ChangeSpec := { name := "fnDeriveWord", fn := fun _ => fun
  | [d] => { results := [.lit (.bool true)], args := [d] }
  | _ => none }
def fnDeriveWordRow : OpenClaim := { program := "ytcbhfopabgiiiaa", sum := "8669443497194e558db09c329f1d7518772b027d43717546da9b7bcc0f5a12b6", func := "loop.example/regularlanguages/laws.FnDeriveWord", spec := "fnDeriveWord", unfollowed := true, recurses := true, apart := false }
def FnDeriveWordSaid : Prop := fnDeriveWordRow.holds Try.pinned (OpenSpec.ofChange fnDeriveWordSpec)

/-- ITS FALSE NEIGHBOUR: 'it returns false'. Refute it at one input. -/
def fnDeriveWordWrong : ChangeSpec := { name := "fnDeriveWord", fn := fun _ => fun
  | [d] => { results := [.lit (.bool false)], args := [d] }
  | _ => none }
def FnDeriveWordWrongFalsely : Prop := fnDeriveWordRow.holds Try.pinned (OpenSpec.ofChange fnDeriveWordWrong)

/-- 'laws.FnDeriveCount': WHATEVER THE INPUT: true; the input reads as it did. -/
def fnDeriveCountSpec : ChangeSpec := { name := "fnDeriveCount", fn := fun _ => fun
  | [d] => { results := [.lit (.bool true)], args := [d] }
  | _ => none }
def fnDeriveCountRow : OpenClaim := { program := "ytcbhfopabgiiiaa", sum := "8669443497194e558db09c329f1d7518772b027d43717546da9b7bcc0f5a12b6", func := "loop.example/regularlanguages/laws.FnDeriveCount", spec := "fnDeriveCount", recurses := true, apart := false }
def FnDeriveCountSaid : Prop := fnDeriveCountRow.holds Try.pinned (OpenSpec.ofChange fnDeriveCountSpec)

/-- ITS FALSE NEIGHBOUR: 'it returns false'. Refute it at one input. -/
def fnDeriveCountWrong : ChangeSpec := { name := "fnDeriveCount", fn := fun _ => fun
  | [d] => { results := [.lit (.bool false)], args := [d] }
  | _ => none }
def FnDeriveCountWrongFalsely : Prop := fnDeriveCountRow.holds Try.pinned (OpenSpec.ofChange fnDeriveCountWrong)

/-- 'laws.FnFirstPlaces': WHATEVER THE INPUT: true; the input reads as it did. -/
def fnFirstPlacesSpec : ChangeSpec := { name := "fnFirstPlaces", fn := fun _ => fun
  | [d] => { results := [.lit (.bool true)], args := [d] }
  | _ => none }
def fnFirstPlacesRow : OpenClaim := { program := "ytcbhfopabgiiiaa", sum := "8669443497194e558db09c329f1d7518772b027d43717546da9b7bcc0f5a12b6", func := "loop.example/regularlanguages/laws.FnFirstPlaces", spec := "fnFirstPlaces", unfollowed := true, recurses := true, apart := false }
def FnFirstPlacesSaid : Prop := fnFirstPlacesRow.holds Try.pinned (OpenSpec.ofChange fnFirstPlacesSpec)

/-- ITS FALSE NEIGHBOUR: 'it returns false'. Refute it at one input. -/
def fnFirstPlacesWrong : ChangeSpec := { name := "fnFirstPlaces", fn := fun _ => fun
  | [d] => { results := [.lit (.bool false)], args := [d] }
  | _ => none }
def FnFirstPlacesWrongFalsely : Prop := fnFirstPlacesRow.holds Try.pinned (OpenSpec.ofChange fnFirstPlacesWrong)

/-- 'laws.FnLastPlaces': WHATEVER THE INPUT: true; the input reads as it did. -/
def fnLastPlacesSpec : ChangeSpec := { name := "fnLastPlaces", fn := fun _ => fun
  | [d] => { results := [.lit (.bool true)], args := [d] }
  | _ => none }
def fnLastPlacesRow : OpenClaim := { program := "ytcbhfopabgiiiaa", sum := "8669443497194e558db09c329f1d7518772b027d43717546da9b7bcc0f5a12b6", func := "loop.example/regularlanguages/laws.FnLastPlaces", spec := "fnLastPlaces", unfollowed := true, recurses := true, apart := false }
def FnLastPlacesSaid : Prop := fnLastPlacesRow.holds Try.pinned (OpenSpec.ofChange fnLastPlacesSpec)

/-- ITS FALSE NEIGHBOUR: 'it returns false'. Refute it at one input. -/
def fnLastPlacesWrong : ChangeSpec := { name := "fnLastPlaces", fn := fun _ => fun
  | [d] => { results := [.lit (.bool false)], args := [d] }
  | _ => none }
def FnLastPlacesWrongFalsely : Prop := fnLastPlacesRow.holds Try.pinned (OpenSpec.ofChange fnLastPlacesWrong)

/-- 'laws.FnPositionMoves': WHATEVER THE INPUT: true; the input reads as it did. -/
def fnPositionMovesSpec : ChangeSpec := { name := "fnPositionMoves", fn := fun _ => fun
  | [d] => { results := [.lit (.bool true)], args := [d] }
  | _ => none }
def fnPositionMovesRow : OpenClaim := { program := "ytcbhfopabgiiiaa", sum := "8669443497194e558db09c329f1d7518772b027d43717546da9b7bcc0f5a12b6", func := "loop.example/regularlanguages/laws.FnPositionMoves", spec := "fnPositionMoves", unfollowed := true, recurses := true, apart := false }
def FnPositionMovesSaid : Prop := fnPositionMovesRow.holds Try.pinned (OpenSpec.ofChange fnPositionMovesSpec)

/-- ITS FALSE NEIGHBOUR: 'it returns false'. Refute it at one input. -/
def fnPositionMovesWrong : ChangeSpec := { name := "fnPositionMoves", fn := fun _ => fun
  | [d] => { results := [.lit (.bool false)], args := [d] }
  | _ => none }
def FnPositionMovesWrongFalsely : Prop := fnPositionMovesRow.holds Try.pinned (OpenSpec.ofChange fnPositionMovesWrong)

/- THE SECOND FORM. 'bulk': how many values and letters a reading holds, each counted each time it is reached (what is shared counts as often as it is met; a slice's spare places count too). A statement '..UptoSaid' is the law's where the arguments, and the package variables that the reading takes, are together of bulk at most 1048576: NARROWER than '..Said'. Prove '..Said' where nothing that the law and all that it calls make is longer than what came in: it says more and counts as full. Else prove '..UptoSaid'. A law counts once. -/
mutual
def uptoBulk {H : Type} : DataW H → Nat
  | .lit (.string bytes) => bytes.length + 1
  | .lit _ => 1
  | .nil => 1
  | .ptr d => uptoBulk d + 1
  | .slice elems spare => uptoBulkAll elems + uptoBulkAll spare + 1
  | .agg parts => uptoBulkAll parts + 1
  | .iface _ d => uptoBulk d + 1
  | .map entries => uptoBulkEntries entries + 1
  | .held _ => 1
def uptoBulkAll {H : Type} : List (DataW H) → Nat
  | [] => 0
  | d :: r => uptoBulk d + uptoBulkAll r
def uptoBulkEntries {H : Type} : List (Lit × DataW H) → Nat
  | [] => 0
  | x :: r => uptoBulkEntry x + uptoBulkEntries r
def uptoBulkEntry {H : Type} : Lit × DataW H → Nat
  | (.string bytes, d) => bytes.length + uptoBulk d + 1
  | (_, d) => uptoBulk d + 1
 end
def uptoSmall : (H : Type) → List (DataW H) → Bool := fun _ ds => decide (uptoBulkAll ds ≤ 1048576)
def OpenSpec.upto (s : _root_.Go.ChangeSpec) : _root_.Go.OpenSpec := { _root_.Go.OpenSpec.ofChange s with cond := some uptoSmall }

/-- 'laws.FnLongestLength', WHERE WHAT IT READS IS OF BULK AT MOST 1048576: true; the input reads as it did. -/
def fnLongestLengthUptoRow : OpenClaim := { program := "ytcbhfopabgiiiaa", sum := "8669443497194e558db09c329f1d7518772b027d43717546da9b7bcc0f5a12b6", func := "loop.example/regularlanguages/laws.FnLongestLength", spec := "fnLongestLength", unfollowed := true, recurses := true, apart := false, narrowed := true }
def FnLongestLengthUptoSaid : Prop := fnLongestLengthUptoRow.holds Try.pinned (OpenSpec.upto fnLongestLengthSpec)

/-- 'laws.FnRankShort', WHERE WHAT IT READS IS OF BULK AT MOST 1048576: true; the input reads as it did. -/
def fnRankShortUptoRow : OpenClaim := { program := "ytcbhfopabgiiiaa", sum := "8669443497194e558db09c329f1d7518772b027d43717546da9b7bcc0f5a12b6", func := "loop.example/regularlanguages/laws.FnRankShort", spec := "fnRankShort", unfollowed := true, recurses := true, apart := false, narrowed := true }
def FnRankShortUptoSaid : Prop := fnRankShortUptoRow.holds Try.pinned (OpenSpec.upto fnRankShortSpec)

/-- 'laws.FnFindEverything', WHERE WHAT IT READS IS OF BULK AT MOST 1048576: true; the input reads as it did. -/
def fnFindEverythingUptoRow : OpenClaim := { program := "ytcbhfopabgiiiaa", sum := "8669443497194e558db09c329f1d7518772b027d43717546da9b7bcc0f5a12b6", func := "loop.example/regularlanguages/laws.FnFindEverything", spec := "fnFindEverything", unfollowed := true, recurses := true, apart := false, narrowed := true }
def FnFindEverythingUptoSaid : Prop := fnFindEverythingUptoRow.holds Try.pinned (OpenSpec.upto fnFindEverythingSpec)

/-- 'laws.FnFindAll', WHERE WHAT IT READS IS OF BULK AT MOST 1048576: true; the input reads as it did. -/
def fnFindAllUptoRow : OpenClaim := { program := "ytcbhfopabgiiiaa", sum := "8669443497194e558db09c329f1d7518772b027d43717546da9b7bcc0f5a12b6", func := "loop.example/regularlanguages/laws.FnFindAll", spec := "fnFindAll", unfollowed := true, recurses := true, apart := false, narrowed := true }
def FnFindAllUptoSaid : Prop := fnFindAllUptoRow.holds Try.pinned (OpenSpec.upto fnFindAllSpec)

/-- 'laws.FnReplaceAll', WHERE WHAT IT READS IS OF BULK AT MOST 1048576: true; the input reads as it did. -/
def fnReplaceAllUptoRow : OpenClaim := { program := "ytcbhfopabgiiiaa", sum := "8669443497194e558db09c329f1d7518772b027d43717546da9b7bcc0f5a12b6", func := "loop.example/regularlanguages/laws.FnReplaceAll", spec := "fnReplaceAll", unfollowed := true, recurses := true, apart := false, narrowed := true }
def FnReplaceAllUptoSaid : Prop := fnReplaceAllUptoRow.holds Try.pinned (OpenSpec.upto fnReplaceAllSpec)

/-- 'laws.FnWordExpr', WHERE WHAT IT READS IS OF BULK AT MOST 1048576: true; the input reads as it did. -/
def fnWordExprUptoRow : OpenClaim := { program := "ytcbhfopabgiiiaa", sum := "8669443497194e558db09c329f1d7518772b027d43717546da9b7bcc0f5a12b6", func := "loop.example/regularlanguages/laws.FnWordExpr", spec := "fnWordExpr", unfollowed := true, recurses := true, apart := false, narrowed := true }
def FnWordExprUptoSaid : Prop := fnWordExprUptoRow.holds Try.pinned (OpenSpec.upto fnWordExprSpec)

/-- 'laws.FnLetterPlaces', WHERE WHAT IT READS IS OF BULK AT MOST 1048576: true; the input reads as it did. -/
def fnLetterPlacesUptoRow : OpenClaim := { program := "ytcbhfopabgiiiaa", sum := "8669443497194e558db09c329f1d7518772b027d43717546da9b7bcc0f5a12b6", func := "loop.example/regularlanguages/laws.FnLetterPlaces", spec := "fnLetterPlaces", recurses := true, apart := false, narrowed := true }
def FnLetterPlacesUptoSaid : Prop := fnLetterPlacesUptoRow.holds Try.pinned (OpenSpec.upto fnLetterPlacesSpec)

/-- 'laws.FnDeriveWord', WHERE WHAT IT READS IS OF BULK AT MOST 1048576: true; the input reads as it did. -/
def fnDeriveWordUptoRow : OpenClaim := { program := "ytcbhfopabgiiiaa", sum := "8669443497194e558db09c329f1d7518772b027d43717546da9b7bcc0f5a12b6", func := "loop.example/regularlanguages/laws.FnDeriveWord", spec := "fnDeriveWord", unfollowed := true, recurses := true, apart := false, narrowed := true }
def FnDeriveWordUptoSaid : Prop := fnDeriveWordUptoRow.holds Try.pinned (OpenSpec.upto fnDeriveWordSpec)

/-- 'laws.FnDeriveCount', WHERE WHAT IT READS IS OF BULK AT MOST 1048576: true; the input reads as it did. -/
def fnDeriveCountUptoRow : OpenClaim := { program := "ytcbhfopabgiiiaa", sum := "8669443497194e558db09c329f1d7518772b027d43717546da9b7bcc0f5a12b6", func := "loop.example/regularlanguages/laws.FnDeriveCount", spec := "fnDeriveCount", recurses := true, apart := false, narrowed := true }
def FnDeriveCountUptoSaid : Prop := fnDeriveCountUptoRow.holds Try.pinned (OpenSpec.upto fnDeriveCountSpec)

/-- 'laws.FnFirstPlaces', WHERE WHAT IT READS IS OF BULK AT MOST 1048576: true; the input reads as it did. -/
def fnFirstPlacesUptoRow : OpenClaim := { program := "ytcbhfopabgiiiaa", sum := "8669443497194e558db09c329f1d7518772b027d43717546da9b7bcc0f5a12b6", func := "loop.example/regularlanguages/laws.FnFirstPlaces", spec := "fnFirstPlaces", unfollowed := true, recurses := true, apart := false, narrowed := true }
def FnFirstPlacesUptoSaid : Prop := fnFirstPlacesUptoRow.holds Try.pinned (OpenSpec.upto fnFirstPlacesSpec)

/-- 'laws.FnLastPlaces', WHERE WHAT IT READS IS OF BULK AT MOST 1048576: true; the input reads as it did. -/
def fnLastPlacesUptoRow : OpenClaim := { program := "ytcbhfopabgiiiaa", sum := "8669443497194e558db09c329f1d7518772b027d43717546da9b7bcc0f5a12b6", func := "loop.example/regularlanguages/laws.FnLastPlaces", spec := "fnLastPlaces", unfollowed := true, recurses := true, apart := false, narrowed := true }
def FnLastPlacesUptoSaid : Prop := fnLastPlacesUptoRow.holds Try.pinned (OpenSpec.upto fnLastPlacesSpec)

/-- 'laws.FnPositionMoves', WHERE WHAT IT READS IS OF BULK AT MOST 1048576: true; the input reads as it did. -/
def fnPositionMovesUptoRow : OpenClaim := { program := "ytcbhfopabgiiiaa", sum := "8669443497194e558db09c329f1d7518772b027d43717546da9b7bcc0f5a12b6", func := "loop.example/regularlanguages/laws.FnPositionMoves", spec := "fnPositionMoves", unfollowed := true, recurses := true, apart := false, narrowed := true }
def FnPositionMovesUptoSaid : Prop := fnPositionMovesUptoRow.holds Try.pinned (OpenSpec.upto fnPositionMovesSpec)

end Rows
end Go.Proofs.Ytcbhfopabgiiiaa
