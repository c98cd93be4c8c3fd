/-
  No cell of these rows narrows 'for every input' (looked for: loops, veiled, ifaces, maps, wideKeys, modest, calm, conditions, laid).
  DERIVED. THE GIVEN ROWS OF THIS SEAT. 12 by the template 'for every input the law returns true; each argument reads behind the call as it read before'; 0 by the template 'total and deterministic' (their statements: YtdkneilgaoaajaaTotals.lean).
  GIVEN WITH THE SEED: the statements are not yours to turn. If you find one false, say at which input.
  Laid BY PROGRAM, IN A SANDBOX (cutbox-rows.mjs): the forced cells as the released guide's own fill.sh prints them over the translation e19de780a0ad3267… (all of the seat's roots in one cut). By AI agents, Wed Nov 11 2026. No macro, syntax, notation, axiom, sorry.
-/
import Derived.Test.YtdkneilgaoaajaaChecked
import GoSem.Claim
import GoSem.ClaimJoined
import GoSem.ClaimMapViews
import Derived.JoinedTies
import Derived.KernelRfl
namespace Go.Proofs.Ytdkneilgaoaajaa
/- THE CELL 'sum', in the pinned program and in every row, IS THE sha256 OF THE DUMP (.gsa) THAT YtdkneilgaoaajaaProg.lean LOADS. Nothing in Lean hashes anything: it is a label: what it is worth is what the hold of that sum in a sandbox is worth. -/
noncomputable def Try.pinned : Pinned := { name := "ytdkneilgaoaajaa", sum := "e19de780a0ad3267b9483a1bc8c636fda758212bb413ac11d5a6ac1b5f40b354", checked := Try.checked }
namespace Rows
def none {H : Type} : Left H := { results := [], args := [] }

/-- 'laws.FnExactTextValid': WHATEVER THE INPUT: true; the input reads as it did. -/
def fnExactTextValidSpec : ChangeSpec := { name := "fnExactTextValid", fn := fun _ => fun
  | [d] => { results := [.lit (.bool true)], args := [d] }
  | _ => none }
def fnExactTextValidRow : OpenClaim := { program := "ytdkneilgaoaajaa", sum := "e19de780a0ad3267b9483a1bc8c636fda758212bb413ac11d5a6ac1b5f40b354", func := "loop.example/regularlanguages/laws.FnExactTextValid", spec := "fnExactTextValid", plainKeys := false, apart := false }
def FnExactTextValidSaid : Prop := fnExactTextValidRow.holds Try.pinned (OpenSpec.ofChange fnExactTextValidSpec)

/-- ITS FALSE NEIGHBOUR: 'it returns false'. Refute it at one input. -/
def fnExactTextValidWrong : ChangeSpec := { name := "fnExactTextValid", fn := fun _ => fun
  | [d] => { results := [.lit (.bool false)], args := [d] }
  | _ => none }
def FnExactTextValidWrongFalsely : Prop := fnExactTextValidRow.holds Try.pinned (OpenSpec.ofChange fnExactTextValidWrong)

/-- 'laws.FnTextValid': WHATEVER THE INPUT: true; the input reads as it did. -/
def fnTextValidSpec : ChangeSpec := { name := "fnTextValid", fn := fun _ => fun
  | [d] => { results := [.lit (.bool true)], args := [d] }
  | _ => none }
def fnTextValidRow : OpenClaim := { program := "ytdkneilgaoaajaa", sum := "e19de780a0ad3267b9483a1bc8c636fda758212bb413ac11d5a6ac1b5f40b354", func := "loop.example/regularlanguages/laws.FnTextValid", spec := "fnTextValid", plainKeys := false, apart := false }
def FnTextValidSaid : Prop := fnTextValidRow.holds Try.pinned (OpenSpec.ofChange fnTextValidSpec)

/-- ITS FALSE NEIGHBOUR: 'it returns false'. Refute it at one input. -/
def fnTextValidWrong : ChangeSpec := { name := "fnTextValid", fn := fun _ => fun
  | [d] => { results := [.lit (.bool false)], args := [d] }
  | _ => none }
def FnTextValidWrongFalsely : Prop := fnTextValidRow.holds Try.pinned (OpenSpec.ofChange fnTextValidWrong)

/-- 'laws.FnExactWordExpr': WHATEVER THE INPUT: true; the input reads as it did. -/
def fnExactWordExprSpec : ChangeSpec := { name := "fnExactWordExpr", fn := fun _ => fun
  | [d] => { results := [.lit (.bool true)], args := [d] }
  | _ => none }
def fnExactWordExprRow : OpenClaim := { program := "ytdkneilgaoaajaa", sum := "e19de780a0ad3267b9483a1bc8c636fda758212bb413ac11d5a6ac1b5f40b354", func := "loop.example/regularlanguages/laws.FnExactWordExpr", spec := "fnExactWordExpr", plainKeys := false, apart := false }
def FnExactWordExprSaid : Prop := fnExactWordExprRow.holds Try.pinned (OpenSpec.ofChange fnExactWordExprSpec)

/-- ITS FALSE NEIGHBOUR: 'it returns false'. Refute it at one input. -/
def fnExactWordExprWrong : ChangeSpec := { name := "fnExactWordExpr", fn := fun _ => fun
  | [d] => { results := [.lit (.bool false)], args := [d] }
  | _ => none }
def FnExactWordExprWrongFalsely : Prop := fnExactWordExprRow.holds Try.pinned (OpenSpec.ofChange fnExactWordExprWrong)

/-- 'laws.FnExactLetterPlaces': WHATEVER THE INPUT: true; the input reads as it did. -/
def fnExactLetterPlacesSpec : ChangeSpec := { name := "fnExactLetterPlaces", fn := fun _ => fun
  | [d] => { results := [.lit (.bool true)], args := [d] }
  | _ => none }
def fnExactLetterPlacesRow : OpenClaim := { program := "ytdkneilgaoaajaa", sum := "e19de780a0ad3267b9483a1bc8c636fda758212bb413ac11d5a6ac1b5f40b354", func := "loop.example/regularlanguages/laws.FnExactLetterPlaces", spec := "fnExactLetterPlaces", plainKeys := false, apart := false }
def FnExactLetterPlacesSaid : Prop := fnExactLetterPlacesRow.holds Try.pinned (OpenSpec.ofChange fnExactLetterPlacesSpec)

/-- ITS FALSE NEIGHBOUR: 'it returns false'. Refute it at one input. -/
def fnExactLetterPlacesWrong : ChangeSpec := { name := "fnExactLetterPlaces", fn := fun _ => fun
  | [d] => { results := [.lit (.bool false)], args := [d] }
  | _ => none }
def FnExactLetterPlacesWrongFalsely : Prop := fnExactLetterPlacesRow.holds Try.pinned (OpenSpec.ofChange fnExactLetterPlacesWrong)

/-- 'laws.FnExactPatternsValid': WHATEVER THE INPUT: true; the input reads as it did. -/
def fnExactPatternsValidSpec : ChangeSpec := { name := "fnExactPatternsValid", fn := fun _ => fun
  | [d] => { results := [.lit (.bool true)], args := [d] }
  | _ => none }
def fnExactPatternsValidRow : OpenClaim := { program := "ytdkneilgaoaajaa", sum := "e19de780a0ad3267b9483a1bc8c636fda758212bb413ac11d5a6ac1b5f40b354", func := "loop.example/regularlanguages/laws.FnExactPatternsValid", spec := "fnExactPatternsValid", unfollowed := true, recurses := true, plainKeys := false, apart := false }
def FnExactPatternsValidSaid : Prop := fnExactPatternsValidRow.holds Try.pinned (OpenSpec.ofChange fnExactPatternsValidSpec)

/-- ITS FALSE NEIGHBOUR: 'it returns false'. Refute it at one input. -/
def fnExactPatternsValidWrong : ChangeSpec := { name := "fnExactPatternsValid", fn := fun _ => fun
  | [d] => { results := [.lit (.bool false)], args := [d] }
  | _ => none }
def FnExactPatternsValidWrongFalsely : Prop := fnExactPatternsValidRow.holds Try.pinned (OpenSpec.ofChange fnExactPatternsValidWrong)

/-- 'laws.FnExactCountWords': WHATEVER THE INPUT: true; the input reads as it did. -/
def fnExactCountWordsSpec : ChangeSpec := { name := "fnExactCountWords", fn := fun _ => fun
  | [d1, d2] => { results := [.lit (.bool true)], args := [d1, d2] }
  | _ => none }
def fnExactCountWordsRow : OpenClaim := { program := "ytdkneilgaoaajaa", sum := "e19de780a0ad3267b9483a1bc8c636fda758212bb413ac11d5a6ac1b5f40b354", func := "loop.example/regularlanguages/laws.FnExactCountWords", spec := "fnExactCountWords", unfollowed := true, recurses := true, plainKeys := false, apart := false }
def FnExactCountWordsSaid : Prop := fnExactCountWordsRow.holds Try.pinned (OpenSpec.ofChange fnExactCountWordsSpec)

/-- ITS FALSE NEIGHBOUR: 'it returns false'. Refute it at one input. -/
def fnExactCountWordsWrong : ChangeSpec := { name := "fnExactCountWords", fn := fun _ => fun
  | [d1, d2] => { results := [.lit (.bool false)], args := [d1, d2] }
  | _ => none }
def FnExactCountWordsWrongFalsely : Prop := fnExactCountWordsRow.holds Try.pinned (OpenSpec.ofChange fnExactCountWordsWrong)

/-- 'laws.FnExactFirstOf': WHATEVER THE INPUT: true; the input reads as it did. -/
def fnExactFirstOfSpec : ChangeSpec := { name := "fnExactFirstOf", fn := fun _ => fun
  | [d] => { results := [.lit (.bool true)], args := [d] }
  | _ => none }
def fnExactFirstOfRow : OpenClaim := { program := "ytdkneilgaoaajaa", sum := "e19de780a0ad3267b9483a1bc8c636fda758212bb413ac11d5a6ac1b5f40b354", func := "loop.example/regularlanguages/laws.FnExactFirstOf", spec := "fnExactFirstOf", unfollowed := true, recurses := true, plainKeys := false, apart := false }
def FnExactFirstOfSaid : Prop := fnExactFirstOfRow.holds Try.pinned (OpenSpec.ofChange fnExactFirstOfSpec)

/-- ITS FALSE NEIGHBOUR: 'it returns false'. Refute it at one input. -/
def fnExactFirstOfWrong : ChangeSpec := { name := "fnExactFirstOf", fn := fun _ => fun
  | [d] => { results := [.lit (.bool false)], args := [d] }
  | _ => none }
def FnExactFirstOfWrongFalsely : Prop := fnExactFirstOfRow.holds Try.pinned (OpenSpec.ofChange fnExactFirstOfWrong)

/-- 'laws.FnDeriveWord': WHATEVER THE INPUT: true; the input reads as it did. -/
def fnDeriveWordSpec : ChangeSpec := { name := "fnDeriveWord", fn := fun _ => fun
  | [d] => { results := [.lit (.bool true)], args := [d] }
  | _ => none }
def fnDeriveWordRow : OpenClaim := { program := "ytdkneilgaoaajaa", sum := "e19de780a0ad3267b9483a1bc8c636fda758212bb413ac11d5a6ac1b5f40b354", func := "loop.example/regularlanguages/laws.FnDeriveWord", spec := "fnDeriveWord", unfollowed := true, recurses := true, plainKeys := false, apart := false }
def FnDeriveWordSaid : Prop := fnDeriveWordRow.holds Try.pinned (OpenSpec.ofChange fnDeriveWordSpec)

/-- ITS FALSE NEIGHBOUR: 'it returns false'. Refute it at one input. -/
def fnDeriveWordWrong : ChangeSpec := { name := "fnDeriveWord", fn := fun _ => fun
  | [d] => { results := [.lit (.bool false)], args := [d] }
  | _ => none }
def FnDeriveWordWrongFalsely : Prop := fnDeriveWordRow.holds Try.pinned (OpenSpec.ofChange fnDeriveWordWrong)

/-- 'laws.FnExactWordsExpr': WHATEVER THE INPUT: true; the input reads as it did. -/
def fnExactWordsExprSpec : ChangeSpec := { name := "fnExactWordsExpr", fn := fun _ => fun
  | [d] => { results := [.lit (.bool true)], args := [d] }
  | _ => none }
def fnExactWordsExprRow : OpenClaim := { program := "ytdkneilgaoaajaa", sum := "e19de780a0ad3267b9483a1bc8c636fda758212bb413ac11d5a6ac1b5f40b354", func := "loop.example/regularlanguages/laws.FnExactWordsExpr", spec := "fnExactWordsExpr", unfollowed := true, recurses := true, plainKeys := false, apart := false }
def FnExactWordsExprSaid : Prop := fnExactWordsExprRow.holds Try.pinned (OpenSpec.ofChange fnExactWordsExprSpec)

/-- ITS FALSE NEIGHBOUR: 'it returns false'. Refute it at one input. -/
def fnExactWordsExprWrong : ChangeSpec := { name := "fnExactWordsExpr", fn := fun _ => fun
  | [d] => { results := [.lit (.bool false)], args := [d] }
  | _ => none }
def FnExactWordsExprWrongFalsely : Prop := fnExactWordsExprRow.holds Try.pinned (OpenSpec.ofChange fnExactWordsExprWrong)

/-- 'laws.FnLetterPlaces': WHATEVER THE INPUT: true; the input reads as it did. -/
def fnLetterPlacesSpec : ChangeSpec := { name := "fnLetterPlaces", fn := fun _ => fun
  | [d] => { results := [.lit (.bool true)], args := [d] }
  | _ => none }
def fnLetterPlacesRow : OpenClaim := { program := "ytdkneilgaoaajaa", sum := "e19de780a0ad3267b9483a1bc8c636fda758212bb413ac11d5a6ac1b5f40b354", func := "loop.example/regularlanguages/laws.FnLetterPlaces", spec := "fnLetterPlaces", recurses := true, plainKeys := false, apart := false }
def FnLetterPlacesSaid : Prop := fnLetterPlacesRow.holds Try.pinned (OpenSpec.ofChange fnLetterPlacesSpec)

/-- ITS FALSE NEIGHBOUR: 'it returns false'. Refute it at one input. -/
def fnLetterPlacesWrong : ChangeSpec := { name := "fnLetterPlaces", fn := fun _ => fun
  | [d] => { results := [.lit (.bool false)], args := [d] }
  | _ => none }
def FnLetterPlacesWrongFalsely : Prop := fnLetterPlacesRow.holds Try.pinned (OpenSpec.ofChange fnLetterPlacesWrong)

/-- 'laws.FnExactFindFirst': WHATEVER THE INPUT: true; the input reads as it did. -/
def fnExactFindFirstSpec : ChangeSpec := { name := "fnExactFindFirst", fn := fun _ => fun
  | [d1, d2, d3] => { results := [.lit (.bool true)], args := [d1, d2, d3] }
  | _ => none }
def fnExactFindFirstRow : OpenClaim := { program := "ytdkneilgaoaajaa", sum := "e19de780a0ad3267b9483a1bc8c636fda758212bb413ac11d5a6ac1b5f40b354", func := "loop.example/regularlanguages/laws.FnExactFindFirst", spec := "fnExactFindFirst", unfollowed := true, recurses := true, plainKeys := false, apart := false }
def FnExactFindFirstSaid : Prop := fnExactFindFirstRow.holds Try.pinned (OpenSpec.ofChange fnExactFindFirstSpec)

/-- ITS FALSE NEIGHBOUR: 'it returns false'. Refute it at one input. -/
def fnExactFindFirstWrong : ChangeSpec := { name := "fnExactFindFirst", fn := fun _ => fun
  | [d1, d2, d3] => { results := [.lit (.bool false)], args := [d1, d2, d3] }
  | _ => none }
def FnExactFindFirstWrongFalsely : Prop := fnExactFindFirstRow.holds Try.pinned (OpenSpec.ofChange fnExactFindFirstWrong)

/-- 'laws.FnExactFirstExtra': WHATEVER THE INPUT: true; the input reads as it did. -/
def fnExactFirstExtraSpec : ChangeSpec := { name := "fnExactFirstExtra", fn := fun _ => fun
  | [d1, d2] => { results := [.lit (.bool true)], args := [d1, d2] }
  | _ => none }
def fnExactFirstExtraRow : OpenClaim := { program := "ytdkneilgaoaajaa", sum := "e19de780a0ad3267b9483a1bc8c636fda758212bb413ac11d5a6ac1b5f40b354", func := "loop.example/regularlanguages/laws.FnExactFirstExtra", spec := "fnExactFirstExtra", unfollowed := true, recurses := true, plainKeys := false, apart := false }
def FnExactFirstExtraSaid : Prop := fnExactFirstExtraRow.holds Try.pinned (OpenSpec.ofChange fnExactFirstExtraSpec)

/-- ITS FALSE NEIGHBOUR: 'it returns false'. Refute it at one input. -/
def fnExactFirstExtraWrong : ChangeSpec := { name := "fnExactFirstExtra", fn := fun _ => fun
  | [d1, d2] => { results := [.lit (.bool false)], args := [d1, d2] }
  | _ => none }
def FnExactFirstExtraWrongFalsely : Prop := fnExactFirstExtraRow.holds Try.pinned (OpenSpec.ofChange fnExactFirstExtraWrong)

/- THE SECOND FORM. 'bulk': how many values and letters a reading holds, each counted each time it is reached (what is shared counts as often as it is met; a slice's spare places count too). A statement '..UptoSaid' is the law's where the arguments, and the package variables that the reading takes, are together of bulk at most 1048576: NARROWER than '..Said'. Prove '..Said' where nothing that the law and all that it calls make is longer than what came in: it says more and counts as full. Else prove '..UptoSaid'. A law counts once. -/
mutual
def uptoBulk {H : Type} : DataW H → Nat
  | .lit (.string bytes) => bytes.length + 1
  | .lit _ => 1
  | .nil => 1
  | .ptr d => uptoBulk d + 1
  | .slice elems spare => uptoBulkAll elems + uptoBulkAll spare + 1
  | .agg parts => uptoBulkAll parts + 1
  | .iface _ d => uptoBulk d + 1
  | .map entries => uptoBulkEntries entries + 1
  | .held _ => 1
def uptoBulkAll {H : Type} : List (DataW H) → Nat
  | [] => 0
  | d :: r => uptoBulk d + uptoBulkAll r
def uptoBulkEntries {H : Type} : List (Lit × DataW H) → Nat
  | [] => 0
  | x :: r => uptoBulkEntry x + uptoBulkEntries r
def uptoBulkEntry {H : Type} : Lit × DataW H → Nat
  | (.string bytes, d) => bytes.length + uptoBulk d + 1
  | (_, d) => uptoBulk d + 1
 end
def uptoSmall : (H : Type) → List (DataW H) → Bool := fun _ ds => decide (uptoBulkAll ds ≤ 1048576)
def OpenSpec.upto (s : _root_.Go.ChangeSpec) : _root_.Go.OpenSpec := { _root_.Go.OpenSpec.ofChange s with cond := some uptoSmall }

/-- 'laws.FnExactTextValid', WHERE WHAT IT READS IS OF BULK AT MOST 1048576: true; the input reads as it did. -/
def fnExactTextValidUptoRow : OpenClaim := { program := "ytdkneilgaoaajaa", sum := "e19de780a0ad3267b9483a1bc8c636fda758212bb413ac11d5a6ac1b5f40b354", func := "loop.example/regularlanguages/laws.FnExactTextValid", spec := "fnExactTextValid", plainKeys := false, apart := false, narrowed := true }
def FnExactTextValidUptoSaid : Prop := fnExactTextValidUptoRow.holds Try.pinned (OpenSpec.upto fnExactTextValidSpec)

/-- 'laws.FnTextValid', WHERE WHAT IT READS IS OF BULK AT MOST 1048576: true; the input reads as it did. -/
def fnTextValidUptoRow : OpenClaim := { program := "ytdkneilgaoaajaa", sum := "e19de780a0ad3267b9483a1bc8c636fda758212bb413ac11d5a6ac1b5f40b354", func := "loop.example/regularlanguages/laws.FnTextValid", spec := "fnTextValid", plainKeys := false, apart := false, narrowed := true }
def FnTextValidUptoSaid : Prop := fnTextValidUptoRow.holds Try.pinned (OpenSpec.upto fnTextValidSpec)

/-- 'laws.FnExactWordExpr', WHERE WHAT IT READS IS OF BULK AT MOST 1048576: true; the input reads as it did. -/
def fnExactWordExprUptoRow : OpenClaim := { program := "ytdkneilgaoaajaa", sum := "e19de780a0ad3267b9483a1bc8c636fda758212bb413ac11d5a6ac1b5f40b354", func := "loop.example/regularlanguages/laws.FnExactWordExpr", spec := "fnExactWordExpr", plainKeys := false, apart := false, narrowed := true }
def FnExactWordExprUptoSaid : Prop := fnExactWordExprUptoRow.holds Try.pinned (OpenSpec.upto fnExactWordExprSpec)

/-- 'laws.FnExactLetterPlaces', WHERE WHAT IT READS IS OF BULK AT MOST 1048576: true; the input reads as it did. -/
def fnExactLetterPlacesUptoRow : OpenClaim := { program := "ytdkneilgaoaajaa", sum := "e19de780a0ad3267b9483a1bc8c636fda758212bb413ac11d5a6ac1b5f40b354", func := "loop.example/regularlanguages/laws.FnExactLetterPlaces", spec := "fnExactLetterPlaces", plainKeys := false, apart := false, narrowed := true }
def FnExactLetterPlacesUptoSaid : Prop := fnExactLetterPlacesUptoRow.holds Try.pinned (OpenSpec.upto fnExactLetterPlacesSpec)

/-- 'laws.FnExactPatternsValid', WHERE WHAT IT READS IS OF BULK AT MOST 1048576: true; the input reads as it did. -/
def fnExactPatternsValidUptoRow : OpenClaim := { program := "ytdkneilgaoaajaa", sum := "e19de780a0ad3267b9483a1bc8c636fda758212bb413ac11d5a6ac1b5f40b354", func := "loop.example/regularlanguages/laws.FnExactPatternsValid", spec := "fnExactPatternsValid", unfollowed := true, recurses := true, plainKeys := false, apart := false, narrowed := true }
def FnExactPatternsValidUptoSaid : Prop := fnExactPatternsValidUptoRow.holds Try.pinned (OpenSpec.upto fnExactPatternsValidSpec)

/-- 'laws.FnExactCountWords', WHERE WHAT IT READS IS OF BULK AT MOST 1048576: true; the input reads as it did. -/
def fnExactCountWordsUptoRow : OpenClaim := { program := "ytdkneilgaoaajaa", sum := "e19de780a0ad3267b9483a1bc8c636fda758212bb413ac11d5a6ac1b5f40b354", func := "loop.example/regularlanguages/laws.FnExactCountWords", spec := "fnExactCountWords", unfollowed := true, recurses := true, plainKeys := false, apart := false, narrowed := true }
def FnExactCountWordsUptoSaid : Prop := fnExactCountWordsUptoRow.holds Try.pinned (OpenSpec.upto fnExactCountWordsSpec)

/-- 'laws.FnExactFirstOf', WHERE WHAT IT READS IS OF BULK AT MOST 1048576: true; the input reads as it did. -/
def fnExactFirstOfUptoRow : OpenClaim := { program := "ytdkneilgaoaajaa", sum := "e19de780a0ad3267b9483a1bc8c636fda758212bb413ac11d5a6ac1b5f40b354", func := "loop.example/regularlanguages/laws.FnExactFirstOf", spec := "fnExactFirstOf", unfollowed := true, recurses := true, plainKeys := false, apart := false, narrowed := true }
def FnExactFirstOfUptoSaid : Prop := fnExactFirstOfUptoRow.holds Try.pinned (OpenSpec.upto fnExactFirstOfSpec)

/-- 'laws.FnDeriveWord', WHERE WHAT IT READS IS OF BULK AT MOST 1048576: true; the input reads as it did. -/
def fnDeriveWordUptoRow : OpenClaim := { program := "ytdkneilgaoaajaa", sum := "e19de780a0ad3267b9483a1bc8c636fda758212bb413ac11d5a6ac1b5f40b354", func := "loop.example/regularlanguages/laws.FnDeriveWord", spec := "fnDeriveWord", unfollowed := true, recurses := true, plainKeys := false, apart := false, narrowed := true }
def FnDeriveWordUptoSaid : Prop := fnDeriveWordUptoRow.holds Try.pinned (OpenSpec.upto fnDeriveWordSpec)

/-- 'laws.FnExactWordsExpr', WHERE WHAT IT READS IS OF BULK AT MOST 1048576: true; the input reads as it did. -/
def fnExactWordsExprUptoRow : OpenClaim := { program := "ytdkneilgaoaajaa", sum := "e19de780a0ad3267b9483a1bc8c636fda758212bb413ac11d5a6ac1b5f40b354", func := "loop.example/regularlanguages/laws.FnExactWordsExpr", spec := "fnExactWordsExpr", unfollowed := true, recurses := true, plainKeys := false, apart := false, narrowed := true }
def FnExactWordsExprUptoSaid : Prop := fnExactWordsExprUptoRow.holds Try.pinned (OpenSpec.upto fnExactWordsExprSpec)

/-- 'laws.FnLetterPlaces', WHERE WHAT IT READS IS OF BULK AT MOST 1048576: true; the input reads as it did. -/
def fnLetterPlacesUptoRow : OpenClaim := { program := "ytdkneilgaoaajaa", sum := "e19de780a0ad3267b9483a1bc8c636fda758212bb413ac11d5a6ac1b5f40b354", func := "loop.example/regularlanguages/laws.FnLetterPlaces", spec := "fnLetterPlaces", recurses := true, plainKeys := false, apart := false, narrowed := true }
def FnLetterPlacesUptoSaid : Prop := fnLetterPlacesUptoRow.holds Try.pinned (OpenSpec.upto fnLetterPlacesSpec)

/-- 'laws.FnExactFindFirst', WHERE WHAT IT READS IS OF BULK AT MOST 1048576: true; the input reads as it did. -/
def fnExactFindFirstUptoRow : OpenClaim := { program := "ytdkneilgaoaajaa", sum := "e19de780a0ad3267b9483a1bc8c636fda758212bb413ac11d5a6ac1b5f40b354", func := "loop.example/regularlanguages/laws.FnExactFindFirst", spec := "fnExactFindFirst", unfollowed := true, recurses := true, plainKeys := false, apart := false, narrowed := true }
def FnExactFindFirstUptoSaid : Prop := fnExactFindFirstUptoRow.holds Try.pinned (OpenSpec.upto fnExactFindFirstSpec)

/-- 'laws.FnExactFirstExtra', WHERE WHAT IT READS IS OF BULK AT MOST 1048576: true; the input reads as it did. -/
def fnExactFirstExtraUptoRow : OpenClaim := { program := "ytdkneilgaoaajaa", sum := "e19de780a0ad3267b9483a1bc8c636fda758212bb413ac11d5a6ac1b5f40b354", func := "loop.example/regularlanguages/laws.FnExactFirstExtra", spec := "fnExactFirstExtra", unfollowed := true, recurses := true, plainKeys := false, apart := false, narrowed := true }
def FnExactFirstExtraUptoSaid : Prop := fnExactFirstExtraUptoRow.holds Try.pinned (OpenSpec.upto fnExactFirstExtraSpec)

end Rows
end Go.Proofs.Ytdkneilgaoaajaa
