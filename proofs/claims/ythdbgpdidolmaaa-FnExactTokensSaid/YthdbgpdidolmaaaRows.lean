/-
  No cell of these rows narrows 'for every input' (looked for: loops, veiled, ifaces, maps, wideKeys, modest, calm, conditions, laid).
  DERIVED. THE GIVEN ROWS OF THIS SEAT. 12 by the template 'for every input the law returns true; each argument reads behind the call as it read before'; 0 by the template 'total and deterministic' (their statements: YthdbgpdidolmaaaTotals.lean).
  GIVEN WITH THE SEED: the statements are not yours to turn. If you find one false, say at which input.
  Laid BY PROGRAM, IN A SANDBOX (cutbox-rows.mjs): the forced cells as the released guide's own fill.sh prints them over the translation 64777110fe42254e… (all of the seat's roots in one cut). By AI agents, Wed Nov 11 2026. No macro, syntax, notation, axiom, sorry.
-/
import Derived.Test.YthdbgpdidolmaaaChecked
import GoSem.Claim
import GoSem.ClaimJoined
import GoSem.ClaimMapViews
import Derived.JoinedTies
import Derived.KernelRfl
namespace Go.Proofs.Ythdbgpdidolmaaa
/- THE CELL 'sum', in the pinned program and in every row, IS THE sha256 OF THE DUMP (.gsa) THAT YthdbgpdidolmaaaProg.lean LOADS. Nothing in Lean hashes anything: it is a label: what it is worth is what the hold of that sum in a sandbox is worth. -/
noncomputable def Try.pinned : Pinned := { name := "ythdbgpdidolmaaa", sum := "64777110fe42254ef2c4553dca8c98d0796a747c129a61c108679e7eb2ebd344", checked := Try.checked }
namespace Rows
def none {H : Type} : Left H := { results := [], args := [] }

/-- 'laws.FnExactPatternsValid': WHATEVER THE INPUT: true; the input reads as it did. -/
def fnExactPatternsValidSpec : ChangeSpec := { name := "fnExactPatternsValid", fn := fun _ => fun
  | [d] => { results := [.lit (.bool true)], args := [d] }
  | _ => none }
def fnExactPatternsValidRow : OpenClaim := { program := "ythdbgpdidolmaaa", sum := "64777110fe42254ef2c4553dca8c98d0796a747c129a61c108679e7eb2ebd344", func := "loop.example/regularlanguages/laws.FnExactPatternsValid", spec := "fnExactPatternsValid", unfollowed := true, recurses := true, plainKeys := false, apart := false }
def FnExactPatternsValidSaid : Prop := fnExactPatternsValidRow.holds Try.pinned (OpenSpec.ofChange fnExactPatternsValidSpec)

/-- ITS FALSE NEIGHBOUR: 'it returns false'. Refute it at one input. -/
def fnExactPatternsValidWrong : ChangeSpec := { name := "fnExactPatternsValid", fn := fun _ => fun
  | [d] => { results := [.lit (.bool false)], args := [d] }
  | _ => none }
def FnExactPatternsValidWrongFalsely : Prop := fnExactPatternsValidRow.holds Try.pinned (OpenSpec.ofChange fnExactPatternsValidWrong)

/-- 'laws.FnExactFirstOf': WHATEVER THE INPUT: true; the input reads as it did. -/
def fnExactFirstOfSpec : ChangeSpec := { name := "fnExactFirstOf", fn := fun _ => fun
  | [d] => { results := [.lit (.bool true)], args := [d] }
  | _ => none }
def fnExactFirstOfRow : OpenClaim := { program := "ythdbgpdidolmaaa", sum := "64777110fe42254ef2c4553dca8c98d0796a747c129a61c108679e7eb2ebd344", func := "loop.example/regularlanguages/laws.FnExactFirstOf", spec := "fnExactFirstOf", unfollowed := true, recurses := true, plainKeys := false, apart := false }
def FnExactFirstOfSaid : Prop := fnExactFirstOfRow.holds Try.pinned (OpenSpec.ofChange fnExactFirstOfSpec)

/-- ITS FALSE NEIGHBOUR: 'it returns false'. Refute it at one input. -/
def fnExactFirstOfWrong : ChangeSpec := { name := "fnExactFirstOf", fn := fun _ => fun
  | [d] => { results := [.lit (.bool false)], args := [d] }
  | _ => none }
def FnExactFirstOfWrongFalsely : Prop := fnExactFirstOfRow.holds Try.pinned (OpenSpec.ofChange fnExactFirstOfWrong)

/-- 'laws.FnExactFirstExtra': WHATEVER THE INPUT: true; the input reads as it did. -/
def fnExactFirstExtraSpec : ChangeSpec := { name := "fnExactFirstExtra", fn := fun _ => fun
  | [d1, d2] => { results := [.lit (.bool true)], args := [d1, d2] }
  | _ => none }
def fnExactFirstExtraRow : OpenClaim := { program := "ythdbgpdidolmaaa", sum := "64777110fe42254ef2c4553dca8c98d0796a747c129a61c108679e7eb2ebd344", func := "loop.example/regularlanguages/laws.FnExactFirstExtra", spec := "fnExactFirstExtra", unfollowed := true, recurses := true, plainKeys := false, apart := false }
def FnExactFirstExtraSaid : Prop := fnExactFirstExtraRow.holds Try.pinned (OpenSpec.ofChange fnExactFirstExtraSpec)

/-- ITS FALSE NEIGHBOUR: 'it returns false'. Refute it at one input. -/
def fnExactFirstExtraWrong : ChangeSpec := { name := "fnExactFirstExtra", fn := fun _ => fun
  | [d1, d2] => { results := [.lit (.bool false)], args := [d1, d2] }
  | _ => none }
def FnExactFirstExtraWrongFalsely : Prop := fnExactFirstExtraRow.holds Try.pinned (OpenSpec.ofChange fnExactFirstExtraWrong)

/-- 'laws.FnExactWordNumber': WHATEVER THE INPUT: true; the input reads as it did. -/
def fnExactWordNumberSpec : ChangeSpec := { name := "fnExactWordNumber", fn := fun _ => fun
  | [d1, d2] => { results := [.lit (.bool true)], args := [d1, d2] }
  | _ => none }
def fnExactWordNumberRow : OpenClaim := { program := "ythdbgpdidolmaaa", sum := "64777110fe42254ef2c4553dca8c98d0796a747c129a61c108679e7eb2ebd344", func := "loop.example/regularlanguages/laws.FnExactWordNumber", spec := "fnExactWordNumber", unfollowed := true, recurses := true, plainKeys := false, apart := false }
def FnExactWordNumberSaid : Prop := fnExactWordNumberRow.holds Try.pinned (OpenSpec.ofChange fnExactWordNumberSpec)

/-- ITS FALSE NEIGHBOUR: 'it returns false'. Refute it at one input. -/
def fnExactWordNumberWrong : ChangeSpec := { name := "fnExactWordNumber", fn := fun _ => fun
  | [d1, d2] => { results := [.lit (.bool false)], args := [d1, d2] }
  | _ => none }
def FnExactWordNumberWrongFalsely : Prop := fnExactWordNumberRow.holds Try.pinned (OpenSpec.ofChange fnExactWordNumberWrong)

/-- 'laws.FnExactFirstDiffer': WHATEVER THE INPUT: true; the input reads as it did. -/
def fnExactFirstDifferSpec : ChangeSpec := { name := "fnExactFirstDiffer", fn := fun _ => fun
  | [d1, d2] => { results := [.lit (.bool true)], args := [d1, d2] }
  | _ => none }
def fnExactFirstDifferRow : OpenClaim := { program := "ythdbgpdidolmaaa", sum := "64777110fe42254ef2c4553dca8c98d0796a747c129a61c108679e7eb2ebd344", func := "loop.example/regularlanguages/laws.FnExactFirstDiffer", spec := "fnExactFirstDiffer", unfollowed := true, recurses := true, plainKeys := false, apart := false }
def FnExactFirstDifferSaid : Prop := fnExactFirstDifferRow.holds Try.pinned (OpenSpec.ofChange fnExactFirstDifferSpec)

/-- ITS FALSE NEIGHBOUR: 'it returns false'. Refute it at one input. -/
def fnExactFirstDifferWrong : ChangeSpec := { name := "fnExactFirstDiffer", fn := fun _ => fun
  | [d1, d2] => { results := [.lit (.bool false)], args := [d1, d2] }
  | _ => none }
def FnExactFirstDifferWrongFalsely : Prop := fnExactFirstDifferRow.holds Try.pinned (OpenSpec.ofChange fnExactFirstDifferWrong)

/-- 'laws.FnExactSameLanguage': WHATEVER THE INPUT: true; the input reads as it did. -/
def fnExactSameLanguageSpec : ChangeSpec := { name := "fnExactSameLanguage", fn := fun _ => fun
  | [d1, d2] => { results := [.lit (.bool true)], args := [d1, d2] }
  | _ => none }
def fnExactSameLanguageRow : OpenClaim := { program := "ythdbgpdidolmaaa", sum := "64777110fe42254ef2c4553dca8c98d0796a747c129a61c108679e7eb2ebd344", func := "loop.example/regularlanguages/laws.FnExactSameLanguage", spec := "fnExactSameLanguage", unfollowed := true, recurses := true, plainKeys := false, apart := false }
def FnExactSameLanguageSaid : Prop := fnExactSameLanguageRow.holds Try.pinned (OpenSpec.ofChange fnExactSameLanguageSpec)

/-- ITS FALSE NEIGHBOUR: 'it returns false'. Refute it at one input. -/
def fnExactSameLanguageWrong : ChangeSpec := { name := "fnExactSameLanguage", fn := fun _ => fun
  | [d1, d2] => { results := [.lit (.bool false)], args := [d1, d2] }
  | _ => none }
def FnExactSameLanguageWrongFalsely : Prop := fnExactSameLanguageRow.holds Try.pinned (OpenSpec.ofChange fnExactSameLanguageWrong)

/-- 'laws.FnExactTurnNfa': WHATEVER THE INPUT: true; the input reads as it did. -/
def fnExactTurnNfaSpec : ChangeSpec := { name := "fnExactTurnNfa", fn := fun _ => fun
  | [d] => { results := [.lit (.bool true)], args := [d] }
  | _ => none }
def fnExactTurnNfaRow : OpenClaim := { program := "ythdbgpdidolmaaa", sum := "64777110fe42254ef2c4553dca8c98d0796a747c129a61c108679e7eb2ebd344", func := "loop.example/regularlanguages/laws.FnExactTurnNfa", spec := "fnExactTurnNfa", unfollowed := true, recurses := true, plainKeys := false, apart := false }
def FnExactTurnNfaSaid : Prop := fnExactTurnNfaRow.holds Try.pinned (OpenSpec.ofChange fnExactTurnNfaSpec)

/-- ITS FALSE NEIGHBOUR: 'it returns false'. Refute it at one input. -/
def fnExactTurnNfaWrong : ChangeSpec := { name := "fnExactTurnNfa", fn := fun _ => fun
  | [d] => { results := [.lit (.bool false)], args := [d] }
  | _ => none }
def FnExactTurnNfaWrongFalsely : Prop := fnExactTurnNfaRow.holds Try.pinned (OpenSpec.ofChange fnExactTurnNfaWrong)

/-- 'laws.FnExactNfaStar': WHATEVER THE INPUT: true; the input reads as it did. -/
def fnExactNfaStarSpec : ChangeSpec := { name := "fnExactNfaStar", fn := fun _ => fun
  | [d] => { results := [.lit (.bool true)], args := [d] }
  | _ => none }
def fnExactNfaStarRow : OpenClaim := { program := "ythdbgpdidolmaaa", sum := "64777110fe42254ef2c4553dca8c98d0796a747c129a61c108679e7eb2ebd344", func := "loop.example/regularlanguages/laws.FnExactNfaStar", spec := "fnExactNfaStar", unfollowed := true, recurses := true, plainKeys := false, apart := false }
def FnExactNfaStarSaid : Prop := fnExactNfaStarRow.holds Try.pinned (OpenSpec.ofChange fnExactNfaStarSpec)

/-- ITS FALSE NEIGHBOUR: 'it returns false'. Refute it at one input. -/
def fnExactNfaStarWrong : ChangeSpec := { name := "fnExactNfaStar", fn := fun _ => fun
  | [d] => { results := [.lit (.bool false)], args := [d] }
  | _ => none }
def FnExactNfaStarWrongFalsely : Prop := fnExactNfaStarRow.holds Try.pinned (OpenSpec.ofChange fnExactNfaStarWrong)

/-- 'laws.FnExactNextToken': WHATEVER THE INPUT: true; the input reads as it did. -/
def fnExactNextTokenSpec : ChangeSpec := { name := "fnExactNextToken", fn := fun _ => fun
  | [d1, d2, d3] => { results := [.lit (.bool true)], args := [d1, d2, d3] }
  | _ => none }
def fnExactNextTokenRow : OpenClaim := { program := "ythdbgpdidolmaaa", sum := "64777110fe42254ef2c4553dca8c98d0796a747c129a61c108679e7eb2ebd344", func := "loop.example/regularlanguages/laws.FnExactNextToken", spec := "fnExactNextToken", unfollowed := true, recurses := true, plainKeys := false, apart := false }
def FnExactNextTokenSaid : Prop := fnExactNextTokenRow.holds Try.pinned (OpenSpec.ofChange fnExactNextTokenSpec)

/-- ITS FALSE NEIGHBOUR: 'it returns false'. Refute it at one input. -/
def fnExactNextTokenWrong : ChangeSpec := { name := "fnExactNextToken", fn := fun _ => fun
  | [d1, d2, d3] => { results := [.lit (.bool false)], args := [d1, d2, d3] }
  | _ => none }
def FnExactNextTokenWrongFalsely : Prop := fnExactNextTokenRow.holds Try.pinned (OpenSpec.ofChange fnExactNextTokenWrong)

/-- 'laws.FnExactNfaJoin': WHATEVER THE INPUT: true; the input reads as it did. -/
def fnExactNfaJoinSpec : ChangeSpec := { name := "fnExactNfaJoin", fn := fun _ => fun
  | [d1, d2] => { results := [.lit (.bool true)], args := [d1, d2] }
  | _ => none }
def fnExactNfaJoinRow : OpenClaim := { program := "ythdbgpdidolmaaa", sum := "64777110fe42254ef2c4553dca8c98d0796a747c129a61c108679e7eb2ebd344", func := "loop.example/regularlanguages/laws.FnExactNfaJoin", spec := "fnExactNfaJoin", unfollowed := true, recurses := true, plainKeys := false, apart := false }
def FnExactNfaJoinSaid : Prop := fnExactNfaJoinRow.holds Try.pinned (OpenSpec.ofChange fnExactNfaJoinSpec)

/-- ITS FALSE NEIGHBOUR: 'it returns false'. Refute it at one input. -/
def fnExactNfaJoinWrong : ChangeSpec := { name := "fnExactNfaJoin", fn := fun _ => fun
  | [d1, d2] => { results := [.lit (.bool false)], args := [d1, d2] }
  | _ => none }
def FnExactNfaJoinWrongFalsely : Prop := fnExactNfaJoinRow.holds Try.pinned (OpenSpec.ofChange fnExactNfaJoinWrong)

/-- 'laws.FnExactNfaOf': WHATEVER THE INPUT: true; the input reads as it did. -/
def fnExactNfaOfSpec : ChangeSpec := { name := "fnExactNfaOf", fn := fun _ => fun
  | [d] => { results := [.lit (.bool true)], args := [d] }
  | _ => none }
def fnExactNfaOfRow : OpenClaim := { program := "ythdbgpdidolmaaa", sum := "64777110fe42254ef2c4553dca8c98d0796a747c129a61c108679e7eb2ebd344", func := "loop.example/regularlanguages/laws.FnExactNfaOf", spec := "fnExactNfaOf", unfollowed := true, recurses := true, plainKeys := false, apart := false }
def FnExactNfaOfSaid : Prop := fnExactNfaOfRow.holds Try.pinned (OpenSpec.ofChange fnExactNfaOfSpec)

/-- ITS FALSE NEIGHBOUR: 'it returns false'. Refute it at one input. -/
def fnExactNfaOfWrong : ChangeSpec := { name := "fnExactNfaOf", fn := fun _ => fun
  | [d] => { results := [.lit (.bool false)], args := [d] }
  | _ => none }
def FnExactNfaOfWrongFalsely : Prop := fnExactNfaOfRow.holds Try.pinned (OpenSpec.ofChange fnExactNfaOfWrong)

/-- 'laws.FnExactTokens': WHATEVER THE INPUT: true; the input reads as it did. -/
def fnExactTokensSpec : ChangeSpec := { name := "fnExactTokens", fn := fun _ => fun
  | [d1, d2] => { results := [.lit (.bool true)], args := [d1, d2] }
  | _ => none }
def fnExactTokensRow : OpenClaim := { program := "ythdbgpdidolmaaa", sum := "64777110fe42254ef2c4553dca8c98d0796a747c129a61c108679e7eb2ebd344", func := "loop.example/regularlanguages/laws.FnExactTokens", spec := "fnExactTokens", unfollowed := true, recurses := true, plainKeys := false, apart := false }
def FnExactTokensSaid : Prop := fnExactTokensRow.holds Try.pinned (OpenSpec.ofChange fnExactTokensSpec)

/-- ITS FALSE NEIGHBOUR: 'it returns false'. Refute it at one input. -/
def fnExactTokensWrong : ChangeSpec := { name := "fnExactTokens", fn := fun _ => fun
  | [d1, d2] => { results := [.lit (.bool false)], args := [d1, d2] }
  | _ => none }
def FnExactTokensWrongFalsely : Prop := fnExactTokensRow.holds Try.pinned (OpenSpec.ofChange fnExactTokensWrong)

/- THE SECOND FORM. 'bulk': how many values and letters a reading holds, each counted each time it is reached (what is shared counts as often as it is met; a slice's spare places count too). A statement '..UptoSaid' is the law's where the arguments, and the package variables that the reading takes, are together of bulk at most 1048576: NARROWER than '..Said'. Prove '..Said' where nothing that the law and all that it calls make is longer than what came in: it says more and counts as full. Else prove '..UptoSaid'. A law counts once. -/
mutual
def uptoBulk {H : Type} : DataW H → Nat
  | .lit (.string bytes) => bytes.length + 1
  | .lit _ => 1
  | .nil => 1
  | .ptr d => uptoBulk d + 1
  | .slice elems spare => uptoBulkAll elems + uptoBulkAll spare + 1
  | .agg parts => uptoBulkAll parts + 1
  | .iface _ d => uptoBulk d + 1
  | .map entries => uptoBulkEntries entries + 1
  | .held _ => 1
def uptoBulkAll {H : Type} : List (DataW H) → Nat
  | [] => 0
  | d :: r => uptoBulk d + uptoBulkAll r
def uptoBulkEntries {H : Type} : List (Lit × DataW H) → Nat
  | [] => 0
  | x :: r => uptoBulkEntry x + uptoBulkEntries r
def uptoBulkEntry {H : Type} : Lit × DataW H → Nat
  | (.string bytes, d) => bytes.length + uptoBulk d + 1
  | (_, d) => uptoBulk d + 1
 end
def uptoSmall : (H : Type) → List (DataW H) → Bool := fun _ ds => decide (uptoBulkAll ds ≤ 1048576)
def OpenSpec.upto (s : _root_.Go.ChangeSpec) : _root_.Go.OpenSpec := { _root_.Go.OpenSpec.ofChange s with cond := some uptoSmall }

/-- 'laws.FnExactPatternsValid', WHERE WHAT IT READS IS OF BULK AT MOST 1048576: true; the input reads as it did. -/
def fnExactPatternsValidUptoRow : OpenClaim := { program := "ythdbgpdidolmaaa", sum := "64777110fe42254ef2c4553dca8c98d0796a747c129a61c108679e7eb2ebd344", func := "loop.example/regularlanguages/laws.FnExactPatternsValid", spec := "fnExactPatternsValid", unfollowed := true, recurses := true, plainKeys := false, apart := false, narrowed := true }
def FnExactPatternsValidUptoSaid : Prop := fnExactPatternsValidUptoRow.holds Try.pinned (OpenSpec.upto fnExactPatternsValidSpec)

/-- 'laws.FnExactFirstOf', WHERE WHAT IT READS IS OF BULK AT MOST 1048576: true; the input reads as it did. -/
def fnExactFirstOfUptoRow : OpenClaim := { program := "ythdbgpdidolmaaa", sum := "64777110fe42254ef2c4553dca8c98d0796a747c129a61c108679e7eb2ebd344", func := "loop.example/regularlanguages/laws.FnExactFirstOf", spec := "fnExactFirstOf", unfollowed := true, recurses := true, plainKeys := false, apart := false, narrowed := true }
def FnExactFirstOfUptoSaid : Prop := fnExactFirstOfUptoRow.holds Try.pinned (OpenSpec.upto fnExactFirstOfSpec)

/-- 'laws.FnExactFirstExtra', WHERE WHAT IT READS IS OF BULK AT MOST 1048576: true; the input reads as it did. -/
def fnExactFirstExtraUptoRow : OpenClaim := { program := "ythdbgpdidolmaaa", sum := "64777110fe42254ef2c4553dca8c98d0796a747c129a61c108679e7eb2ebd344", func := "loop.example/regularlanguages/laws.FnExactFirstExtra", spec := "fnExactFirstExtra", unfollowed := true, recurses := true, plainKeys := false, apart := false, narrowed := true }
def FnExactFirstExtraUptoSaid : Prop := fnExactFirstExtraUptoRow.holds Try.pinned (OpenSpec.upto fnExactFirstExtraSpec)

/-- 'laws.FnExactWordNumber', WHERE WHAT IT READS IS OF BULK AT MOST 1048576: true; the input reads as it did. -/
def fnExactWordNumberUptoRow : OpenClaim := { program := "ythdbgpdidolmaaa", sum := "64777110fe42254ef2c4553dca8c98d0796a747c129a61c108679e7eb2ebd344", func := "loop.example/regularlanguages/laws.FnExactWordNumber", spec := "fnExactWordNumber", unfollowed := true, recurses := true, plainKeys := false, apart := false, narrowed := true }
def FnExactWordNumberUptoSaid : Prop := fnExactWordNumberUptoRow.holds Try.pinned (OpenSpec.upto fnExactWordNumberSpec)

/-- 'laws.FnExactFirstDiffer', WHERE WHAT IT READS IS OF BULK AT MOST 1048576: true; the input reads as it did. -/
def fnExactFirstDifferUptoRow : OpenClaim := { program := "ythdbgpdidolmaaa", sum := "64777110fe42254ef2c4553dca8c98d0796a747c129a61c108679e7eb2ebd344", func := "loop.example/regularlanguages/laws.FnExactFirstDiffer", spec := "fnExactFirstDiffer", unfollowed := true, recurses := true, plainKeys := false, apart := false, narrowed := true }
def FnExactFirstDifferUptoSaid : Prop := fnExactFirstDifferUptoRow.holds Try.pinned (OpenSpec.upto fnExactFirstDifferSpec)

/-- 'laws.FnExactSameLanguage', WHERE WHAT IT READS IS OF BULK AT MOST 1048576: true; the input reads as it did. -/
def fnExactSameLanguageUptoRow : OpenClaim := { program := "ythdbgpdidolmaaa", sum := "64777110fe42254ef2c4553dca8c98d0796a747c129a61c108679e7eb2ebd344", func := "loop.example/regularlanguages/laws.FnExactSameLanguage", spec := "fnExactSameLanguage", unfollowed := true, recurses := true, plainKeys := false, apart := false, narrowed := true }
def FnExactSameLanguageUptoSaid : Prop := fnExactSameLanguageUptoRow.holds Try.pinned (OpenSpec.upto fnExactSameLanguageSpec)

/-- 'laws.FnExactTurnNfa', WHERE WHAT IT READS IS OF BULK AT MOST 1048576: true; the input reads as it did. -/
def fnExactTurnNfaUptoRow : OpenClaim := { program := "ythdbgpdidolmaaa", sum := "64777110fe42254ef2c4553dca8c98d0796a747c129a61c108679e7eb2ebd344", func := "loop.example/regularlanguages/laws.FnExactTurnNfa", spec := "fnExactTurnNfa", unfollowed := true, recurses := true, plainKeys := false, apart := false, narrowed := true }
def FnExactTurnNfaUptoSaid : Prop := fnExactTurnNfaUptoRow.holds Try.pinned (OpenSpec.upto fnExactTurnNfaSpec)

/-- 'laws.FnExactNfaStar', WHERE WHAT IT READS IS OF BULK AT MOST 1048576: true; the input reads as it did. -/
def fnExactNfaStarUptoRow : OpenClaim := { program := "ythdbgpdidolmaaa", sum := "64777110fe42254ef2c4553dca8c98d0796a747c129a61c108679e7eb2ebd344", func := "loop.example/regularlanguages/laws.FnExactNfaStar", spec := "fnExactNfaStar", unfollowed := true, recurses := true, plainKeys := false, apart := false, narrowed := true }
def FnExactNfaStarUptoSaid : Prop := fnExactNfaStarUptoRow.holds Try.pinned (OpenSpec.upto fnExactNfaStarSpec)

/-- 'laws.FnExactNextToken', WHERE WHAT IT READS IS OF BULK AT MOST 1048576: true; the input reads as it did. -/
def fnExactNextTokenUptoRow : OpenClaim := { program := "ythdbgpdidolmaaa", sum := "64777110fe42254ef2c4553dca8c98d0796a747c129a61c108679e7eb2ebd344", func := "loop.example/regularlanguages/laws.FnExactNextToken", spec := "fnExactNextToken", unfollowed := true, recurses := true, plainKeys := false, apart := false, narrowed := true }
def FnExactNextTokenUptoSaid : Prop := fnExactNextTokenUptoRow.holds Try.pinned (OpenSpec.upto fnExactNextTokenSpec)

/-- 'laws.FnExactNfaJoin', WHERE WHAT IT READS IS OF BULK AT MOST 1048576: true; the input reads as it did. -/
def fnExactNfaJoinUptoRow : OpenClaim := { program := "ythdbgpdidolmaaa", sum := "64777110fe42254ef2c4553dca8c98d0796a747c129a61c108679e7eb2ebd344", func := "loop.example/regularlanguages/laws.FnExactNfaJoin", spec := "fnExactNfaJoin", unfollowed := true, recurses := true, plainKeys := false, apart := false, narrowed := true }
def FnExactNfaJoinUptoSaid : Prop := fnExactNfaJoinUptoRow.holds Try.pinned (OpenSpec.upto fnExactNfaJoinSpec)

/-- 'laws.FnExactNfaOf', WHERE WHAT IT READS IS OF BULK AT MOST 1048576: true; the input reads as it did. -/
def fnExactNfaOfUptoRow : OpenClaim := { program := "ythdbgpdidolmaaa", sum := "64777110fe42254ef2c4553dca8c98d0796a747c129a61c108679e7eb2ebd344", func := "loop.example/regularlanguages/laws.FnExactNfaOf", spec := "fnExactNfaOf", unfollowed := true, recurses := true, plainKeys := false, apart := false, narrowed := true }
def FnExactNfaOfUptoSaid : Prop := fnExactNfaOfUptoRow.holds Try.pinned (OpenSpec.upto fnExactNfaOfSpec)

/-- 'laws.FnExactTokens', WHERE WHAT IT READS IS OF BULK AT MOST 1048576: true; the input reads as it did. -/
def fnExactTokensUptoRow : OpenClaim := { program := "ythdbgpdidolmaaa", sum := "64777110fe42254ef2c4553dca8c98d0796a747c129a61c108679e7eb2ebd344", func := "loop.example/regularlanguages/laws.FnExactTokens", spec := "fnExactTokens", unfollowed := true, recurses := true, plainKeys := false, apart := false, narrowed := true }
def FnExactTokensUptoSaid : Prop := fnExactTokensUptoRow.holds Try.pinned (OpenSpec.upto fnExactTokensSpec)

end Rows
end Go.Proofs.Ythdbgpdidolmaaa
