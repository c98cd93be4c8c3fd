/-
  No cell of these rows narrows 'for every input' (looked for: loops, veiled, ifaces, maps, wideKeys, modest, calm, conditions, laid).
  DERIVED. THE GIVEN ROWS OF THIS SEAT. 11 by the template 'for every input the law returns true; each argument reads behind the call as it read before'; 0 by the template 'total and deterministic' (their statements: YtmgebneniadabaaTotals.lean).
  GIVEN WITH THE SEED: the statements are not yours to turn. If you find one false, say at which input.
  Laid BY PROGRAM, IN A SANDBOX (cutbox-rows.mjs): the forced cells as the released guide's own fill.sh prints them over the translation 2eca2052f4990808… (all of the seat's roots in one cut). By AI agents, Wed Nov 11 2026. No macro, syntax, notation, axiom, sorry.
-/
import Derived.Test.YtmgebneniadabaaChecked
import GoSem.Claim
import GoSem.ClaimJoined
import GoSem.ClaimMapViews
import Derived.JoinedTies
import Derived.KernelRfl
namespace Go.Proofs.Ytmgebneniadabaa
/- THE CELL 'sum', in the pinned program and in every row, IS THE sha256 OF THE DUMP (.gsa) THAT YtmgebneniadabaaProg.lean LOADS. Nothing in Lean hashes anything: it is a label: what it is worth is what the hold of that sum in a sandbox is worth. -/
noncomputable def Try.pinned : Pinned := { name := "ytmgebneniadabaa", sum := "2eca2052f4990808c3468f7411292bff7401371670bd35fc6a0db784b9f4c7f4", checked := Try.checked }
namespace Rows
def none {H : Type} : Left H := { results := [], args := [] }

/-- 'laws.FnExactWordNumber': WHATEVER THE INPUT: true; the input reads as it did. -/
def fnExactWordNumberSpec : ChangeSpec := { name := "fnExactWordNumber", fn := fun _ => fun
  | [d1, d2] => { results := [.lit (.bool true)], args := [d1, d2] }
  | _ => none }
def fnExactWordNumberRow : OpenClaim := { program := "ytmgebneniadabaa", sum := "2eca2052f4990808c3468f7411292bff7401371670bd35fc6a0db784b9f4c7f4", func := "loop.example/regularlanguages/laws.FnExactWordNumber", spec := "fnExactWordNumber", unfollowed := true, recurses := true, plainKeys := false, apart := false }
def FnExactWordNumberSaid : Prop := fnExactWordNumberRow.holds Try.pinned (OpenSpec.ofChange fnExactWordNumberSpec)

/-- ITS FALSE NEIGHBOUR: 'it returns false'. Refute it at one input. -/
def fnExactWordNumberWrong : ChangeSpec := { name := "fnExactWordNumber", fn := fun _ => fun
  | [d1, d2] => { results := [.lit (.bool false)], args := [d1, d2] }
  | _ => none }
def FnExactWordNumberWrongFalsely : Prop := fnExactWordNumberRow.holds Try.pinned (OpenSpec.ofChange fnExactWordNumberWrong)

/-- 'laws.FnExactFirstDiffer': WHATEVER THE INPUT: true; the input reads as it did. -/
def fnExactFirstDifferSpec : ChangeSpec := { name := "fnExactFirstDiffer", fn := fun _ => fun
  | [d1, d2] => { results := [.lit (.bool true)], args := [d1, d2] }
  | _ => none }
def fnExactFirstDifferRow : OpenClaim := { program := "ytmgebneniadabaa", sum := "2eca2052f4990808c3468f7411292bff7401371670bd35fc6a0db784b9f4c7f4", func := "loop.example/regularlanguages/laws.FnExactFirstDiffer", spec := "fnExactFirstDiffer", unfollowed := true, recurses := true, plainKeys := false, apart := false }
def FnExactFirstDifferSaid : Prop := fnExactFirstDifferRow.holds Try.pinned (OpenSpec.ofChange fnExactFirstDifferSpec)

/-- ITS FALSE NEIGHBOUR: 'it returns false'. Refute it at one input. -/
def fnExactFirstDifferWrong : ChangeSpec := { name := "fnExactFirstDiffer", fn := fun _ => fun
  | [d1, d2] => { results := [.lit (.bool false)], args := [d1, d2] }
  | _ => none }
def FnExactFirstDifferWrongFalsely : Prop := fnExactFirstDifferRow.holds Try.pinned (OpenSpec.ofChange fnExactFirstDifferWrong)

/-- 'laws.FnExactRankWord': WHATEVER THE INPUT: true; the input reads as it did. -/
def fnExactRankWordSpec : ChangeSpec := { name := "fnExactRankWord", fn := fun _ => fun
  | [d1, d2] => { results := [.lit (.bool true)], args := [d1, d2] }
  | _ => none }
def fnExactRankWordRow : OpenClaim := { program := "ytmgebneniadabaa", sum := "2eca2052f4990808c3468f7411292bff7401371670bd35fc6a0db784b9f4c7f4", func := "loop.example/regularlanguages/laws.FnExactRankWord", spec := "fnExactRankWord", unfollowed := true, recurses := true, plainKeys := false, apart := false }
def FnExactRankWordSaid : Prop := fnExactRankWordRow.holds Try.pinned (OpenSpec.ofChange fnExactRankWordSpec)

/-- ITS FALSE NEIGHBOUR: 'it returns false'. Refute it at one input. -/
def fnExactRankWordWrong : ChangeSpec := { name := "fnExactRankWord", fn := fun _ => fun
  | [d1, d2] => { results := [.lit (.bool false)], args := [d1, d2] }
  | _ => none }
def FnExactRankWordWrongFalsely : Prop := fnExactRankWordRow.holds Try.pinned (OpenSpec.ofChange fnExactRankWordWrong)

/-- 'laws.FnExactSameLanguage': WHATEVER THE INPUT: true; the input reads as it did. -/
def fnExactSameLanguageSpec : ChangeSpec := { name := "fnExactSameLanguage", fn := fun _ => fun
  | [d1, d2] => { results := [.lit (.bool true)], args := [d1, d2] }
  | _ => none }
def fnExactSameLanguageRow : OpenClaim := { program := "ytmgebneniadabaa", sum := "2eca2052f4990808c3468f7411292bff7401371670bd35fc6a0db784b9f4c7f4", func := "loop.example/regularlanguages/laws.FnExactSameLanguage", spec := "fnExactSameLanguage", unfollowed := true, recurses := true, plainKeys := false, apart := false }
def FnExactSameLanguageSaid : Prop := fnExactSameLanguageRow.holds Try.pinned (OpenSpec.ofChange fnExactSameLanguageSpec)

/-- ITS FALSE NEIGHBOUR: 'it returns false'. Refute it at one input. -/
def fnExactSameLanguageWrong : ChangeSpec := { name := "fnExactSameLanguage", fn := fun _ => fun
  | [d1, d2] => { results := [.lit (.bool false)], args := [d1, d2] }
  | _ => none }
def FnExactSameLanguageWrongFalsely : Prop := fnExactSameLanguageRow.holds Try.pinned (OpenSpec.ofChange fnExactSameLanguageWrong)

/-- 'laws.FnExactTurnNfa': WHATEVER THE INPUT: true; the input reads as it did. -/
def fnExactTurnNfaSpec : ChangeSpec := { name := "fnExactTurnNfa", fn := fun _ => fun
  | [d] => { results := [.lit (.bool true)], args := [d] }
  | _ => none }
def fnExactTurnNfaRow : OpenClaim := { program := "ytmgebneniadabaa", sum := "2eca2052f4990808c3468f7411292bff7401371670bd35fc6a0db784b9f4c7f4", func := "loop.example/regularlanguages/laws.FnExactTurnNfa", spec := "fnExactTurnNfa", unfollowed := true, recurses := true, plainKeys := false, apart := false }
def FnExactTurnNfaSaid : Prop := fnExactTurnNfaRow.holds Try.pinned (OpenSpec.ofChange fnExactTurnNfaSpec)

/-- ITS FALSE NEIGHBOUR: 'it returns false'. Refute it at one input. -/
def fnExactTurnNfaWrong : ChangeSpec := { name := "fnExactTurnNfa", fn := fun _ => fun
  | [d] => { results := [.lit (.bool false)], args := [d] }
  | _ => none }
def FnExactTurnNfaWrongFalsely : Prop := fnExactTurnNfaRow.holds Try.pinned (OpenSpec.ofChange fnExactTurnNfaWrong)

/-- 'laws.FnExactReplaceAll': WHATEVER THE INPUT: true; the input reads as it did. -/
def fnExactReplaceAllSpec : ChangeSpec := { name := "fnExactReplaceAll", fn := fun _ => fun
  | [d1, d2, d3] => { results := [.lit (.bool true)], args := [d1, d2, d3] }
  | _ => none }
def fnExactReplaceAllRow : OpenClaim := { program := "ytmgebneniadabaa", sum := "2eca2052f4990808c3468f7411292bff7401371670bd35fc6a0db784b9f4c7f4", func := "loop.example/regularlanguages/laws.FnExactReplaceAll", spec := "fnExactReplaceAll", unfollowed := true, recurses := true, plainKeys := false, apart := false }
def FnExactReplaceAllSaid : Prop := fnExactReplaceAllRow.holds Try.pinned (OpenSpec.ofChange fnExactReplaceAllSpec)

/-- ITS FALSE NEIGHBOUR: 'it returns false'. Refute it at one input. -/
def fnExactReplaceAllWrong : ChangeSpec := { name := "fnExactReplaceAll", fn := fun _ => fun
  | [d1, d2, d3] => { results := [.lit (.bool false)], args := [d1, d2, d3] }
  | _ => none }
def FnExactReplaceAllWrongFalsely : Prop := fnExactReplaceAllRow.holds Try.pinned (OpenSpec.ofChange fnExactReplaceAllWrong)

/-- 'laws.FnExactUsefulStates': WHATEVER THE INPUT: true; the input reads as it did. -/
def fnExactUsefulStatesSpec : ChangeSpec := { name := "fnExactUsefulStates", fn := fun _ => fun
  | [d] => { results := [.lit (.bool true)], args := [d] }
  | _ => none }
def fnExactUsefulStatesRow : OpenClaim := { program := "ytmgebneniadabaa", sum := "2eca2052f4990808c3468f7411292bff7401371670bd35fc6a0db784b9f4c7f4", func := "loop.example/regularlanguages/laws.FnExactUsefulStates", spec := "fnExactUsefulStates", unfollowed := true, recurses := true, plainKeys := false, apart := false }
def FnExactUsefulStatesSaid : Prop := fnExactUsefulStatesRow.holds Try.pinned (OpenSpec.ofChange fnExactUsefulStatesSpec)

/-- ITS FALSE NEIGHBOUR: 'it returns false'. Refute it at one input. -/
def fnExactUsefulStatesWrong : ChangeSpec := { name := "fnExactUsefulStates", fn := fun _ => fun
  | [d] => { results := [.lit (.bool false)], args := [d] }
  | _ => none }
def FnExactUsefulStatesWrongFalsely : Prop := fnExactUsefulStatesRow.holds Try.pinned (OpenSpec.ofChange fnExactUsefulStatesWrong)

/-- 'laws.FnExactNextToken': WHATEVER THE INPUT: true; the input reads as it did. -/
def fnExactNextTokenSpec : ChangeSpec := { name := "fnExactNextToken", fn := fun _ => fun
  | [d1, d2, d3] => { results := [.lit (.bool true)], args := [d1, d2, d3] }
  | _ => none }
def fnExactNextTokenRow : OpenClaim := { program := "ytmgebneniadabaa", sum := "2eca2052f4990808c3468f7411292bff7401371670bd35fc6a0db784b9f4c7f4", func := "loop.example/regularlanguages/laws.FnExactNextToken", spec := "fnExactNextToken", unfollowed := true, recurses := true, plainKeys := false, apart := false }
def FnExactNextTokenSaid : Prop := fnExactNextTokenRow.holds Try.pinned (OpenSpec.ofChange fnExactNextTokenSpec)

/-- ITS FALSE NEIGHBOUR: 'it returns false'. Refute it at one input. -/
def fnExactNextTokenWrong : ChangeSpec := { name := "fnExactNextToken", fn := fun _ => fun
  | [d1, d2, d3] => { results := [.lit (.bool false)], args := [d1, d2, d3] }
  | _ => none }
def FnExactNextTokenWrongFalsely : Prop := fnExactNextTokenRow.holds Try.pinned (OpenSpec.ofChange fnExactNextTokenWrong)

/-- 'laws.FnExactNfaOf': WHATEVER THE INPUT: true; the input reads as it did. -/
def fnExactNfaOfSpec : ChangeSpec := { name := "fnExactNfaOf", fn := fun _ => fun
  | [d] => { results := [.lit (.bool true)], args := [d] }
  | _ => none }
def fnExactNfaOfRow : OpenClaim := { program := "ytmgebneniadabaa", sum := "2eca2052f4990808c3468f7411292bff7401371670bd35fc6a0db784b9f4c7f4", func := "loop.example/regularlanguages/laws.FnExactNfaOf", spec := "fnExactNfaOf", unfollowed := true, recurses := true, plainKeys := false, apart := false }
def FnExactNfaOfSaid : Prop := fnExactNfaOfRow.holds Try.pinned (OpenSpec.ofChange fnExactNfaOfSpec)

/-- ITS FALSE NEIGHBOUR: 'it returns false'. Refute it at one input. -/
def fnExactNfaOfWrong : ChangeSpec := { name := "fnExactNfaOf", fn := fun _ => fun
  | [d] => { results := [.lit (.bool false)], args := [d] }
  | _ => none }
def FnExactNfaOfWrongFalsely : Prop := fnExactNfaOfRow.holds Try.pinned (OpenSpec.ofChange fnExactNfaOfWrong)

/-- 'laws.FnExactFindAll': WHATEVER THE INPUT: true; the input reads as it did. -/
def fnExactFindAllSpec : ChangeSpec := { name := "fnExactFindAll", fn := fun _ => fun
  | [d1, d2] => { results := [.lit (.bool true)], args := [d1, d2] }
  | _ => none }
def fnExactFindAllRow : OpenClaim := { program := "ytmgebneniadabaa", sum := "2eca2052f4990808c3468f7411292bff7401371670bd35fc6a0db784b9f4c7f4", func := "loop.example/regularlanguages/laws.FnExactFindAll", spec := "fnExactFindAll", unfollowed := true, recurses := true, plainKeys := false, apart := false }
def FnExactFindAllSaid : Prop := fnExactFindAllRow.holds Try.pinned (OpenSpec.ofChange fnExactFindAllSpec)

/-- ITS FALSE NEIGHBOUR: 'it returns false'. Refute it at one input. -/
def fnExactFindAllWrong : ChangeSpec := { name := "fnExactFindAll", fn := fun _ => fun
  | [d1, d2] => { results := [.lit (.bool false)], args := [d1, d2] }
  | _ => none }
def FnExactFindAllWrongFalsely : Prop := fnExactFindAllRow.holds Try.pinned (OpenSpec.ofChange fnExactFindAllWrong)

/-- 'laws.FnExactTokens': WHATEVER THE INPUT: true; the input reads as it did. -/
def fnExactTokensSpec : ChangeSpec := { name := "fnExactTokens", fn := fun _ => fun
  | [d1, d2] => { results := [.lit (.bool true)], args := [d1, d2] }
  | _ => none }
def fnExactTokensRow : OpenClaim := { program := "ytmgebneniadabaa", sum := "2eca2052f4990808c3468f7411292bff7401371670bd35fc6a0db784b9f4c7f4", func := "loop.example/regularlanguages/laws.FnExactTokens", spec := "fnExactTokens", unfollowed := true, recurses := true, plainKeys := false, apart := false }
def FnExactTokensSaid : Prop := fnExactTokensRow.holds Try.pinned (OpenSpec.ofChange fnExactTokensSpec)

/-- ITS FALSE NEIGHBOUR: 'it returns false'. Refute it at one input. -/
def fnExactTokensWrong : ChangeSpec := { name := "fnExactTokens", fn := fun _ => fun
  | [d1, d2] => { results := [.lit (.bool false)], args := [d1, d2] }
  | _ => none }
def FnExactTokensWrongFalsely : Prop := fnExactTokensRow.holds Try.pinned (OpenSpec.ofChange fnExactTokensWrong)

/- THE SECOND FORM. 'bulk': how many values and letters a reading holds, each counted each time it is reached (what is shared counts as often as it is met; a slice's spare places count too). A statement '..UptoSaid' is the law's where the arguments, and the package variables that the reading takes, are together of bulk at most 1048576: NARROWER than '..Said'. Prove '..Said' where nothing that the law and all that it calls make is longer than what came in: it says more and counts as full. Else prove '..UptoSaid'. A law counts once. -/
mutual
def uptoBulk {H : Type} : DataW H → Nat
  | .lit (.string bytes) => bytes.length + 1
  | .lit _ => 1
  | .nil => 1
  | .ptr d => uptoBulk d + 1
  | .slice elems spare => uptoBulkAll elems + uptoBulkAll spare + 1
  | .agg parts => uptoBulkAll parts + 1
  | .iface _ d => uptoBulk d + 1
  | .map entries => uptoBulkEntries entries + 1
  | .held _ => 1
def uptoBulkAll {H : Type} : List (DataW H) → Nat
  | [] => 0
  | d :: r => uptoBulk d + uptoBulkAll r
def uptoBulkEntries {H : Type} : List (Lit × DataW H) → Nat
  | [] => 0
  | x :: r => uptoBulkEntry x + uptoBulkEntries r
def uptoBulkEntry {H : Type} : Lit × DataW H → Nat
  | (.string bytes, d) => bytes.length + uptoBulk d + 1
  | (_, d) => uptoBulk d + 1
 end
def uptoSmall : (H : Type) → List (DataW H) → Bool := fun _ ds => decide (uptoBulkAll ds ≤ 1048576)
def OpenSpec.upto (s : _root_.Go.ChangeSpec) : _root_.Go.OpenSpec := { _root_.Go.OpenSpec.ofChange s with cond := some uptoSmall }

/-- 'laws.FnExactWordNumber', WHERE WHAT IT READS IS OF BULK AT MOST 1048576: true; the input reads as it did. -/
def fnExactWordNumberUptoRow : OpenClaim := { program := "ytmgebneniadabaa", sum := "2eca2052f4990808c3468f7411292bff7401371670bd35fc6a0db784b9f4c7f4", func := "loop.example/regularlanguages/laws.FnExactWordNumber", spec := "fnExactWordNumber", unfollowed := true, recurses := true, plainKeys := false, apart := false, narrowed := true }
def FnExactWordNumberUptoSaid : Prop := fnExactWordNumberUptoRow.holds Try.pinned (OpenSpec.upto fnExactWordNumberSpec)

/-- 'laws.FnExactFirstDiffer', WHERE WHAT IT READS IS OF BULK AT MOST 1048576: true; the input reads as it did. -/
def fnExactFirstDifferUptoRow : OpenClaim := { program := "ytmgebneniadabaa", sum := "2eca2052f4990808c3468f7411292bff7401371670bd35fc6a0db784b9f4c7f4", func := "loop.example/regularlanguages/laws.FnExactFirstDiffer", spec := "fnExactFirstDiffer", unfollowed := true, recurses := true, plainKeys := false, apart := false, narrowed := true }
def FnExactFirstDifferUptoSaid : Prop := fnExactFirstDifferUptoRow.holds Try.pinned (OpenSpec.upto fnExactFirstDifferSpec)

/-- 'laws.FnExactRankWord', WHERE WHAT IT READS IS OF BULK AT MOST 1048576: true; the input reads as it did. -/
def fnExactRankWordUptoRow : OpenClaim := { program := "ytmgebneniadabaa", sum := "2eca2052f4990808c3468f7411292bff7401371670bd35fc6a0db784b9f4c7f4", func := "loop.example/regularlanguages/laws.FnExactRankWord", spec := "fnExactRankWord", unfollowed := true, recurses := true, plainKeys := false, apart := false, narrowed := true }
def FnExactRankWordUptoSaid : Prop := fnExactRankWordUptoRow.holds Try.pinned (OpenSpec.upto fnExactRankWordSpec)

/-- 'laws.FnExactSameLanguage', WHERE WHAT IT READS IS OF BULK AT MOST 1048576: true; the input reads as it did. -/
def fnExactSameLanguageUptoRow : OpenClaim := { program := "ytmgebneniadabaa", sum := "2eca2052f4990808c3468f7411292bff7401371670bd35fc6a0db784b9f4c7f4", func := "loop.example/regularlanguages/laws.FnExactSameLanguage", spec := "fnExactSameLanguage", unfollowed := true, recurses := true, plainKeys := false, apart := false, narrowed := true }
def FnExactSameLanguageUptoSaid : Prop := fnExactSameLanguageUptoRow.holds Try.pinned (OpenSpec.upto fnExactSameLanguageSpec)

/-- 'laws.FnExactTurnNfa', WHERE WHAT IT READS IS OF BULK AT MOST 1048576: true; the input reads as it did. -/
def fnExactTurnNfaUptoRow : OpenClaim := { program := "ytmgebneniadabaa", sum := "2eca2052f4990808c3468f7411292bff7401371670bd35fc6a0db784b9f4c7f4", func := "loop.example/regularlanguages/laws.FnExactTurnNfa", spec := "fnExactTurnNfa", unfollowed := true, recurses := true, plainKeys := false, apart := false, narrowed := true }
def FnExactTurnNfaUptoSaid : Prop := fnExactTurnNfaUptoRow.holds Try.pinned (OpenSpec.upto fnExactTurnNfaSpec)

/-- 'laws.FnExactReplaceAll', WHERE WHAT IT READS IS OF BULK AT MOST 1048576: true; the input reads as it did. -/
def fnExactReplaceAllUptoRow : OpenClaim := { program := "ytmgebneniadabaa", sum := "2eca2052f4990808c3468f7411292bff7401371670bd35fc6a0db784b9f4c7f4", func := "loop.example/regularlanguages/laws.FnExactReplaceAll", spec := "fnExactReplaceAll", unfollowed := true, recurses := true, plainKeys := false, apart := false, narrowed := true }
def FnExactReplaceAllUptoSaid : Prop := fnExactReplaceAllUptoRow.holds Try.pinned (OpenSpec.upto fnExactReplaceAllSpec)

/-- 'laws.FnExactUsefulStates', WHERE WHAT IT READS IS OF BULK AT MOST 1048576: true; the input reads as it did. -/
def fnExactUsefulStatesUptoRow : OpenClaim := { program := "ytmgebneniadabaa", sum := "2eca2052f4990808c3468f7411292bff7401371670bd35fc6a0db784b9f4c7f4", func := "loop.example/regularlanguages/laws.FnExactUsefulStates", spec := "fnExactUsefulStates", unfollowed := true, recurses := true, plainKeys := false, apart := false, narrowed := true }
def FnExactUsefulStatesUptoSaid : Prop := fnExactUsefulStatesUptoRow.holds Try.pinned (OpenSpec.upto fnExactUsefulStatesSpec)

/-- 'laws.FnExactNextToken', WHERE WHAT IT READS IS OF BULK AT MOST 1048576: true; the input reads as it did. -/
def fnExactNextTokenUptoRow : OpenClaim := { program := "ytmgebneniadabaa", sum := "2eca2052f4990808c3468f7411292bff7401371670bd35fc6a0db784b9f4c7f4", func := "loop.example/regularlanguages/laws.FnExactNextToken", spec := "fnExactNextToken", unfollowed := true, recurses := true, plainKeys := false, apart := false, narrowed := true }
def FnExactNextTokenUptoSaid : Prop := fnExactNextTokenUptoRow.holds Try.pinned (OpenSpec.upto fnExactNextTokenSpec)

/-- 'laws.FnExactNfaOf', WHERE WHAT IT READS IS OF BULK AT MOST 1048576: true; the input reads as it did. -/
def fnExactNfaOfUptoRow : OpenClaim := { program := "ytmgebneniadabaa", sum := "2eca2052f4990808c3468f7411292bff7401371670bd35fc6a0db784b9f4c7f4", func := "loop.example/regularlanguages/laws.FnExactNfaOf", spec := "fnExactNfaOf", unfollowed := true, recurses := true, plainKeys := false, apart := false, narrowed := true }
def FnExactNfaOfUptoSaid : Prop := fnExactNfaOfUptoRow.holds Try.pinned (OpenSpec.upto fnExactNfaOfSpec)

/-- 'laws.FnExactFindAll', WHERE WHAT IT READS IS OF BULK AT MOST 1048576: true; the input reads as it did. -/
def fnExactFindAllUptoRow : OpenClaim := { program := "ytmgebneniadabaa", sum := "2eca2052f4990808c3468f7411292bff7401371670bd35fc6a0db784b9f4c7f4", func := "loop.example/regularlanguages/laws.FnExactFindAll", spec := "fnExactFindAll", unfollowed := true, recurses := true, plainKeys := false, apart := false, narrowed := true }
def FnExactFindAllUptoSaid : Prop := fnExactFindAllUptoRow.holds Try.pinned (OpenSpec.upto fnExactFindAllSpec)

/-- 'laws.FnExactTokens', WHERE WHAT IT READS IS OF BULK AT MOST 1048576: true; the input reads as it did. -/
def fnExactTokensUptoRow : OpenClaim := { program := "ytmgebneniadabaa", sum := "2eca2052f4990808c3468f7411292bff7401371670bd35fc6a0db784b9f4c7f4", func := "loop.example/regularlanguages/laws.FnExactTokens", spec := "fnExactTokens", unfollowed := true, recurses := true, plainKeys := false, apart := false, narrowed := true }
def FnExactTokensUptoSaid : Prop := fnExactTokensUptoRow.holds Try.pinned (OpenSpec.upto fnExactTokensSpec)

end Rows
end Go.Proofs.Ytmgebneniadabaa
