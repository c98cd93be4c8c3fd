/-
  No cell of these rows narrows 'for every input' (looked for: loops, veiled, ifaces, maps, wideKeys, modest, calm, conditions, laid).
  DERIVED. THE GIVEN ROWS OF THIS SEAT. 12 by the template 'for every input the law returns true; each argument reads behind the call as it read before'; 0 by the template 'total and deterministic' (their statements: YtebcnamfpajneaaTotals.lean).
  GIVEN WITH THE SEED: the statements are not yours to turn. If you find one false, say at which input.
  Laid BY PROGRAM, IN A SANDBOX (cutbox-rows.mjs): the forced cells as the released guide's own fill.sh prints them over the translation 98cd00dc5cf9244f… (all of the seat's roots in one cut). By AI agents, Wed Nov 11 2026. No macro, syntax, notation, axiom, sorry.
-/
import Derived.Test.YtebcnamfpajneaaChecked
import GoSem.Claim
import GoSem.ClaimJoined
import GoSem.ClaimMapViews
import Derived.JoinedTies
import Derived.KernelRfl
namespace Go.Proofs.Ytebcnamfpajneaa
/- THE CELL 'sum', in the pinned program and in every row, IS THE sha256 OF THE DUMP (.gsa) THAT YtebcnamfpajneaaProg.lean LOADS. Nothing in Lean hashes anything: it is a label: what it is worth is what the hold of that sum in a sandbox is worth. -/
noncomputable def Try.pinned : Pinned := { name := "ytebcnamfpajneaa", sum := "98cd00dc5cf9244f802ddba11338018045c64afecba324e77c1d8f8ca434bea0", checked := Try.checked }
namespace Rows
def none {H : Type} : Left H := { results := [], args := [] }

/-- 'laws.FnDfaValid': WHATEVER THE INPUT: true; the input reads as it did. -/
def fnDfaValidSpec : ChangeSpec := { name := "fnDfaValid", fn := fun _ => fun
  | [d] => { results := [.lit (.bool true)], args := [d] }
  | _ => none }
def fnDfaValidRow : OpenClaim := { program := "ytebcnamfpajneaa", sum := "98cd00dc5cf9244f802ddba11338018045c64afecba324e77c1d8f8ca434bea0", func := "loop.example/regularlanguages/laws.FnDfaValid", spec := "fnDfaValid", unfollowed := true, recurses := true, plainKeys := false, apart := false }
def FnDfaValidSaid : Prop := fnDfaValidRow.holds Try.pinned (OpenSpec.ofChange fnDfaValidSpec)

/-- ITS FALSE NEIGHBOUR: 'it returns false'. Refute it at one input. -/
def fnDfaValidWrong : ChangeSpec := { name := "fnDfaValid", fn := fun _ => fun
  | [d] => { results := [.lit (.bool false)], args := [d] }
  | _ => none }
def FnDfaValidWrongFalsely : Prop := fnDfaValidRow.holds Try.pinned (OpenSpec.ofChange fnDfaValidWrong)

/-- 'laws.FnSameStates': WHATEVER THE INPUT: true; the input reads as it did. -/
def fnSameStatesSpec : ChangeSpec := { name := "fnSameStates", fn := fun _ => fun
  | [d] => { results := [.lit (.bool true)], args := [d] }
  | _ => none }
def fnSameStatesRow : OpenClaim := { program := "ytebcnamfpajneaa", sum := "98cd00dc5cf9244f802ddba11338018045c64afecba324e77c1d8f8ca434bea0", func := "loop.example/regularlanguages/laws.FnSameStates", spec := "fnSameStates", unfollowed := true, recurses := true, plainKeys := false, apart := false }
def FnSameStatesSaid : Prop := fnSameStatesRow.holds Try.pinned (OpenSpec.ofChange fnSameStatesSpec)

/-- ITS FALSE NEIGHBOUR: 'it returns false'. Refute it at one input. -/
def fnSameStatesWrong : ChangeSpec := { name := "fnSameStates", fn := fun _ => fun
  | [d] => { results := [.lit (.bool false)], args := [d] }
  | _ => none }
def FnSameStatesWrongFalsely : Prop := fnSameStatesRow.holds Try.pinned (OpenSpec.ofChange fnSameStatesWrong)

/-- 'laws.FnDfaTrim': WHATEVER THE INPUT: true; the input reads as it did. -/
def fnDfaTrimSpec : ChangeSpec := { name := "fnDfaTrim", fn := fun _ => fun
  | [d] => { results := [.lit (.bool true)], args := [d] }
  | _ => none }
def fnDfaTrimRow : OpenClaim := { program := "ytebcnamfpajneaa", sum := "98cd00dc5cf9244f802ddba11338018045c64afecba324e77c1d8f8ca434bea0", func := "loop.example/regularlanguages/laws.FnDfaTrim", spec := "fnDfaTrim", unfollowed := true, recurses := true, plainKeys := false, apart := false }
def FnDfaTrimSaid : Prop := fnDfaTrimRow.holds Try.pinned (OpenSpec.ofChange fnDfaTrimSpec)

/-- ITS FALSE NEIGHBOUR: 'it returns false'. Refute it at one input. -/
def fnDfaTrimWrong : ChangeSpec := { name := "fnDfaTrim", fn := fun _ => fun
  | [d] => { results := [.lit (.bool false)], args := [d] }
  | _ => none }
def FnDfaTrimWrongFalsely : Prop := fnDfaTrimRow.holds Try.pinned (OpenSpec.ofChange fnDfaTrimWrong)

/-- 'laws.FnTrimMinimize': WHATEVER THE INPUT: true; the input reads as it did. -/
def fnTrimMinimizeSpec : ChangeSpec := { name := "fnTrimMinimize", fn := fun _ => fun
  | [d] => { results := [.lit (.bool true)], args := [d] }
  | _ => none }
def fnTrimMinimizeRow : OpenClaim := { program := "ytebcnamfpajneaa", sum := "98cd00dc5cf9244f802ddba11338018045c64afecba324e77c1d8f8ca434bea0", func := "loop.example/regularlanguages/laws.FnTrimMinimize", spec := "fnTrimMinimize", unfollowed := true, recurses := true, plainKeys := false, apart := false }
def FnTrimMinimizeSaid : Prop := fnTrimMinimizeRow.holds Try.pinned (OpenSpec.ofChange fnTrimMinimizeSpec)

/-- ITS FALSE NEIGHBOUR: 'it returns false'. Refute it at one input. -/
def fnTrimMinimizeWrong : ChangeSpec := { name := "fnTrimMinimize", fn := fun _ => fun
  | [d] => { results := [.lit (.bool false)], args := [d] }
  | _ => none }
def FnTrimMinimizeWrongFalsely : Prop := fnTrimMinimizeRow.holds Try.pinned (OpenSpec.ofChange fnTrimMinimizeWrong)

/-- 'laws.FnUselessOne': WHATEVER THE INPUT: true; the input reads as it did. -/
def fnUselessOneSpec : ChangeSpec := { name := "fnUselessOne", fn := fun _ => fun
  | [d] => { results := [.lit (.bool true)], args := [d] }
  | _ => none }
def fnUselessOneRow : OpenClaim := { program := "ytebcnamfpajneaa", sum := "98cd00dc5cf9244f802ddba11338018045c64afecba324e77c1d8f8ca434bea0", func := "loop.example/regularlanguages/laws.FnUselessOne", spec := "fnUselessOne", unfollowed := true, recurses := true, plainKeys := false, apart := false }
def FnUselessOneSaid : Prop := fnUselessOneRow.holds Try.pinned (OpenSpec.ofChange fnUselessOneSpec)

/-- ITS FALSE NEIGHBOUR: 'it returns false'. Refute it at one input. -/
def fnUselessOneWrong : ChangeSpec := { name := "fnUselessOne", fn := fun _ => fun
  | [d] => { results := [.lit (.bool false)], args := [d] }
  | _ => none }
def FnUselessOneWrongFalsely : Prop := fnUselessOneRow.holds Try.pinned (OpenSpec.ofChange fnUselessOneWrong)

/-- 'laws.FnFirstNumber': WHATEVER THE INPUT: true; the input reads as it did. -/
def fnFirstNumberSpec : ChangeSpec := { name := "fnFirstNumber", fn := fun _ => fun
  | [d] => { results := [.lit (.bool true)], args := [d] }
  | _ => none }
def fnFirstNumberRow : OpenClaim := { program := "ytebcnamfpajneaa", sum := "98cd00dc5cf9244f802ddba11338018045c64afecba324e77c1d8f8ca434bea0", func := "loop.example/regularlanguages/laws.FnFirstNumber", spec := "fnFirstNumber", unfollowed := true, recurses := true, plainKeys := false, apart := false }
def FnFirstNumberSaid : Prop := fnFirstNumberRow.holds Try.pinned (OpenSpec.ofChange fnFirstNumberSpec)

/-- ITS FALSE NEIGHBOUR: 'it returns false'. Refute it at one input. -/
def fnFirstNumberWrong : ChangeSpec := { name := "fnFirstNumber", fn := fun _ => fun
  | [d] => { results := [.lit (.bool false)], args := [d] }
  | _ => none }
def FnFirstNumberWrongFalsely : Prop := fnFirstNumberRow.holds Try.pinned (OpenSpec.ofChange fnFirstNumberWrong)

/-- 'laws.FnSameLanguage': WHATEVER THE INPUT: true; the input reads as it did. -/
def fnSameLanguageSpec : ChangeSpec := { name := "fnSameLanguage", fn := fun _ => fun
  | [d] => { results := [.lit (.bool true)], args := [d] }
  | _ => none }
def fnSameLanguageRow : OpenClaim := { program := "ytebcnamfpajneaa", sum := "98cd00dc5cf9244f802ddba11338018045c64afecba324e77c1d8f8ca434bea0", func := "loop.example/regularlanguages/laws.FnSameLanguage", spec := "fnSameLanguage", unfollowed := true, recurses := true, plainKeys := false, apart := false }
def FnSameLanguageSaid : Prop := fnSameLanguageRow.holds Try.pinned (OpenSpec.ofChange fnSameLanguageSpec)

/-- ITS FALSE NEIGHBOUR: 'it returns false'. Refute it at one input. -/
def fnSameLanguageWrong : ChangeSpec := { name := "fnSameLanguage", fn := fun _ => fun
  | [d] => { results := [.lit (.bool false)], args := [d] }
  | _ => none }
def FnSameLanguageWrongFalsely : Prop := fnSameLanguageRow.holds Try.pinned (OpenSpec.ofChange fnSameLanguageWrong)

/-- 'laws.FnWithinCounts': WHATEVER THE INPUT: true; the input reads as it did. -/
def fnWithinCountsSpec : ChangeSpec := { name := "fnWithinCounts", fn := fun _ => fun
  | [d] => { results := [.lit (.bool true)], args := [d] }
  | _ => none }
def fnWithinCountsRow : OpenClaim := { program := "ytebcnamfpajneaa", sum := "98cd00dc5cf9244f802ddba11338018045c64afecba324e77c1d8f8ca434bea0", func := "loop.example/regularlanguages/laws.FnWithinCounts", spec := "fnWithinCounts", unfollowed := true, recurses := true, plainKeys := false, apart := false }
def FnWithinCountsSaid : Prop := fnWithinCountsRow.holds Try.pinned (OpenSpec.ofChange fnWithinCountsSpec)

/-- ITS FALSE NEIGHBOUR: 'it returns false'. Refute it at one input. -/
def fnWithinCountsWrong : ChangeSpec := { name := "fnWithinCounts", fn := fun _ => fun
  | [d] => { results := [.lit (.bool false)], args := [d] }
  | _ => none }
def FnWithinCountsWrongFalsely : Prop := fnWithinCountsRow.holds Try.pinned (OpenSpec.ofChange fnWithinCountsWrong)

/-- 'laws.FnApartParts': WHATEVER THE INPUT: true; the input reads as it did. -/
def fnApartPartsSpec : ChangeSpec := { name := "fnApartParts", fn := fun _ => fun
  | [d] => { results := [.lit (.bool true)], args := [d] }
  | _ => none }
def fnApartPartsRow : OpenClaim := { program := "ytebcnamfpajneaa", sum := "98cd00dc5cf9244f802ddba11338018045c64afecba324e77c1d8f8ca434bea0", func := "loop.example/regularlanguages/laws.FnApartParts", spec := "fnApartParts", unfollowed := true, recurses := true, plainKeys := false, apart := false }
def FnApartPartsSaid : Prop := fnApartPartsRow.holds Try.pinned (OpenSpec.ofChange fnApartPartsSpec)

/-- ITS FALSE NEIGHBOUR: 'it returns false'. Refute it at one input. -/
def fnApartPartsWrong : ChangeSpec := { name := "fnApartParts", fn := fun _ => fun
  | [d] => { results := [.lit (.bool false)], args := [d] }
  | _ => none }
def FnApartPartsWrongFalsely : Prop := fnApartPartsRow.holds Try.pinned (OpenSpec.ofChange fnApartPartsWrong)

/-- 'laws.FnBothSame': WHATEVER THE INPUT: true; the input reads as it did. -/
def fnBothSameSpec : ChangeSpec := { name := "fnBothSame", fn := fun _ => fun
  | [d] => { results := [.lit (.bool true)], args := [d] }
  | _ => none }
def fnBothSameRow : OpenClaim := { program := "ytebcnamfpajneaa", sum := "98cd00dc5cf9244f802ddba11338018045c64afecba324e77c1d8f8ca434bea0", func := "loop.example/regularlanguages/laws.FnBothSame", spec := "fnBothSame", unfollowed := true, recurses := true, plainKeys := false, apart := false }
def FnBothSameSaid : Prop := fnBothSameRow.holds Try.pinned (OpenSpec.ofChange fnBothSameSpec)

/-- ITS FALSE NEIGHBOUR: 'it returns false'. Refute it at one input. -/
def fnBothSameWrong : ChangeSpec := { name := "fnBothSame", fn := fun _ => fun
  | [d] => { results := [.lit (.bool false)], args := [d] }
  | _ => none }
def FnBothSameWrongFalsely : Prop := fnBothSameRow.holds Try.pinned (OpenSpec.ofChange fnBothSameWrong)

/-- 'laws.FnLessBoth': WHATEVER THE INPUT: true; the input reads as it did. -/
def fnLessBothSpec : ChangeSpec := { name := "fnLessBoth", fn := fun _ => fun
  | [d] => { results := [.lit (.bool true)], args := [d] }
  | _ => none }
def fnLessBothRow : OpenClaim := { program := "ytebcnamfpajneaa", sum := "98cd00dc5cf9244f802ddba11338018045c64afecba324e77c1d8f8ca434bea0", func := "loop.example/regularlanguages/laws.FnLessBoth", spec := "fnLessBoth", unfollowed := true, recurses := true, plainKeys := false, apart := false }
def FnLessBothSaid : Prop := fnLessBothRow.holds Try.pinned (OpenSpec.ofChange fnLessBothSpec)

/-- ITS FALSE NEIGHBOUR: 'it returns false'. Refute it at one input. -/
def fnLessBothWrong : ChangeSpec := { name := "fnLessBoth", fn := fun _ => fun
  | [d] => { results := [.lit (.bool false)], args := [d] }
  | _ => none }
def FnLessBothWrongFalsely : Prop := fnLessBothRow.holds Try.pinned (OpenSpec.ofChange fnLessBothWrong)

/-- 'laws.FnOtherEither': WHATEVER THE INPUT: true; the input reads as it did. -/
def fnOtherEitherSpec : ChangeSpec := { name := "fnOtherEither", fn := fun _ => fun
  | [d] => { results := [.lit (.bool true)], args := [d] }
  | _ => none }
def fnOtherEitherRow : OpenClaim := { program := "ytebcnamfpajneaa", sum := "98cd00dc5cf9244f802ddba11338018045c64afecba324e77c1d8f8ca434bea0", func := "loop.example/regularlanguages/laws.FnOtherEither", spec := "fnOtherEither", unfollowed := true, recurses := true, plainKeys := false, apart := false }
def FnOtherEitherSaid : Prop := fnOtherEitherRow.holds Try.pinned (OpenSpec.ofChange fnOtherEitherSpec)

/-- ITS FALSE NEIGHBOUR: 'it returns false'. Refute it at one input. -/
def fnOtherEitherWrong : ChangeSpec := { name := "fnOtherEither", fn := fun _ => fun
  | [d] => { results := [.lit (.bool false)], args := [d] }
  | _ => none }
def FnOtherEitherWrongFalsely : Prop := fnOtherEitherRow.holds Try.pinned (OpenSpec.ofChange fnOtherEitherWrong)

/- THE SECOND FORM. 'bulk': how many values and letters a reading holds, each counted each time it is reached (what is shared counts as often as it is met; a slice's spare places count too). A statement '..UptoSaid' is the law's where the arguments, and the package variables that the reading takes, are together of bulk at most 1048576: NARROWER than '..Said'. Prove '..Said' where nothing that the law and all that it calls make is longer than what came in: it says more and counts as full. Else prove '..UptoSaid'. A law counts once. -/
mutual
def uptoBulk {H : Type} : DataW H → Nat
  | .lit (.string bytes) => bytes.length + 1
  | .lit _ => 1
  | .nil => 1
  | .ptr d => uptoBulk d + 1
  | .slice elems spare => uptoBulkAll elems + uptoBulkAll spare + 1
  | .agg parts => uptoBulkAll parts + 1
  | .iface _ d => uptoBulk d + 1
  | .map entries => uptoBulkEntries entries + 1
  | .held _ => 1
def uptoBulkAll {H : Type} : List (DataW H) → Nat
  | [] => 0
  | d :: r => uptoBulk d + uptoBulkAll r
def uptoBulkEntries {H : Type} : List (Lit × DataW H) → Nat
  | [] => 0
  | x :: r => uptoBulkEntry x + uptoBulkEntries r
def uptoBulkEntry {H : Type} : Lit × DataW H → Nat
  | (.string bytes, d) => bytes.length + uptoBulk d + 1
  | (_, d) => uptoBulk d + 1
 end
def uptoSmall : (H : Type) → List (DataW H) → Bool := fun _ ds => decide (uptoBulkAll ds ≤ 1048576)
def OpenSpec.upto (s : _root_.Go.ChangeSpec) : _root_.Go.OpenSpec := { _root_.Go.OpenSpec.ofChange s with cond := some uptoSmall }

/-- 'laws.FnDfaValid', WHERE WHAT IT READS IS OF BULK AT MOST 1048576: true; the input reads as it did. -/
def fnDfaValidUptoRow : OpenClaim := { program := "ytebcnamfpajneaa", sum := "98cd00dc5cf9244f802ddba11338018045c64afecba324e77c1d8f8ca434bea0", func := "loop.example/regularlanguages/laws.FnDfaValid", spec := "fnDfaValid", unfollowed := true, recurses := true, plainKeys := false, apart := false, narrowed := true }
def FnDfaValidUptoSaid : Prop := fnDfaValidUptoRow.holds Try.pinned (OpenSpec.upto fnDfaValidSpec)

/-- 'laws.FnSameStates', WHERE WHAT IT READS IS OF BULK AT MOST 1048576: true; the input reads as it did. -/
def fnSameStatesUptoRow : OpenClaim := { program := "ytebcnamfpajneaa", sum := "98cd00dc5cf9244f802ddba11338018045c64afecba324e77c1d8f8ca434bea0", func := "loop.example/regularlanguages/laws.FnSameStates", spec := "fnSameStates", unfollowed := true, recurses := true, plainKeys := false, apart := false, narrowed := true }
def FnSameStatesUptoSaid : Prop := fnSameStatesUptoRow.holds Try.pinned (OpenSpec.upto fnSameStatesSpec)

/-- 'laws.FnDfaTrim', WHERE WHAT IT READS IS OF BULK AT MOST 1048576: true; the input reads as it did. -/
def fnDfaTrimUptoRow : OpenClaim := { program := "ytebcnamfpajneaa", sum := "98cd00dc5cf9244f802ddba11338018045c64afecba324e77c1d8f8ca434bea0", func := "loop.example/regularlanguages/laws.FnDfaTrim", spec := "fnDfaTrim", unfollowed := true, recurses := true, plainKeys := false, apart := false, narrowed := true }
def FnDfaTrimUptoSaid : Prop := fnDfaTrimUptoRow.holds Try.pinned (OpenSpec.upto fnDfaTrimSpec)

/-- 'laws.FnTrimMinimize', WHERE WHAT IT READS IS OF BULK AT MOST 1048576: true; the input reads as it did. -/
def fnTrimMinimizeUptoRow : OpenClaim := { program := "ytebcnamfpajneaa", sum := "98cd00dc5cf9244f802ddba11338018045c64afecba324e77c1d8f8ca434bea0", func := "loop.example/regularlanguages/laws.FnTrimMinimize", spec := "fnTrimMinimize", unfollowed := true, recurses := true, plainKeys := false, apart := false, narrowed := true }
def FnTrimMinimizeUptoSaid : Prop := fnTrimMinimizeUptoRow.holds Try.pinned (OpenSpec.upto fnTrimMinimizeSpec)

/-- 'laws.FnUselessOne', WHERE WHAT IT READS IS OF BULK AT MOST 1048576: true; the input reads as it did. -/
def fnUselessOneUptoRow : OpenClaim := { program := "ytebcnamfpajneaa", sum := "98cd00dc5cf9244f802ddba11338018045c64afecba324e77c1d8f8ca434bea0", func := "loop.example/regularlanguages/laws.FnUselessOne", spec := "fnUselessOne", unfollowed := true, recurses := true, plainKeys := false, apart := false, narrowed := true }
def FnUselessOneUptoSaid : Prop := fnUselessOneUptoRow.holds Try.pinned (OpenSpec.upto fnUselessOneSpec)

/-- 'laws.FnFirstNumber', WHERE WHAT IT READS IS OF BULK AT MOST 1048576: true; the input reads as it did. -/
def fnFirstNumberUptoRow : OpenClaim := { program := "ytebcnamfpajneaa", sum := "98cd00dc5cf9244f802ddba11338018045c64afecba324e77c1d8f8ca434bea0", func := "loop.example/regularlanguages/laws.FnFirstNumber", spec := "fnFirstNumber", unfollowed := true, recurses := true, plainKeys := false, apart := false, narrowed := true }
def FnFirstNumberUptoSaid : Prop := fnFirstNumberUptoRow.holds Try.pinned (OpenSpec.upto fnFirstNumberSpec)

/-- 'laws.FnSameLanguage', WHERE WHAT IT READS IS OF BULK AT MOST 1048576: true; the input reads as it did. -/
def fnSameLanguageUptoRow : OpenClaim := { program := "ytebcnamfpajneaa", sum := "98cd00dc5cf9244f802ddba11338018045c64afecba324e77c1d8f8ca434bea0", func := "loop.example/regularlanguages/laws.FnSameLanguage", spec := "fnSameLanguage", unfollowed := true, recurses := true, plainKeys := false, apart := false, narrowed := true }
def FnSameLanguageUptoSaid : Prop := fnSameLanguageUptoRow.holds Try.pinned (OpenSpec.upto fnSameLanguageSpec)

/-- 'laws.FnWithinCounts', WHERE WHAT IT READS IS OF BULK AT MOST 1048576: true; the input reads as it did. -/
def fnWithinCountsUptoRow : OpenClaim := { program := "ytebcnamfpajneaa", sum := "98cd00dc5cf9244f802ddba11338018045c64afecba324e77c1d8f8ca434bea0", func := "loop.example/regularlanguages/laws.FnWithinCounts", spec := "fnWithinCounts", unfollowed := true, recurses := true, plainKeys := false, apart := false, narrowed := true }
def FnWithinCountsUptoSaid : Prop := fnWithinCountsUptoRow.holds Try.pinned (OpenSpec.upto fnWithinCountsSpec)

/-- 'laws.FnApartParts', WHERE WHAT IT READS IS OF BULK AT MOST 1048576: true; the input reads as it did. -/
def fnApartPartsUptoRow : OpenClaim := { program := "ytebcnamfpajneaa", sum := "98cd00dc5cf9244f802ddba11338018045c64afecba324e77c1d8f8ca434bea0", func := "loop.example/regularlanguages/laws.FnApartParts", spec := "fnApartParts", unfollowed := true, recurses := true, plainKeys := false, apart := false, narrowed := true }
def FnApartPartsUptoSaid : Prop := fnApartPartsUptoRow.holds Try.pinned (OpenSpec.upto fnApartPartsSpec)

/-- 'laws.FnBothSame', WHERE WHAT IT READS IS OF BULK AT MOST 1048576: true; the input reads as it did. -/
def fnBothSameUptoRow : OpenClaim := { program := "ytebcnamfpajneaa", sum := "98cd00dc5cf9244f802ddba11338018045c64afecba324e77c1d8f8ca434bea0", func := "loop.example/regularlanguages/laws.FnBothSame", spec := "fnBothSame", unfollowed := true, recurses := true, plainKeys := false, apart := false, narrowed := true }
def FnBothSameUptoSaid : Prop := fnBothSameUptoRow.holds Try.pinned (OpenSpec.upto fnBothSameSpec)

/-- 'laws.FnLessBoth', WHERE WHAT IT READS IS OF BULK AT MOST 1048576: true; the input reads as it did. -/
def fnLessBothUptoRow : OpenClaim := { program := "ytebcnamfpajneaa", sum := "98cd00dc5cf9244f802ddba11338018045c64afecba324e77c1d8f8ca434bea0", func := "loop.example/regularlanguages/laws.FnLessBoth", spec := "fnLessBoth", unfollowed := true, recurses := true, plainKeys := false, apart := false, narrowed := true }
def FnLessBothUptoSaid : Prop := fnLessBothUptoRow.holds Try.pinned (OpenSpec.upto fnLessBothSpec)

/-- 'laws.FnOtherEither', WHERE WHAT IT READS IS OF BULK AT MOST 1048576: true; the input reads as it did. -/
def fnOtherEitherUptoRow : OpenClaim := { program := "ytebcnamfpajneaa", sum := "98cd00dc5cf9244f802ddba11338018045c64afecba324e77c1d8f8ca434bea0", func := "loop.example/regularlanguages/laws.FnOtherEither", spec := "fnOtherEither", unfollowed := true, recurses := true, plainKeys := false, apart := false, narrowed := true }
def FnOtherEitherUptoSaid : Prop := fnOtherEitherUptoRow.holds Try.pinned (OpenSpec.upto fnOtherEitherSpec)

end Rows
end Go.Proofs.Ytebcnamfpajneaa
