/-
  No cell of these rows narrows 'for every input' (looked for: loops, veiled, ifaces, maps, wideKeys, modest, calm, conditions, laid).
  DERIVED. THE GIVEN ROWS OF THIS SEAT. 12 by the template 'for every input the law returns true; each argument reads behind the call as it read before'; 0 by the template 'total and deterministic' (their statements: YtofamhgkiipagaaTotals.lean).
  GIVEN WITH THE SEED: the statements are not yours to turn. If you find one false, say at which input.
  Laid BY PROGRAM, IN A SANDBOX (cutbox-rows.mjs): the forced cells as the released guide's own fill.sh prints them over the translation 9de245b0747e27ae… (all of the seat's roots in one cut). By AI agents, Wed Nov 11 2026. No macro, syntax, notation, axiom, sorry.
-/
import Derived.Test.YtofamhgkiipagaaChecked
import GoSem.Claim
import GoSem.ClaimJoined
import GoSem.ClaimMapViews
import Derived.JoinedTies
import Derived.KernelRfl
namespace Go.Proofs.Ytofamhgkiipagaa
/- THE CELL 'sum', in the pinned program and in every row, IS THE sha256 OF THE DUMP (.gsa) THAT YtofamhgkiipagaaProg.lean LOADS. Nothing in Lean hashes anything: it is a label: what it is worth is what the hold of that sum in a sandbox is worth. -/
noncomputable def Try.pinned : Pinned := { name := "ytofamhgkiipagaa", sum := "9de245b0747e27ae80cbef85069ee2def24df860cfb46bf72692b3ca99b44e97", checked := Try.checked }
namespace Rows
def none {H : Type} : Left H := { results := [], args := [] }

/-- 'laws.FnExactNfaStar': WHATEVER THE INPUT: true; the input reads as it did. -/
def fnExactNfaStarSpec : ChangeSpec := { name := "fnExactNfaStar", fn := fun _ => fun
  | [d] => { results := [.lit (.bool true)], args := [d] }
  | _ => none }
def fnExactNfaStarRow : OpenClaim := { program := "ytofamhgkiipagaa", sum := "9de245b0747e27ae80cbef85069ee2def24df860cfb46bf72692b3ca99b44e97", func := "loop.example/regularlanguages/laws.FnExactNfaStar", spec := "fnExactNfaStar", unfollowed := true, recurses := true, plainKeys := false, apart := false }
def FnExactNfaStarSaid : Prop := fnExactNfaStarRow.holds Try.pinned (OpenSpec.ofChange fnExactNfaStarSpec)

/-- ITS FALSE NEIGHBOUR: 'it returns false'. Refute it at one input. -/
def fnExactNfaStarWrong : ChangeSpec := { name := "fnExactNfaStar", fn := fun _ => fun
  | [d] => { results := [.lit (.bool false)], args := [d] }
  | _ => none }
def FnExactNfaStarWrongFalsely : Prop := fnExactNfaStarRow.holds Try.pinned (OpenSpec.ofChange fnExactNfaStarWrong)

/-- 'laws.FnExactSameStates': WHATEVER THE INPUT: true; the input reads as it did. -/
def fnExactSameStatesSpec : ChangeSpec := { name := "fnExactSameStates", fn := fun _ => fun
  | [d] => { results := [.lit (.bool true)], args := [d] }
  | _ => none }
def fnExactSameStatesRow : OpenClaim := { program := "ytofamhgkiipagaa", sum := "9de245b0747e27ae80cbef85069ee2def24df860cfb46bf72692b3ca99b44e97", func := "loop.example/regularlanguages/laws.FnExactSameStates", spec := "fnExactSameStates", unfollowed := true, recurses := true, plainKeys := false, apart := false }
def FnExactSameStatesSaid : Prop := fnExactSameStatesRow.holds Try.pinned (OpenSpec.ofChange fnExactSameStatesSpec)

/-- ITS FALSE NEIGHBOUR: 'it returns false'. Refute it at one input. -/
def fnExactSameStatesWrong : ChangeSpec := { name := "fnExactSameStates", fn := fun _ => fun
  | [d] => { results := [.lit (.bool false)], args := [d] }
  | _ => none }
def FnExactSameStatesWrongFalsely : Prop := fnExactSameStatesRow.holds Try.pinned (OpenSpec.ofChange fnExactSameStatesWrong)

/-- 'laws.FnExactNfaJoin': WHATEVER THE INPUT: true; the input reads as it did. -/
def fnExactNfaJoinSpec : ChangeSpec := { name := "fnExactNfaJoin", fn := fun _ => fun
  | [d1, d2] => { results := [.lit (.bool true)], args := [d1, d2] }
  | _ => none }
def fnExactNfaJoinRow : OpenClaim := { program := "ytofamhgkiipagaa", sum := "9de245b0747e27ae80cbef85069ee2def24df860cfb46bf72692b3ca99b44e97", func := "loop.example/regularlanguages/laws.FnExactNfaJoin", spec := "fnExactNfaJoin", unfollowed := true, recurses := true, plainKeys := false, apart := false }
def FnExactNfaJoinSaid : Prop := fnExactNfaJoinRow.holds Try.pinned (OpenSpec.ofChange fnExactNfaJoinSpec)

/-- ITS FALSE NEIGHBOUR: 'it returns false'. Refute it at one input. -/
def fnExactNfaJoinWrong : ChangeSpec := { name := "fnExactNfaJoin", fn := fun _ => fun
  | [d1, d2] => { results := [.lit (.bool false)], args := [d1, d2] }
  | _ => none }
def FnExactNfaJoinWrongFalsely : Prop := fnExactNfaJoinRow.holds Try.pinned (OpenSpec.ofChange fnExactNfaJoinWrong)

/-- 'laws.FnExactLongestLength': WHATEVER THE INPUT: true; the input reads as it did. -/
def fnExactLongestLengthSpec : ChangeSpec := { name := "fnExactLongestLength", fn := fun _ => fun
  | [d] => { results := [.lit (.bool true)], args := [d] }
  | _ => none }
def fnExactLongestLengthRow : OpenClaim := { program := "ytofamhgkiipagaa", sum := "9de245b0747e27ae80cbef85069ee2def24df860cfb46bf72692b3ca99b44e97", func := "loop.example/regularlanguages/laws.FnExactLongestLength", spec := "fnExactLongestLength", unfollowed := true, recurses := true, plainKeys := false, apart := false }
def FnExactLongestLengthSaid : Prop := fnExactLongestLengthRow.holds Try.pinned (OpenSpec.ofChange fnExactLongestLengthSpec)

/-- ITS FALSE NEIGHBOUR: 'it returns false'. Refute it at one input. -/
def fnExactLongestLengthWrong : ChangeSpec := { name := "fnExactLongestLength", fn := fun _ => fun
  | [d] => { results := [.lit (.bool false)], args := [d] }
  | _ => none }
def FnExactLongestLengthWrongFalsely : Prop := fnExactLongestLengthRow.holds Try.pinned (OpenSpec.ofChange fnExactLongestLengthWrong)

/-- 'laws.FnExactNfaEither': WHATEVER THE INPUT: true; the input reads as it did. -/
def fnExactNfaEitherSpec : ChangeSpec := { name := "fnExactNfaEither", fn := fun _ => fun
  | [d1, d2] => { results := [.lit (.bool true)], args := [d1, d2] }
  | _ => none }
def fnExactNfaEitherRow : OpenClaim := { program := "ytofamhgkiipagaa", sum := "9de245b0747e27ae80cbef85069ee2def24df860cfb46bf72692b3ca99b44e97", func := "loop.example/regularlanguages/laws.FnExactNfaEither", spec := "fnExactNfaEither", unfollowed := true, recurses := true, plainKeys := false, apart := false }
def FnExactNfaEitherSaid : Prop := fnExactNfaEitherRow.holds Try.pinned (OpenSpec.ofChange fnExactNfaEitherSpec)

/-- ITS FALSE NEIGHBOUR: 'it returns false'. Refute it at one input. -/
def fnExactNfaEitherWrong : ChangeSpec := { name := "fnExactNfaEither", fn := fun _ => fun
  | [d1, d2] => { results := [.lit (.bool false)], args := [d1, d2] }
  | _ => none }
def FnExactNfaEitherWrongFalsely : Prop := fnExactNfaEitherRow.holds Try.pinned (OpenSpec.ofChange fnExactNfaEitherWrong)

/-- 'laws.FnExactMinimize': WHATEVER THE INPUT: true; the input reads as it did. -/
def fnExactMinimizeSpec : ChangeSpec := { name := "fnExactMinimize", fn := fun _ => fun
  | [d] => { results := [.lit (.bool true)], args := [d] }
  | _ => none }
def fnExactMinimizeRow : OpenClaim := { program := "ytofamhgkiipagaa", sum := "9de245b0747e27ae80cbef85069ee2def24df860cfb46bf72692b3ca99b44e97", func := "loop.example/regularlanguages/laws.FnExactMinimize", spec := "fnExactMinimize", unfollowed := true, recurses := true, plainKeys := false, apart := false }
def FnExactMinimizeSaid : Prop := fnExactMinimizeRow.holds Try.pinned (OpenSpec.ofChange fnExactMinimizeSpec)

/-- ITS FALSE NEIGHBOUR: 'it returns false'. Refute it at one input. -/
def fnExactMinimizeWrong : ChangeSpec := { name := "fnExactMinimize", fn := fun _ => fun
  | [d] => { results := [.lit (.bool false)], args := [d] }
  | _ => none }
def FnExactMinimizeWrongFalsely : Prop := fnExactMinimizeRow.holds Try.pinned (OpenSpec.ofChange fnExactMinimizeWrong)

/-- 'laws.FnExactDfaOther': WHATEVER THE INPUT: true; the input reads as it did. -/
def fnExactDfaOtherSpec : ChangeSpec := { name := "fnExactDfaOther", fn := fun _ => fun
  | [d] => { results := [.lit (.bool true)], args := [d] }
  | _ => none }
def fnExactDfaOtherRow : OpenClaim := { program := "ytofamhgkiipagaa", sum := "9de245b0747e27ae80cbef85069ee2def24df860cfb46bf72692b3ca99b44e97", func := "loop.example/regularlanguages/laws.FnExactDfaOther", spec := "fnExactDfaOther", unfollowed := true, recurses := true, plainKeys := false, apart := false }
def FnExactDfaOtherSaid : Prop := fnExactDfaOtherRow.holds Try.pinned (OpenSpec.ofChange fnExactDfaOtherSpec)

/-- ITS FALSE NEIGHBOUR: 'it returns false'. Refute it at one input. -/
def fnExactDfaOtherWrong : ChangeSpec := { name := "fnExactDfaOther", fn := fun _ => fun
  | [d] => { results := [.lit (.bool false)], args := [d] }
  | _ => none }
def FnExactDfaOtherWrongFalsely : Prop := fnExactDfaOtherRow.holds Try.pinned (OpenSpec.ofChange fnExactDfaOtherWrong)

/-- 'laws.FnExactDfaStarts': WHATEVER THE INPUT: true; the input reads as it did. -/
def fnExactDfaStartsSpec : ChangeSpec := { name := "fnExactDfaStarts", fn := fun _ => fun
  | [d] => { results := [.lit (.bool true)], args := [d] }
  | _ => none }
def fnExactDfaStartsRow : OpenClaim := { program := "ytofamhgkiipagaa", sum := "9de245b0747e27ae80cbef85069ee2def24df860cfb46bf72692b3ca99b44e97", func := "loop.example/regularlanguages/laws.FnExactDfaStarts", spec := "fnExactDfaStarts", unfollowed := true, recurses := true, plainKeys := false, apart := false }
def FnExactDfaStartsSaid : Prop := fnExactDfaStartsRow.holds Try.pinned (OpenSpec.ofChange fnExactDfaStartsSpec)

/-- ITS FALSE NEIGHBOUR: 'it returns false'. Refute it at one input. -/
def fnExactDfaStartsWrong : ChangeSpec := { name := "fnExactDfaStarts", fn := fun _ => fun
  | [d] => { results := [.lit (.bool false)], args := [d] }
  | _ => none }
def FnExactDfaStartsWrongFalsely : Prop := fnExactDfaStartsRow.holds Try.pinned (OpenSpec.ofChange fnExactDfaStartsWrong)

/-- 'laws.FnExactDfaApart': WHATEVER THE INPUT: true; the input reads as it did. -/
def fnExactDfaApartSpec : ChangeSpec := { name := "fnExactDfaApart", fn := fun _ => fun
  | [d1, d2] => { results := [.lit (.bool true)], args := [d1, d2] }
  | _ => none }
def fnExactDfaApartRow : OpenClaim := { program := "ytofamhgkiipagaa", sum := "9de245b0747e27ae80cbef85069ee2def24df860cfb46bf72692b3ca99b44e97", func := "loop.example/regularlanguages/laws.FnExactDfaApart", spec := "fnExactDfaApart", unfollowed := true, recurses := true, plainKeys := false, apart := false }
def FnExactDfaApartSaid : Prop := fnExactDfaApartRow.holds Try.pinned (OpenSpec.ofChange fnExactDfaApartSpec)

/-- ITS FALSE NEIGHBOUR: 'it returns false'. Refute it at one input. -/
def fnExactDfaApartWrong : ChangeSpec := { name := "fnExactDfaApart", fn := fun _ => fun
  | [d1, d2] => { results := [.lit (.bool false)], args := [d1, d2] }
  | _ => none }
def FnExactDfaApartWrongFalsely : Prop := fnExactDfaApartRow.holds Try.pinned (OpenSpec.ofChange fnExactDfaApartWrong)

/-- 'laws.FnExactDfaBoth': WHATEVER THE INPUT: true; the input reads as it did. -/
def fnExactDfaBothSpec : ChangeSpec := { name := "fnExactDfaBoth", fn := fun _ => fun
  | [d1, d2] => { results := [.lit (.bool true)], args := [d1, d2] }
  | _ => none }
def fnExactDfaBothRow : OpenClaim := { program := "ytofamhgkiipagaa", sum := "9de245b0747e27ae80cbef85069ee2def24df860cfb46bf72692b3ca99b44e97", func := "loop.example/regularlanguages/laws.FnExactDfaBoth", spec := "fnExactDfaBoth", unfollowed := true, recurses := true, plainKeys := false, apart := false }
def FnExactDfaBothSaid : Prop := fnExactDfaBothRow.holds Try.pinned (OpenSpec.ofChange fnExactDfaBothSpec)

/-- ITS FALSE NEIGHBOUR: 'it returns false'. Refute it at one input. -/
def fnExactDfaBothWrong : ChangeSpec := { name := "fnExactDfaBoth", fn := fun _ => fun
  | [d1, d2] => { results := [.lit (.bool false)], args := [d1, d2] }
  | _ => none }
def FnExactDfaBothWrongFalsely : Prop := fnExactDfaBothRow.holds Try.pinned (OpenSpec.ofChange fnExactDfaBothWrong)

/-- 'laws.FnExactDfaEither': WHATEVER THE INPUT: true; the input reads as it did. -/
def fnExactDfaEitherSpec : ChangeSpec := { name := "fnExactDfaEither", fn := fun _ => fun
  | [d1, d2] => { results := [.lit (.bool true)], args := [d1, d2] }
  | _ => none }
def fnExactDfaEitherRow : OpenClaim := { program := "ytofamhgkiipagaa", sum := "9de245b0747e27ae80cbef85069ee2def24df860cfb46bf72692b3ca99b44e97", func := "loop.example/regularlanguages/laws.FnExactDfaEither", spec := "fnExactDfaEither", unfollowed := true, recurses := true, plainKeys := false, apart := false }
def FnExactDfaEitherSaid : Prop := fnExactDfaEitherRow.holds Try.pinned (OpenSpec.ofChange fnExactDfaEitherSpec)

/-- ITS FALSE NEIGHBOUR: 'it returns false'. Refute it at one input. -/
def fnExactDfaEitherWrong : ChangeSpec := { name := "fnExactDfaEither", fn := fun _ => fun
  | [d1, d2] => { results := [.lit (.bool false)], args := [d1, d2] }
  | _ => none }
def FnExactDfaEitherWrongFalsely : Prop := fnExactDfaEitherRow.holds Try.pinned (OpenSpec.ofChange fnExactDfaEitherWrong)

/-- 'laws.FnExactDfaLess': WHATEVER THE INPUT: true; the input reads as it did. -/
def fnExactDfaLessSpec : ChangeSpec := { name := "fnExactDfaLess", fn := fun _ => fun
  | [d1, d2] => { results := [.lit (.bool true)], args := [d1, d2] }
  | _ => none }
def fnExactDfaLessRow : OpenClaim := { program := "ytofamhgkiipagaa", sum := "9de245b0747e27ae80cbef85069ee2def24df860cfb46bf72692b3ca99b44e97", func := "loop.example/regularlanguages/laws.FnExactDfaLess", spec := "fnExactDfaLess", unfollowed := true, recurses := true, plainKeys := false, apart := false }
def FnExactDfaLessSaid : Prop := fnExactDfaLessRow.holds Try.pinned (OpenSpec.ofChange fnExactDfaLessSpec)

/-- ITS FALSE NEIGHBOUR: 'it returns false'. Refute it at one input. -/
def fnExactDfaLessWrong : ChangeSpec := { name := "fnExactDfaLess", fn := fun _ => fun
  | [d1, d2] => { results := [.lit (.bool false)], args := [d1, d2] }
  | _ => none }
def FnExactDfaLessWrongFalsely : Prop := fnExactDfaLessRow.holds Try.pinned (OpenSpec.ofChange fnExactDfaLessWrong)

/- THE SECOND FORM. 'bulk': how many values and letters a reading holds, each counted each time it is reached (what is shared counts as often as it is met; a slice's spare places count too). A statement '..UptoSaid' is the law's where the arguments, and the package variables that the reading takes, are together of bulk at most 1048576: NARROWER than '..Said'. Prove '..Said' where nothing that the law and all that it calls make is longer than what came in: it says more and counts as full. Else prove '..UptoSaid'. A law counts once. -/
mutual
def uptoBulk {H : Type} : DataW H → Nat
  | .lit (.string bytes) => bytes.length + 1
  | .lit _ => 1
  | .nil => 1
  | .ptr d => uptoBulk d + 1
  | .slice elems spare => uptoBulkAll elems + uptoBulkAll spare + 1
  | .agg parts => uptoBulkAll parts + 1
  | .iface _ d => uptoBulk d + 1
  | .map entries => uptoBulkEntries entries + 1
  | .held _ => 1
def uptoBulkAll {H : Type} : List (DataW H) → Nat
  | [] => 0
  | d :: r => uptoBulk d + uptoBulkAll r
def uptoBulkEntries {H : Type} : List (Lit × DataW H) → Nat
  | [] => 0
  | x :: r => uptoBulkEntry x + uptoBulkEntries r
def uptoBulkEntry {H : Type} : Lit × DataW H → Nat
  | (.string bytes, d) => bytes.length + uptoBulk d + 1
  | (_, d) => uptoBulk d + 1
 end
def uptoSmall : (H : Type) → List (DataW H) → Bool := fun _ ds => decide (uptoBulkAll ds ≤ 1048576)
def OpenSpec.upto (s : _root_.Go.ChangeSpec) : _root_.Go.OpenSpec := { _root_.Go.OpenSpec.ofChange s with cond := some uptoSmall }

/-- 'laws.FnExactNfaStar', WHERE WHAT IT READS IS OF BULK AT MOST 1048576: true; the input reads as it did. -/
def fnExactNfaStarUptoRow : OpenClaim := { program := "ytofamhgkiipagaa", sum := "9de245b0747e27ae80cbef85069ee2def24df860cfb46bf72692b3ca99b44e97", func := "loop.example/regularlanguages/laws.FnExactNfaStar", spec := "fnExactNfaStar", unfollowed := true, recurses := true, plainKeys := false, apart := false, narrowed := true }
def FnExactNfaStarUptoSaid : Prop := fnExactNfaStarUptoRow.holds Try.pinned (OpenSpec.upto fnExactNfaStarSpec)

/-- 'laws.FnExactSameStates', WHERE WHAT IT READS IS OF BULK AT MOST 1048576: true; the input reads as it did. -/
def fnExactSameStatesUptoRow : OpenClaim := { program := "ytofamhgkiipagaa", sum := "9de245b0747e27ae80cbef85069ee2def24df860cfb46bf72692b3ca99b44e97", func := "loop.example/regularlanguages/laws.FnExactSameStates", spec := "fnExactSameStates", unfollowed := true, recurses := true, plainKeys := false, apart := false, narrowed := true }
def FnExactSameStatesUptoSaid : Prop := fnExactSameStatesUptoRow.holds Try.pinned (OpenSpec.upto fnExactSameStatesSpec)

/-- 'laws.FnExactNfaJoin', WHERE WHAT IT READS IS OF BULK AT MOST 1048576: true; the input reads as it did. -/
def fnExactNfaJoinUptoRow : OpenClaim := { program := "ytofamhgkiipagaa", sum := "9de245b0747e27ae80cbef85069ee2def24df860cfb46bf72692b3ca99b44e97", func := "loop.example/regularlanguages/laws.FnExactNfaJoin", spec := "fnExactNfaJoin", unfollowed := true, recurses := true, plainKeys := false, apart := false, narrowed := true }
def FnExactNfaJoinUptoSaid : Prop := fnExactNfaJoinUptoRow.holds Try.pinned (OpenSpec.upto fnExactNfaJoinSpec)

/-- 'laws.FnExactLongestLength', WHERE WHAT IT READS IS OF BULK AT MOST 1048576: true; the input reads as it did. -/
def fnExactLongestLengthUptoRow : OpenClaim := { program := "ytofamhgkiipagaa", sum := "9de245b0747e27ae80cbef85069ee2def24df860cfb46bf72692b3ca99b44e97", func := "loop.example/regularlanguages/laws.FnExactLongestLength", spec := "fnExactLongestLength", unfollowed := true, recurses := true, plainKeys := false, apart := false, narrowed := true }
def FnExactLongestLengthUptoSaid : Prop := fnExactLongestLengthUptoRow.holds Try.pinned (OpenSpec.upto fnExactLongestLengthSpec)

/-- 'laws.FnExactNfaEither', WHERE WHAT IT READS IS OF BULK AT MOST 1048576: true; the input reads as it did. -/
def fnExactNfaEitherUptoRow : OpenClaim := { program := "ytofamhgkiipagaa", sum := "9de245b0747e27ae80cbef85069ee2def24df860cfb46bf72692b3ca99b44e97", func := "loop.example/regularlanguages/laws.FnExactNfaEither", spec := "fnExactNfaEither", unfollowed := true, recurses := true, plainKeys := false, apart := false, narrowed := true }
def FnExactNfaEitherUptoSaid : Prop := fnExactNfaEitherUptoRow.holds Try.pinned (OpenSpec.upto fnExactNfaEitherSpec)

/-- 'laws.FnExactMinimize', WHERE WHAT IT READS IS OF BULK AT MOST 1048576: true; the input reads as it did. -/
def fnExactMinimizeUptoRow : OpenClaim := { program := "ytofamhgkiipagaa", sum := "9de245b0747e27ae80cbef85069ee2def24df860cfb46bf72692b3ca99b44e97", func := "loop.example/regularlanguages/laws.FnExactMinimize", spec := "fnExactMinimize", unfollowed := true, recurses := true, plainKeys := false, apart := false, narrowed := true }
def FnExactMinimizeUptoSaid : Prop := fnExactMinimizeUptoRow.holds Try.pinned (OpenSpec.upto fnExactMinimizeSpec)

/-- 'laws.FnExactDfaOther', WHERE WHAT IT READS IS OF BULK AT MOST 1048576: true; the input reads as it did. -/
def fnExactDfaOtherUptoRow : OpenClaim := { program := "ytofamhgkiipagaa", sum := "9de245b0747e27ae80cbef85069ee2def24df860cfb46bf72692b3ca99b44e97", func := "loop.example/regularlanguages/laws.FnExactDfaOther", spec := "fnExactDfaOther", unfollowed := true, recurses := true, plainKeys := false, apart := false, narrowed := true }
def FnExactDfaOtherUptoSaid : Prop := fnExactDfaOtherUptoRow.holds Try.pinned (OpenSpec.upto fnExactDfaOtherSpec)

/-- 'laws.FnExactDfaStarts', WHERE WHAT IT READS IS OF BULK AT MOST 1048576: true; the input reads as it did. -/
def fnExactDfaStartsUptoRow : OpenClaim := { program := "ytofamhgkiipagaa", sum := "9de245b0747e27ae80cbef85069ee2def24df860cfb46bf72692b3ca99b44e97", func := "loop.example/regularlanguages/laws.FnExactDfaStarts", spec := "fnExactDfaStarts", unfollowed := true, recurses := true, plainKeys := false, apart := false, narrowed := true }
def FnExactDfaStartsUptoSaid : Prop := fnExactDfaStartsUptoRow.holds Try.pinned (OpenSpec.upto fnExactDfaStartsSpec)

/-- 'laws.FnExactDfaApart', WHERE WHAT IT READS IS OF BULK AT MOST 1048576: true; the input reads as it did. -/
def fnExactDfaApartUptoRow : OpenClaim := { program := "ytofamhgkiipagaa", sum := "9de245b0747e27ae80cbef85069ee2def24df860cfb46bf72692b3ca99b44e97", func := "loop.example/regularlanguages/laws.FnExactDfaApart", spec := "fnExactDfaApart", unfollowed := true, recurses := true, plainKeys := false, apart := false, narrowed := true }
def FnExactDfaApartUptoSaid : Prop := fnExactDfaApartUptoRow.holds Try.pinned (OpenSpec.upto fnExactDfaApartSpec)

/-- 'laws.FnExactDfaBoth', WHERE WHAT IT READS IS OF BULK AT MOST 1048576: true; the input reads as it did. -/
def fnExactDfaBothUptoRow : OpenClaim := { program := "ytofamhgkiipagaa", sum := "9de245b0747e27ae80cbef85069ee2def24df860cfb46bf72692b3ca99b44e97", func := "loop.example/regularlanguages/laws.FnExactDfaBoth", spec := "fnExactDfaBoth", unfollowed := true, recurses := true, plainKeys := false, apart := false, narrowed := true }
def FnExactDfaBothUptoSaid : Prop := fnExactDfaBothUptoRow.holds Try.pinned (OpenSpec.upto fnExactDfaBothSpec)

/-- 'laws.FnExactDfaEither', WHERE WHAT IT READS IS OF BULK AT MOST 1048576: true; the input reads as it did. -/
def fnExactDfaEitherUptoRow : OpenClaim := { program := "ytofamhgkiipagaa", sum := "9de245b0747e27ae80cbef85069ee2def24df860cfb46bf72692b3ca99b44e97", func := "loop.example/regularlanguages/laws.FnExactDfaEither", spec := "fnExactDfaEither", unfollowed := true, recurses := true, plainKeys := false, apart := false, narrowed := true }
def FnExactDfaEitherUptoSaid : Prop := fnExactDfaEitherUptoRow.holds Try.pinned (OpenSpec.upto fnExactDfaEitherSpec)

/-- 'laws.FnExactDfaLess', WHERE WHAT IT READS IS OF BULK AT MOST 1048576: true; the input reads as it did. -/
def fnExactDfaLessUptoRow : OpenClaim := { program := "ytofamhgkiipagaa", sum := "9de245b0747e27ae80cbef85069ee2def24df860cfb46bf72692b3ca99b44e97", func := "loop.example/regularlanguages/laws.FnExactDfaLess", spec := "fnExactDfaLess", unfollowed := true, recurses := true, plainKeys := false, apart := false, narrowed := true }
def FnExactDfaLessUptoSaid : Prop := fnExactDfaLessUptoRow.holds Try.pinned (OpenSpec.upto fnExactDfaLessSpec)

end Rows
end Go.Proofs.Ytofamhgkiipagaa
