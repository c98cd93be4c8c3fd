/-
  No cell of these rows narrows 'for every input' (looked for: loops, veiled, ifaces, maps, wideKeys, modest, calm, conditions, laid).
  DERIVED. THE GIVEN ROWS OF THIS SEAT. 5 by the template 'for every input the law returns true; each argument reads behind the call as it read before'; 0 by the template 'total and deterministic' (their statements: YtbcjhiponbfbnaaTotals.lean).
  GIVEN WITH THE SEED: the statements are not yours to turn. If you find one false, say at which input.
  Laid BY PROGRAM, IN A SANDBOX (cutbox-rows.mjs): the forced cells as the released guide's own fill.sh prints them over the translation c87bd2f2f758ab1b… (all of the seat's roots in one cut). By AI agents, Wed Nov 11 2026. No macro, syntax, notation, axiom, sorry.
-/
import Derived.Test.YtbcjhiponbfbnaaChecked
import GoSem.Claim
import GoSem.ClaimJoined
import GoSem.ClaimMapViews
import Derived.JoinedTies
import Derived.KernelRfl
namespace Go.Proofs.Ytbcjhiponbfbnaa
/- THE CELL 'sum', in the pinned program and in every row, IS THE sha256 OF THE DUMP (.gsa) THAT YtbcjhiponbfbnaaProg.lean LOADS. Nothing in Lean hashes anything: it is a label: what it is worth is what the hold of that sum in a sandbox is worth. -/
noncomputable def Try.pinned : Pinned := { name := "ytbcjhiponbfbnaa", sum := "c87bd2f2f758ab1b4cd8f0e9626387db4e5bc27ab9484f5819762f9ca30aeda0", checked := Try.checked }
namespace Rows
def none {H : Type} : Left H := { results := [], args := [] }

/-- 'laws.FnDeriveWord': WHATEVER THE INPUT: true; the input reads as it did. -/
def fnDeriveWordSpec : ChangeSpec := { name := "fnDeriveWord", fn := fun _ => fun
  | [d] => { results := [.lit (.bool true)], args := [d] }
  | _ => none }
def fnDeriveWordRow : OpenClaim := { program := "ytbcjhiponbfbnaa", sum := "c87bd2f2f758ab1b4cd8f0e9626387db4e5bc27ab9484f5819762f9ca30aeda0", func := "loop.example/regularlanguages/laws.FnDeriveWord", spec := "fnDeriveWord", unfollowed := true, recurses := true, apart := false }
def FnDeriveWordSaid : Prop := fnDeriveWordRow.holds Try.pinned (OpenSpec.ofChange fnDeriveWordSpec)

/-- ITS FALSE NEIGHBOUR: 'it returns false'. Refute it at one input. -/
def fnDeriveWordWrong : ChangeSpec := { name := "fnDeriveWord", fn := fun _ => fun
  | [d] => { results := [.lit (.bool false)], args := [d] }
  | _ => none }
def FnDeriveWordWrongFalsely : Prop := fnDeriveWordRow.holds Try.pinned (OpenSpec.ofChange fnDeriveWordWrong)

/-- 'laws.FnNfaValid': WHATEVER THE INPUT: true; the input reads as it did. -/
def fnNfaValidSpec : ChangeSpec := { name := "fnNfaValid", fn := fun _ => fun
  | [d] => { results := [.lit (.bool true)], args := [d] }
  | _ => none }
def fnNfaValidRow : OpenClaim := { program := "ytbcjhiponbfbnaa", sum := "c87bd2f2f758ab1b4cd8f0e9626387db4e5bc27ab9484f5819762f9ca30aeda0", func := "loop.example/regularlanguages/laws.FnNfaValid", spec := "fnNfaValid", unfollowed := true, recurses := true, apart := false }
def FnNfaValidSaid : Prop := fnNfaValidRow.holds Try.pinned (OpenSpec.ofChange fnNfaValidSpec)

/-- ITS FALSE NEIGHBOUR: 'it returns false'. Refute it at one input. -/
def fnNfaValidWrong : ChangeSpec := { name := "fnNfaValid", fn := fun _ => fun
  | [d] => { results := [.lit (.bool false)], args := [d] }
  | _ => none }
def FnNfaValidWrongFalsely : Prop := fnNfaValidRow.holds Try.pinned (OpenSpec.ofChange fnNfaValidWrong)

/-- 'laws.FnWordExpr': WHATEVER THE INPUT: true; the input reads as it did. -/
def fnWordExprSpec : ChangeSpec := { name := "fnWordExpr", fn := fun _ => fun
  | [d1, d2] => { results := [.lit (.bool true)], args := [d1, d2] }
  | _ => none }
def fnWordExprRow : OpenClaim := { program := "ytbcjhiponbfbnaa", sum := "c87bd2f2f758ab1b4cd8f0e9626387db4e5bc27ab9484f5819762f9ca30aeda0", func := "loop.example/regularlanguages/laws.FnWordExpr", spec := "fnWordExpr", unfollowed := true, recurses := true, apart := false }
def FnWordExprSaid : Prop := fnWordExprRow.holds Try.pinned (OpenSpec.ofChange fnWordExprSpec)

/-- ITS FALSE NEIGHBOUR: 'it returns false'. Refute it at one input. -/
def fnWordExprWrong : ChangeSpec := { name := "fnWordExpr", fn := fun _ => fun
  | [d1, d2] => { results := [.lit (.bool false)], args := [d1, d2] }
  | _ => none }
def FnWordExprWrongFalsely : Prop := fnWordExprRow.holds Try.pinned (OpenSpec.ofChange fnWordExprWrong)

/-- 'laws.FnExactExprOf': WHATEVER THE INPUT: true; the input reads as it did. -/
def fnExactExprOfSpec : ChangeSpec := { name := "fnExactExprOf", fn := fun _ => fun
  | [d] => { results := [.lit (.bool true)], args := [d] }
  | _ => none }
def fnExactExprOfRow : OpenClaim := { program := "ytbcjhiponbfbnaa", sum := "c87bd2f2f758ab1b4cd8f0e9626387db4e5bc27ab9484f5819762f9ca30aeda0", func := "loop.example/regularlanguages/laws.FnExactExprOf", spec := "fnExactExprOf", unfollowed := true, recurses := true, apart := false }
def FnExactExprOfSaid : Prop := fnExactExprOfRow.holds Try.pinned (OpenSpec.ofChange fnExactExprOfSpec)

/-- ITS FALSE NEIGHBOUR: 'it returns false'. Refute it at one input. -/
def fnExactExprOfWrong : ChangeSpec := { name := "fnExactExprOf", fn := fun _ => fun
  | [d] => { results := [.lit (.bool false)], args := [d] }
  | _ => none }
def FnExactExprOfWrongFalsely : Prop := fnExactExprOfRow.holds Try.pinned (OpenSpec.ofChange fnExactExprOfWrong)

/-- 'laws.FnDeriveCount': WHATEVER THE INPUT: true; the input reads as it did. -/
def fnDeriveCountSpec : ChangeSpec := { name := "fnDeriveCount", fn := fun _ => fun
  | [d] => { results := [.lit (.bool true)], args := [d] }
  | _ => none }
def fnDeriveCountRow : OpenClaim := { program := "ytbcjhiponbfbnaa", sum := "c87bd2f2f758ab1b4cd8f0e9626387db4e5bc27ab9484f5819762f9ca30aeda0", func := "loop.example/regularlanguages/laws.FnDeriveCount", spec := "fnDeriveCount", recurses := true, apart := false }
def FnDeriveCountSaid : Prop := fnDeriveCountRow.holds Try.pinned (OpenSpec.ofChange fnDeriveCountSpec)

/-- ITS FALSE NEIGHBOUR: 'it returns false'. Refute it at one input. -/
def fnDeriveCountWrong : ChangeSpec := { name := "fnDeriveCount", fn := fun _ => fun
  | [d] => { results := [.lit (.bool false)], args := [d] }
  | _ => none }
def FnDeriveCountWrongFalsely : Prop := fnDeriveCountRow.holds Try.pinned (OpenSpec.ofChange fnDeriveCountWrong)

/- THE SECOND FORM. 'bulk': how many values and letters a reading holds, each counted each time it is reached (what is shared counts as often as it is met; a slice's spare places count too). A statement '..UptoSaid' is the law's where the arguments, and the package variables that the reading takes, are together of bulk at most 1048576: NARROWER than '..Said'. Prove '..Said' where nothing that the law and all that it calls make is longer than what came in: it says more and counts as full. Else prove '..UptoSaid'. A law counts once. -/
mutual
def uptoBulk {H : Type} : DataW H → Nat
  | .lit (.string bytes) => bytes.length + 1
  | .lit _ => 1
  | .nil => 1
  | .ptr d => uptoBulk d + 1
  | .slice elems spare => uptoBulkAll elems + uptoBulkAll spare + 1
  | .agg parts => uptoBulkAll parts + 1
  | .iface _ d => uptoBulk d + 1
  | .map entries => uptoBulkEntries entries + 1
  | .held _ => 1
def uptoBulkAll {H : Type} : List (DataW H) → Nat
  | [] => 0
  | d :: r => uptoBulk d + uptoBulkAll r
def uptoBulkEntries {H : Type} : List (Lit × DataW H) → Nat
  | [] => 0
  | x :: r => uptoBulkEntry x + uptoBulkEntries r
def uptoBulkEntry {H : Type} : Lit × DataW H → Nat
  | (.string bytes, d) => bytes.length + uptoBulk d + 1
  | (_, d) => uptoBulk d + 1
 end
def uptoSmall : (H : Type) → List (DataW H) → Bool := fun _ ds => decide (uptoBulkAll ds ≤ 1048576)
def OpenSpec.upto (s : _root_.Go.ChangeSpec) : _root_.Go.OpenSpec := { _root_.Go.OpenSpec.ofChange s with cond := some uptoSmall }

/-- 'laws.FnDeriveWord', WHERE WHAT IT READS IS OF BULK AT MOST 1048576: true; the input reads as it did. -/
def fnDeriveWordUptoRow : OpenClaim := { program := "ytbcjhiponbfbnaa", sum := "c87bd2f2f758ab1b4cd8f0e9626387db4e5bc27ab9484f5819762f9ca30aeda0", func := "loop.example/regularlanguages/laws.FnDeriveWord", spec := "fnDeriveWord", unfollowed := true, recurses := true, apart := false, narrowed := true }
def FnDeriveWordUptoSaid : Prop := fnDeriveWordUptoRow.holds Try.pinned (OpenSpec.upto fnDeriveWordSpec)

/-- 'laws.FnNfaValid', WHERE WHAT IT READS IS OF BULK AT MOST 1048576: true; the input reads as it did. -/
def fnNfaValidUptoRow : OpenClaim := { program := "ytbcjhiponbfbnaa", sum := "c87bd2f2f758ab1b4cd8f0e9626387db4e5bc27ab9484f5819762f9ca30aeda0", func := "loop.example/regularlanguages/laws.FnNfaValid", spec := "fnNfaValid", unfollowed := true, recurses := true, apart := false, narrowed := true }
def FnNfaValidUptoSaid : Prop := fnNfaValidUptoRow.holds Try.pinned (OpenSpec.upto fnNfaValidSpec)

/-- 'laws.FnWordExpr', WHERE WHAT IT READS IS OF BULK AT MOST 1048576: true; the input reads as it did. -/
def fnWordExprUptoRow : OpenClaim := { program := "ytbcjhiponbfbnaa", sum := "c87bd2f2f758ab1b4cd8f0e9626387db4e5bc27ab9484f5819762f9ca30aeda0", func := "loop.example/regularlanguages/laws.FnWordExpr", spec := "fnWordExpr", unfollowed := true, recurses := true, apart := false, narrowed := true }
def FnWordExprUptoSaid : Prop := fnWordExprUptoRow.holds Try.pinned (OpenSpec.upto fnWordExprSpec)

/-- 'laws.FnExactExprOf', WHERE WHAT IT READS IS OF BULK AT MOST 1048576: true; the input reads as it did. -/
def fnExactExprOfUptoRow : OpenClaim := { program := "ytbcjhiponbfbnaa", sum := "c87bd2f2f758ab1b4cd8f0e9626387db4e5bc27ab9484f5819762f9ca30aeda0", func := "loop.example/regularlanguages/laws.FnExactExprOf", spec := "fnExactExprOf", unfollowed := true, recurses := true, apart := false, narrowed := true }
def FnExactExprOfUptoSaid : Prop := fnExactExprOfUptoRow.holds Try.pinned (OpenSpec.upto fnExactExprOfSpec)

/-- 'laws.FnDeriveCount', WHERE WHAT IT READS IS OF BULK AT MOST 1048576: true; the input reads as it did. -/
def fnDeriveCountUptoRow : OpenClaim := { program := "ytbcjhiponbfbnaa", sum := "c87bd2f2f758ab1b4cd8f0e9626387db4e5bc27ab9484f5819762f9ca30aeda0", func := "loop.example/regularlanguages/laws.FnDeriveCount", spec := "fnDeriveCount", recurses := true, apart := false, narrowed := true }
def FnDeriveCountUptoSaid : Prop := fnDeriveCountUptoRow.holds Try.pinned (OpenSpec.upto fnDeriveCountSpec)

end Rows
end Go.Proofs.Ytbcjhiponbfbnaa
