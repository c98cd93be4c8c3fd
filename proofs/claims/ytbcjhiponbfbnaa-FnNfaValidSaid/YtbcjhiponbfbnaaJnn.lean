/- The automaton for the words of a language followed by those of another one: the program's. -/
import Derived.Test.YtbcjhiponbfbnaaShf
import Derived.Test.YtbcjhiponbfbnaaTrn
set_option linter.unusedSimpArgs false
set_option linter.unusedVariables false
set_option linter.unusedSectionVars false
namespace Go.Proofs.Ytbcjhiponbfbnaa
open Go.RowKit
set_option maxRecDepth 100000
variable {S T : Nat → Prop}
theorem links_step (n : Int) (es fs : List Int) {k : Nat} (h : k < es.length) : links n (es.take (k + 1)) fs = links n (es.take k) fs ++ fs.map (fun t => (es[k], -1, t + n)) := by
  unfold links
  rw [List.take_succ_eq_append_getElem h, List.flatMap_append]; simp
theorem links_len (n : Int) (es fs : List Int) : (links n es fs).length = es.length * fs.length := by
  unfold links
  induction es with
  | nil => simp
  | cons e es ih => rw [List.flatMap_cons, List.length_append, ih]; simp [Nat.add_mul]; omega
end Go.Proofs.Ytbcjhiponbfbnaa
