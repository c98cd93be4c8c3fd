/- What the walks of laws over lists of parts use. -/
import Derived.Test.YtbcjhiponbfbnaaGC
import Derived.Test.YtbcjhiponbfbnaaNfp
set_option linter.unusedSimpArgs false
set_option linter.unusedVariables false
set_option linter.unusedSectionVars false
namespace Go.Proofs.Ytbcjhiponbfbnaa
open Go.RowKit
variable {S : Nat → Prop}
theorem madeR {B n : Nat} {w : World} {v : Value} {cs : List Value} (h : Made B w v n cs) : Hid (FlW (fun b => B ≤ b ∧ b < w.heap.size) w v n cs) := by
  obtain ⟨g, h1, h2, h3⟩ := h
  exact h3.mono (fun b e => by subst e; exact ⟨h1, h2⟩)
/-- A list of ints of the call's own, as one that may be written. -/
theorem rwOf {P : Value → World → Prop} {xs : List Int} {w : World} {e : Ending} {w' : World} (h : RVn w P e w') (k : ∀ v w', P v w' → OwnI w' w.heap.size v xs) : RW xs.length (xs.map (.int .i64 ·)) w e w' := by
  obtain ⟨v, rfl, hb, hp⟩ := h
  exact ⟨v, rfl, hb, ownFl (k _ _ hp.out)⟩
end Go.Proofs.Ytbcjhiponbfbnaa
