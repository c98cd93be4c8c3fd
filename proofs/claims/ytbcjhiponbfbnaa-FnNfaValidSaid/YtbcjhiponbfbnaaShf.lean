/- Numbers and moves of greater numbers: the program's lists. -/
import Derived.Test.YtbcjhiponbfbnaaNfs
set_option linter.unusedSimpArgs false
set_option linter.unusedVariables false
set_option linter.unusedSectionVars false
namespace Go.Proofs.Ytbcjhiponbfbnaa
open Go.RowKit
set_option maxRecDepth 100000
variable {S T : Nat → Prop}
theorem okN_rng {D : NfaD} (h : okN D) : (∀ x ∈ D.firsts, 0 ≤ x ∧ x ≤ 39) ∧ (∀ x ∈ D.ends, 0 ≤ x ∧ x ≤ 39) ∧ ∀ m ∈ D.moves, (0 ≤ m.1 ∧ m.1 ≤ 39) ∧ (0 ≤ m.2.2 ∧ m.2.2 ≤ 39) :=
  ⟨okS_rng h.2.2.1 h.1, okS_rng h.2.2.2.1 h.1, fun m hm => by have := h.2.2.2.2 m hm; have := h.1; unfold okM at *; omega⟩
theorem Sr.neq {w0 w : World} {h : Option (Nat × Obj)} {l : List (Option Rw)} (H : Sr w0 w h l) {i j : Nat} (hij : i < j) {r s : Rw} (hi : l[i]? = some (some r)) (hj : l[j]? = some (some s)) (k : Nat) (h1 : r.v.ownBlock = some k) : s.v.ownBlock ≠ some k := by
  obtain ⟨hi', ei⟩ := List.getElem?_eq_some_iff.1 hi
  obtain ⟨hj', ej⟩ := List.getElem?_eq_some_iff.1 hj
  exact List.pairwise_iff_getElem.1 H.ne i j hi' hj' hij r s k ei ej h1
theorem Sr.at {w0 w : World} {h : Option (Nat × Obj)} {l : List (Option Rw)} (H : Sr w0 w h l) (i : Nat) {r : Rw} (hi : l[i]? = some (some r)) : w.ownsRow w0.heap.size r.e r.sz r.v r.n r.cs := H.own r (List.mem_of_getElem? hi)
end Go.Proofs.Ytbcjhiponbfbnaa
