/- Automata drawn for the laws. -/
import Derived.Test.YtcbhfopabgiiiaaDda
set_option linter.unusedSimpArgs false
set_option linter.unusedVariables false
set_option linter.unusedSectionVars false
namespace Go.Proofs.Ytcbhfopabgiiiaa
open Go.RowKit
set_option maxRecDepth 100000
variable {S T : Nat → Prop}
/-- The call answers an automaton to be read. -/
def RDa (w : World) (e : Ending) (w' : World) : Prop := ∃ (D : DfaD) (v1 v2 : Value), e = .returned (.agg #[v1, v2]) ∧ Below w.heap.size w w' ∧ Hid (DfaR (w.heap.size ≤ ·) w' v1 v2 D)
theorem RDa.fin {w W w2 w' : World} {g rb : Nat} {D : DfaD} {v1 v2 : Value} (hW : Below w.heap.size w W) (hg : w.heap.size = g) (hg2 : g < W.heap.size) (h2 : Below W.heap.size W w2) (hrb : W.heap.size ≤ rb) (hd : Dr rb w2 w') (h : DfaR (w2.heap.size ≤ ·) w' v1 v2 D) :
    RDa w (.returned (.agg #[v1, v2])) ((w'.setCell ⟨g, 0, none⟩ v1).setCell ⟨g, 1, none⟩ v2) := by
  have k1 : Kp (· ≠ g) w' ((w'.setCell ⟨g, 0, none⟩ v1).setCell ⟨g, 1, none⟩ v2) := kpSet.trans kpSet
  have hs2 := h2.size
  have hs := hW.size
  refine ⟨D, v1, v2, rfl, (((hW.trans (h2.mono hs)).trans (hd.bel (by omega) (by omega))).setCell (p := ⟨g, 0, none⟩) (show w.heap.size ≤ g by omega) _).setCell (p := ⟨g, 1, none⟩) (show w.heap.size ≤ g by omega) _, ?_⟩
  exact Lib.hid ((h.stay (k1.mono fun b h => by omega)).mono fun b h => by omega)
end Go.Proofs.Ytcbhfopabgiiiaa
