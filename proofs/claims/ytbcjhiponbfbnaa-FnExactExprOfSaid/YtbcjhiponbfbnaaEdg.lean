/- The first and the last places: the program's answers. -/
import Derived.Deep.RegionHeld3
import Derived.Test.YtbcjhiponbfbnaaFsp
import Derived.Test.YtbcjhiponbfbnaaOpd
import Derived.Test.YtbcjhiponbfbnaaHem
import Derived.Test.YtbcjhiponbfbnaaSli
import Derived.Test.YtbcjhiponbfbnaaIpl
set_option linter.unusedSimpArgs false
set_option linter.unusedVariables false
set_option linter.unusedSectionVars false
namespace Go.Proofs.Ytbcjhiponbfbnaa
open Go.RowKit
set_option maxRecDepth 100000
variable {S T : Nat → Prop}
/-- The places at an end. -/
def Re.eps (t : Re) (fst : Bool) (f : Int) : List Int := if fst then t.fps f else t.lps f
theorem eps_len (t : Re) (fst : Bool) (f : Int) : (t.eps fst f).length ≤ t.flat.length := by
  cases fst
  · exact lps_len t f
  · exact fps_len t f
theorem lastC {e0 : List (Int × Int)} {x y : Int} {ad : Option Addr} {n cap : Nat} {w : World} (h : Pairs S w (.slice ad n cap) (e0 ++ [(x, y)])) : ∃ b off, ad = some ⟨b, off, none⟩ ∧ ∀ w', Below w.heap.size w w' → w'.cell? ⟨b, off + e0.length * 2, none⟩ = some (.int .i64 x) := by
  obtain ⟨b, off, rfl, _, _⟩ := h.at (k := e0.length) (by simp)
  refine ⟨b, off, rfl, fun w' hb => ?_⟩
  obtain ⟨b', off', e, c0, _⟩ := (h.stay (kpB hb)).at (k := e0.length) (by simp)
  cases e
  rw [List.getElem_concat_length rfl] at c0
  exact c0
theorem plainE_app {a b : List (Int × Int)} (h : plainE (a ++ b)) : plainE a ∧ plainE b := ⟨fun p hp => h p (List.mem_append_left _ hp), fun p hp => h p (List.mem_append_right _ hp)⟩
end Go.Proofs.Ytbcjhiponbfbnaa
