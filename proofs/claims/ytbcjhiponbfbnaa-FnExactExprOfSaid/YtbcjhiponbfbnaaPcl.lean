/- The closures of PositionNfa: the state of a letter, a move marked; the table of marks. -/
import Derived.StillTailTactics
import Derived.Test.YtbcjhiponbfbnaaFol
set_option linter.unusedSimpArgs false
set_option linter.unusedVariables false
set_option linter.unusedSectionVars false
namespace Go.Proofs.Ytbcjhiponbfbnaa
open Go.RowKit
set_option maxRecDepth 100000
variable {S T : Nat → Prop}
/-- The table's cells. -/
def tabA (F : List Int) (L : List (Int × Int)) (pl : List Int) : Array Value := ((List.range 1600).map fun k => Value.bool (ttM F L pl (k / 40) (k % 40))).toArray
theorem tabA_nil (pl : List Int) : tabA [] [] pl = Array.replicate 1600 (.bool false) := by
  unfold tabA
  simp only [ttM_nil]
  apply Array.ext'
  rw [List.map_const', List.length_range, Array.toList_replicate]
theorem tabA_at (F : List Int) (L : List (Int × Int)) (pl : List Int) {i j : Nat} (hi : i < 40) (hj : j < 40) : (tabA F L pl)[i * 40 + j]? = some (.bool (ttM F L pl i j)) := by
  have h : i * 40 + j < 1600 := by omega
  unfold tabA
  rw [List.getElem?_toArray, List.getElem?_map, List.getElem?_range h, Option.map_some]
  rw [show (i * 40 + j) / 40 = i by omega, show (i * 40 + j) % 40 = j by omega]
theorem tabA_set {F F' : List Int} {L L' : List (Int × Int)} {pl : List Int} {i j : Nat} (hi : i < 40) (hj : j < 40) (h : ∀ x y, ttM F' L' pl x y = if x = i ∧ y = j then true else ttM F L pl x y) :
    (tabA F L pl).setIfInBounds (i * 40 + j) (.bool true) = tabA F' L' pl := by
  apply Array.ext'
  unfold tabA
  rw [Array.toList_setIfInBounds]
  apply List.ext_getElem?
  intro k
  rw [List.getElem?_set]
  simp only [List.length_map, List.length_range, List.getElem?_map]
  by_cases hk : k < 1600
  · rw [List.getElem?_range hk, Option.map_some, Option.map_some, h (k / 40) (k % 40)]
    by_cases he : i * 40 + j = k
    · subst he
      rw [if_pos rfl, if_pos hk, if_pos ⟨by omega, by omega⟩]
    · rw [if_neg he, if_neg (fun hc => he (by omega))]
  · rw [List.getElem?_eq_none (l := List.range 1600) (by rw [List.length_range]; omega)]
    split
    · omega
    · rfl
end Go.Proofs.Ytbcjhiponbfbnaa
