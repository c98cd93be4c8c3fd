/- WordsExpr: the reference's. -/
import Derived.Test.YtbcjhiponbfbnaaWex
set_option linter.unusedSimpArgs false
set_option linter.unusedVariables false
set_option linter.unusedSectionVars false
namespace Go.Proofs.Ytbcjhiponbfbnaa
open Go.RowKit
set_option maxRecDepth 100000
variable {S T : Nat → Prop}
theorem weX_pos (l : List UInt8) : 0 < (weX l).length := by
  unfold weX
  by_cases h : l = []
  · simp [h]
  · rw [if_neg h]
    cases l with
    | nil => exact absurd rfl h
    | cons a t => simp [weP]
theorem weX_len (l : List UInt8) : (weX l).length ≤ 2 * l.length + 1 := by
  unfold weX
  by_cases h : l = []
  · simp [h]
  · rw [if_neg h]; have := weP_len l; omega
/-- A word. -/
def wOk (s : ByteArray) : Prop := letS s ∧ s.size ≤ 8
/-- The expression of the first words. -/
def wsf (ss : List ByteArray) : Nat → List (Int × Int)
  | 0 => [(1, 0)]
  | k + 1 => if k = 0 then weX (ss.getD k ByteArray.empty).data.toList else wsf ss k ++ weX (ss.getD k ByteArray.empty).data.toList ++ [(5, 0)]
theorem wsf_step (ss : List ByteArray) (k : Nat) : (wsf ss k).length ≤ (wsf ss (k + 1)).length := by
  rcases Nat.eq_zero_or_pos k with rfl | h
  · show 1 ≤ _
    rw [wsf, if_pos rfl]; exact weX_pos _
  · rw [wsf, if_neg (by omega)]; simp
theorem wsf_mono (ss : List ByteArray) {k m : Nat} (h : k ≤ m) : (wsf ss k).length ≤ (wsf ss m).length := by
  induction h with
  | refl => exact Nat.le_refl _
  | step _ ih => exact Nat.le_trans ih (wsf_step ss _)
/-- The words have an expression. -/
def wsP (ss : List ByteArray) : Prop := (∀ s ∈ ss, wOk s) ∧ (wsf ss ss.length).length ≤ 60
open Classical in
noncomputable def wsv (ss : List ByteArray) : List (Int × Int) := if wsP ss then wsf ss ss.length else []
theorem wsv_yes {ss : List ByteArray} (h : wsP ss) : wsv ss = wsf ss ss.length := by unfold wsv; rw [if_pos h]
theorem wsv_no {ss : List ByteArray} (h : ¬ wsP ss) : wsv ss = [] := by unfold wsv; rw [if_neg h]
theorem wsv_len (ss : List ByteArray) : (wsv ss).length ≤ 60 := by
  by_cases h : wsP ss
  · rw [wsv_yes h]; exact h.2
  · rw [wsv_no h]; simp
/-- The call answers a list of parts of its own, and a bool. -/
def RPb (w : World) (Q : Prop) (xs : List (Int × Int)) (e : Ending) (w' : World) : Prop := ∃ v b, e = .returned (.tuple #[v, .bool b]) ∧ Below w.heap.size w w' ∧ Hid (b = true ↔ Q) ∧ Hid (OwnP w' w.heap.size v xs)
end Go.Proofs.Ytbcjhiponbfbnaa
