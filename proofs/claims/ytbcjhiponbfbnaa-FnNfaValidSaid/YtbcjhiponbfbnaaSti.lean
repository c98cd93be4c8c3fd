/- NfaStar: the program's answer. -/
import Derived.Test.YtbcjhiponbfbnaaChk
import Derived.Test.YtbcjhiponbfbnaaStr
import Derived.Test.YtbcjhiponbfbnaaNfp
set_option linter.unusedSimpArgs false
set_option linter.unusedVariables false
set_option linter.unusedSectionVars false
namespace Go.Proofs.Ytbcjhiponbfbnaa
open Go.RowKit
set_option maxRecDepth 100000
variable {S T : Nat → Prop}
open Classical in
noncomputable def stN (D : NfaD) : NfaD := if okN D then chkN (starD D) else nfa0
open Classical in
noncomputable def stB (D : NfaD) : Bool := if okN D then chkB (starD D) else false
theorem stN_yes {D : NfaD} (h : okN D) : stN D = chkN (starD D) := by unfold stN; rw [if_pos h]
theorem stN_no {D : NfaD} (h : ¬ okN D) : stN D = nfa0 := by unfold stN; rw [if_neg h]
theorem stB_yes {D : NfaD} (h : okN D) : stB D = chkB (starD D) := by unfold stB; rw [if_pos h]
theorem stB_no {D : NfaD} (h : ¬ okN D) : stB D = false := by unfold stB; rw [if_neg h]
theorem chkSmall (D : NfaD) : smallW (chkN D) := by
  by_cases h : okN D
  · rw [chkN_yes h]
    have := okN_len h
    unfold smallW
    omega
  · rw [chkN_no h]; unfold smallW nfa0; simp
theorem stSmall (D : NfaD) : smallW (stN D) := by
  by_cases h : okN D
  · rw [stN_yes h]; exact chkSmall _
  · rw [stN_no h]; unfold smallW nfa0; simp
end Go.Proofs.Ytbcjhiponbfbnaa
