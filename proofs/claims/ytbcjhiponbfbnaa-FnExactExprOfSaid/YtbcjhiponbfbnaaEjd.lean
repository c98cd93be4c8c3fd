/- NfaEither, NfaJoin: their values. -/
import Derived.Test.YtbcjhiponbfbnaaNfs
import Derived.Test.YtbcjhiponbfbnaaNfp
set_option linter.unusedSimpArgs false
set_option linter.unusedVariables false
set_option linter.unusedSectionVars false
namespace Go.Proofs.Ytbcjhiponbfbnaa
open Go.RowKit
theorem chkSmall' (D : NfaD) : smallW (chkN D) := by
  by_cases h : okN D
  · rw [chkN_yes h]
    have := okN_len h
    unfold smallW
    omega
  · rw [chkN_no h]; unfold smallW nfa0; simp
open Classical in
noncomputable def eiN (A B : NfaD) : NfaD := if okN A ∧ okN B then chkN (eitherD A B) else nfa0
open Classical in
noncomputable def eiB (A B : NfaD) : Bool := if okN A ∧ okN B then chkB (eitherD A B) else false
theorem eiN_yes {A B : NfaD} (hA : okN A) (hB : okN B) : eiN A B = chkN (eitherD A B) := by unfold eiN; rw [if_pos ⟨hA, hB⟩]
theorem eiN_no {A B : NfaD} (h : ¬ (okN A ∧ okN B)) : eiN A B = nfa0 := by unfold eiN; rw [if_neg h]
theorem eiB_yes {A B : NfaD} (hA : okN A) (hB : okN B) : eiB A B = chkB (eitherD A B) := by unfold eiB; rw [if_pos ⟨hA, hB⟩]
theorem eiB_no {A B : NfaD} (h : ¬ (okN A ∧ okN B)) : eiB A B = false := by unfold eiB; rw [if_neg h]
theorem eiSmall (A B : NfaD) : smallW (eiN A B) := by
  by_cases h : okN A ∧ okN B
  · rw [eiN_yes h.1 h.2]; exact chkSmall' _
  · rw [eiN_no h]; unfold smallW nfa0; simp
open Classical in
noncomputable def jnN (A B : NfaD) : NfaD := if okN A ∧ okN B then chkN (joinD A B) else nfa0
open Classical in
noncomputable def jnB (A B : NfaD) : Bool := if okN A ∧ okN B then chkB (joinD A B) else false
theorem jnN_yes {A B : NfaD} (hA : okN A) (hB : okN B) : jnN A B = chkN (joinD A B) := by unfold jnN; rw [if_pos ⟨hA, hB⟩]
theorem jnN_no {A B : NfaD} (h : ¬ (okN A ∧ okN B)) : jnN A B = nfa0 := by unfold jnN; rw [if_neg h]
theorem jnB_yes {A B : NfaD} (hA : okN A) (hB : okN B) : jnB A B = chkB (joinD A B) := by unfold jnB; rw [if_pos ⟨hA, hB⟩]
theorem jnB_no {A B : NfaD} (h : ¬ (okN A ∧ okN B)) : jnB A B = false := by unfold jnB; rw [if_neg h]
theorem jnSmall (A B : NfaD) : smallW (jnN A B) := by
  by_cases h : okN A ∧ okN B
  · rw [jnN_yes h.1 h.2]; exact chkSmall' _
  · rw [jnN_no h]; unfold smallW nfa0; simp
end Go.Proofs.Ytbcjhiponbfbnaa
