/- The automata that are built are short. -/
import Derived.Test.YtbcjhiponbfbnaaBnv
set_option linter.unusedSimpArgs false
set_option linter.unusedVariables false
set_option linter.unusedSectionVars false
namespace Go.Proofs.Ytbcjhiponbfbnaa
open Go.RowKit
def lenN (D : NfaD) : Prop := D.moves.length ≤ 400 ∧ D.firsts.length ≤ 40 ∧ D.ends.length ≤ 40
theorem chkN_len (D : NfaD) : lenN (chkN D) := by
  by_cases h : okN D
  · rw [chkN_yes h]; exact okN_len h
  · rw [chkN_no h]; simp [nfa0, lenN]
theorem stN_len (D : NfaD) : lenN (stN D) := by
  by_cases h : okN D
  · rw [stN_yes h]; exact chkN_len _
  · rw [stN_no h]; simp [nfa0, lenN]
theorem jnN_len (A B : NfaD) : lenN (jnN A B) := by
  by_cases h : okN A ∧ okN B
  · rw [jnN_yes h.1 h.2]; exact chkN_len _
  · rw [jnN_no h]; simp [nfa0, lenN]
theorem eiN_len (A B : NfaD) : lenN (eiN A B) := by
  by_cases h : okN A ∧ okN B
  · rw [eiN_yes h.1 h.2]; exact chkN_len _
  · rw [eiN_no h]; simp [nfa0, lenN]
theorem bld_len (t : Re) : ∀ D, bld t = some D → lenN D := by
  intro D h
  cases t with
  | none => cases h; simp [nfa0, lenN]
  | empty => cases h; simp [lenN]
  | letter c => cases h; simp [lenN]
  | both a b => cases h
  | not a => cases h
  | join a b =>
    simp only [bld] at h
    split at h
    · split at h
      · cases h; exact jnN_len _ _
      · cases h
    · cases h
  | either a b =>
    simp only [bld] at h
    split at h
    · split at h
      · cases h; exact eiN_len _ _
      · cases h
    · cases h
  | star a =>
    simp only [bld] at h
    split at h
    · split at h
      · cases h; exact stN_len _
      · cases h
    · cases h
theorem bN_len (t : Re) : lenN (bN t) := by
  unfold bN
  cases h : bld t with
  | none => simp [nfa0, lenN]
  | some D => exact bld_len t D h
theorem bvN_len (e : List (Int × Int)) : lenN (bvN e) := by
  unfold bvN
  cases plT e with
  | none => simp [nfa0, lenN]
  | some t => exact bN_len t
end Go.Proofs.Ytbcjhiponbfbnaa
