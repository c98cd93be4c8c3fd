/- BuildNfa: its value. -/
import Derived.Test.YtbcjhiponbfbnaaEmp
import Derived.Test.YtbcjhiponbfbnaaSti
import Derived.Test.YtbcjhiponbfbnaaEjd
set_option linter.unusedSimpArgs false
set_option linter.unusedVariables false
set_option linter.unusedSectionVars false
namespace Go.Proofs.Ytbcjhiponbfbnaa
open Go.RowKit
set_option maxRecDepth 100000
variable {S T : Nat → Prop}
/-- The automaton of an expression, if it is made. -/
noncomputable def bld : Re → Option NfaD
  | .none => some nfa0
  | .empty => some ⟨1, [], [0], [0]⟩
  | .letter c => some ⟨2, [(0, c, 1)], [0], [1]⟩
  | .join a b => match bld a, bld b with | some A, some B => if jnB A B then some (jnN A B) else none | _, _ => none
  | .either a b => match bld a, bld b with | some A, some B => if eiB A B then some (eiN A B) else none | _, _ => none
  | .both _ _ => none
  | .not _ => none
  | .star a => match bld a with | some A => if stB A then some (stN A) else none | none => none
noncomputable def bN (t : Re) : NfaD := (bld t).getD nfa0
noncomputable def bB (t : Re) : Bool := (bld t).isSome
theorem bB_some {t : Re} (h : bB t = true) : bld t = some (bN t) := by
  unfold bB at h; unfold bN
  cases hb : bld t with
  | none => rw [hb] at h; cases h
  | some D => rfl
theorem bB_none {t : Re} (h : bB t = false) : bld t = none := by
  unfold bB at h
  cases hb : bld t with
  | none => rfl
  | some D => rw [hb] at h; cases h
theorem stN_false {D : NfaD} (h : stB D = false) : stN D = nfa0 := by
  by_cases hD : okN D
  · rw [stB_yes hD] at h; rw [stN_yes hD]
    by_cases hE : okN (starD D)
    · rw [chkB_yes hE] at h; cases h
    · exact chkN_no hE
  · exact stN_no hD
theorem eiN_false {A B : NfaD} (h : eiB A B = false) : eiN A B = nfa0 := by
  by_cases hD : okN A ∧ okN B
  · rw [eiB_yes hD.1 hD.2] at h; rw [eiN_yes hD.1 hD.2]
    by_cases hE : okN (eitherD A B)
    · rw [chkB_yes hE] at h; cases h
    · exact chkN_no hE
  · exact eiN_no hD
theorem jnN_false {A B : NfaD} (h : jnB A B = false) : jnN A B = nfa0 := by
  by_cases hD : okN A ∧ okN B
  · rw [jnB_yes hD.1 hD.2] at h; rw [jnN_yes hD.1 hD.2]
    by_cases hE : okN (joinD A B)
    · rw [chkB_yes hE] at h; cases h
    · exact chkN_no hE
  · exact jnN_no hD
theorem bStar_no {a : Re} (h : bB a = false) : bN (.star a) = nfa0 ∧ bB (.star a) = false := by unfold bN bB; simp [bld, bB_none h]
theorem bStar_yes {a : Re} (h : bB a = true) : bN (.star a) = stN (bN a) ∧ bB (.star a) = stB (bN a) := by
  have e : bld (.star a) = if stB (bN a) then some (stN (bN a)) else none := by simp only [bld, bB_some h]
  cases hs : stB (bN a)
  · rw [hs] at e
    have h0 := stN_false hs
    rw [h0]
    unfold bN bB
    rw [e]
    exact ⟨rfl, rfl⟩
  · rw [hs] at e
    have : bN (.star a) = (bld (.star a)).getD nfa0 := rfl
    rw [this, e]
    unfold bB
    rw [e]
    exact ⟨rfl, rfl⟩
theorem bJoin_noA {a b : Re} (h : bB a = false) : bN (.join a b) = nfa0 ∧ bB (.join a b) = false := by unfold bN bB; simp [bld, bB_none h]
theorem bJoin_noB {a b : Re} (h : bB b = false) : bN (.join a b) = nfa0 ∧ bB (.join a b) = false := by
  unfold bN bB
  cases hb : bld a <;> simp [bld, bB_none h, hb]
theorem bJoin_yes {a b : Re} (h : bB a = true) (h' : bB b = true) : bN (.join a b) = jnN (bN a) (bN b) ∧ bB (.join a b) = jnB (bN a) (bN b) := by
  have e : bld (.join a b) = if jnB (bN a) (bN b) then some (jnN (bN a) (bN b)) else none := by simp only [bld, bB_some h, bB_some h']
  cases hs : jnB (bN a) (bN b)
  · rw [hs] at e
    have h0 := jnN_false hs
    rw [h0]
    unfold bN bB
    rw [e]
    exact ⟨rfl, rfl⟩
  · rw [hs] at e
    have : bN (.join a b) = (bld (.join a b)).getD nfa0 := rfl
    rw [this, e]
    unfold bB
    rw [e]
    exact ⟨rfl, rfl⟩
theorem bEither_noA {a b : Re} (h : bB a = false) : bN (.either a b) = nfa0 ∧ bB (.either a b) = false := by unfold bN bB; simp [bld, bB_none h]
theorem bEither_noB {a b : Re} (h : bB b = false) : bN (.either a b) = nfa0 ∧ bB (.either a b) = false := by
  unfold bN bB
  cases hb : bld a <;> simp [bld, bB_none h, hb]
theorem bEither_yes {a b : Re} (h : bB a = true) (h' : bB b = true) : bN (.either a b) = eiN (bN a) (bN b) ∧ bB (.either a b) = eiB (bN a) (bN b) := by
  have e : bld (.either a b) = if eiB (bN a) (bN b) then some (eiN (bN a) (bN b)) else none := by simp only [bld, bB_some h, bB_some h']
  cases hs : eiB (bN a) (bN b)
  · rw [hs] at e
    have h0 := eiN_false hs
    rw [h0]
    unfold bN bB
    rw [e]
    exact ⟨rfl, rfl⟩
  · rw [hs] at e
    have : bN (.either a b) = (bld (.either a b)).getD nfa0 := rfl
    rw [this, e]
    unfold bB
    rw [e]
    exact ⟨rfl, rfl⟩
end Go.Proofs.Ytbcjhiponbfbnaa
