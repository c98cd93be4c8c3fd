/- Automata with choices that a call made, under marks: an empty list may be said to lie anywhere above. -/
import Derived.Test.YtbcjhiponbfbnaaGD
set_option linter.unusedSimpArgs false
set_option linter.unusedVariables false
set_option linter.unusedSectionVars false
namespace Go.Proofs.Ytbcjhiponbfbnaa
open Go.RowKit
set_option maxRecDepth 100000
variable {S T : Nat → Prop}
def NfE (S : Nat → Prop) (w : World) (vm vf ve : Value) (D : NfaD) : Prop := ∀ X, w.heap.size ≤ X → NfaW (fun b => S b ∨ X ≤ b) w vm vf ve D
theorem NfE.stay {w w' : World} {vm vf ve : Value} {D : NfaD} (h : NfE S w vm vf ve D) (hs : w.heap.size ≤ w'.heap.size) (k : Ks S w w') : NfE S w' vm vf ve D :=
  fun X hX => (h X (Nat.le_trans hs hX)).stay (fun b hb hl => hb.elim (fun s => k b s hl) (fun x => absurd hl (by omega)))
theorem NfE.rd {w : World} {vm vf ve : Value} {D : NfaD} (h : NfE S w vm vf ve D) : NfaR (fun _ => True) w vm vf ve D := (h _ (Nat.le_refl _)).rd.mono (fun _ _ => trivial)
theorem NfaR.inHeap {w : World} {a b c : Value} {D : NfaD} (h : NfaR S w a b c D) : NfaR (fun b => S b ∧ b < w.heap.size) w a b c D := ⟨Trips.inHeap h.1, Ints.inHeap h.2.1, Ints.inHeap h.2.2⟩
theorem NfaO.e {w : World} {base : Nat} {vm vf ve : Value} {D : NfaD} (h : NfaO base w vm vf ve D) : NfE (fun b => base ≤ b ∧ b < w.heap.size) w vm vf ve D := by
  intro X hX
  obtain ⟨h1, h2, h3, h4⟩ := h
  have hty : 40 ≠ 3 := by decide
  have n12 := ownNe2 h1 h2 hty
  have n13 := ownNe2 h1 h3 hty
  have key : ∀ {e : TypeId} {sz n : Nat} {v : Value} {cs : List Value}, w.ownsRow base e sz v n cs → ∀ d : Nat, ∃ p, (∀ b, v.ownBlock = some b → p = b) ∧ ((v.ownBlock = some p ∧ base ≤ p ∧ p < w.heap.size) ∨ p = X + d) := by
    intro e sz n v cs h d
    rcases hv : v.ownBlock with _ | b
    · exact ⟨X + d, ⟨nofun, .inr rfl⟩⟩
    · have := World.ownsRow.lt h _ hv
      exact ⟨b, ⟨fun b' hb => by cases hb; rfl, .inl ⟨rfl, this.1, this.2⟩⟩⟩
  obtain ⟨p, p1, p3⟩ := key h1 0
  obtain ⟨q, q1, q3⟩ := key h2 1
  obtain ⟨r, r1, r3⟩ := key h3 2
  refine ⟨p, q, r, ⟨?_, ?_, ?_⟩, ⟨?_, ?_, ?_⟩, ownF h1 p1, ownF h2 q1, ownF h3 r1⟩
  · rcases p3 with ⟨_, a, b⟩ | a
    · exact .inl ⟨a, b⟩
    · exact .inr (by omega)
  · rcases q3 with ⟨_, a, b⟩ | a
    · exact .inl ⟨a, b⟩
    · exact .inr (by omega)
  · rcases r3 with ⟨_, a, b⟩ | a
    · exact .inl ⟨a, b⟩
    · exact .inr (by omega)
  · rintro rfl
    rcases p3 with ⟨a, _, b⟩ | a <;> rcases q3 with ⟨c, _, d⟩ | c
    · exact n12 _ a c
    all_goals omega
  · rintro rfl
    rcases p3 with ⟨a, _, b⟩ | a <;> rcases r3 with ⟨c, _, d⟩ | c
    · exact n13 _ a c
    all_goals omega
  · rintro rfl
    rcases q3 with ⟨a, _, b⟩ | a <;> rcases r3 with ⟨c, _, d⟩ | c
    · exact h4 _ a c
    all_goals omega
def smallW (D : NfaD) : Prop := D.moves.length ≤ 100000000000 ∧ D.firsts.length ≤ 100000000000 ∧ D.ends.length ≤ 100000000000
/-- Marks of a result. -/
def NfM (w : World) (vm vf ve : Value) (k : Int) (D : NfaD) : Prop :=
  ∃ T : Nat → Prop, NfW T w vm vf ve D.moves.length D.firsts.length D.ends.length (mkc k (3 * D.moves.length)) (mkc (k + 3 * D.moves.length) D.firsts.length) (mkc (k + 3 * D.moves.length + D.firsts.length) D.ends.length)
theorem NfM.stay {w w' : World} {vm vf ve : Value} {k : Int} {D : NfaD} (h : NfM w vm vf ve k D) (hb : Below w.heap.size w w') : NfM w' vm vf ve k D := let ⟨T, h⟩ := h; ⟨T, h.stay (ksB hb)⟩
end Go.Proofs.Ytbcjhiponbfbnaa
