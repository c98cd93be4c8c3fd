/- The smallest automaton of two side by side: the program's. -/
import Derived.Test.YthdbgpdidolmaaaPrd
namespace Go.Proofs.Ythdbgpdidolmaaa
open Go.RowKit
set_option maxRecDepth 100000
variable {S T : Nat → Prop}
/-- The smallest automaton, if at most 40 pairs are met. -/
noncomputable def sbD (g : Bool → Bool → Bool) (A B : DfaD) : DfaD := orNo (¬ pbig A B 40) (canon (lg (pn A B) (pe g A B) (0, 0)))
theorem prD_pos {g : Bool → Bool → Bool} {A B : DfaD} (hA : okD A) (hB : okD B) : prD g A B = sbD g A B := by
  unfold prD sbD
  by_cases h : pbig A B 40
  · rw [orNo_neg (fun hh : prP A B => hh.2.2 h), orNo_neg (fun hh => hh h)]
  · rw [orNo_pos (p := prP A B) ⟨hA, hB, h⟩, orNo_pos h]
theorem prD_neg {g : Bool → Bool → Bool} {A B : DfaD} (h : ¬ (okD A ∧ okD B)) : prD g A B = ([], []) := orNo_neg (p := prP A B) (fun hh => h ⟨hh.1, hh.2.1⟩) _
def gBoth (x y : Bool) : Bool := x && y
def gEither (x y : Bool) : Bool := x || y
def gLess (x y : Bool) : Bool := x && !y
def gApart (x y : Bool) : Bool := x != y
end Go.Proofs.Ythdbgpdidolmaaa
