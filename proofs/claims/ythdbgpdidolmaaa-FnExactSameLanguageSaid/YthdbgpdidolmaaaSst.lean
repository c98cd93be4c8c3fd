/- States with the same language: the program's refinement. Valid automata. -/
import Derived.Test.YthdbgpdidolmaaaDfv
import Derived.Test.YthdbgpdidolmaaaRow
import Derived.StillTailTactics
import Derived.Deep.LoopGhost
namespace Go.Proofs.Ythdbgpdidolmaaa
open Go.RowKit
set_option maxRecDepth 100000
variable {S T : Nat → Prop}

/-- The next classes of two states are the same. -/
def nextSame (D : DfaD) (f : Nat → Nat) (s o : Nat) : Prop := f (dn D s 0) = f (dn D o 0) ∧ f (dn D s 1) = f (dn D o 1) ∧ f (dn D s 2) = f (dn D o 2)
/-- A function of the states as a list. -/
def fL (D : DfaD) (f : Nat → Nat) : List Int := (List.range D.1.length).map fun s => ((f s : Nat) : Int)
theorem fL_len (D : DfaD) (f : Nat → Nat) : (fL D f).length = D.1.length := by simp [fL]
theorem fL_get (D : DfaD) (f : Nat → Nat) {s : Nat} (h : s < D.1.length) : (fL D f)[s]'(by rw [fL_len]; exact h) = (f s : Int) := by simp [fL]
theorem fL_at {w : World} {D : DfaD} {f : Nat → Nat} {a : Option Addr} {n cap : Nat} (h : Ints S w (.slice a n cap) (fL D f)) {s : Nat} (hs : s < D.1.length) : ∃ b off, a = some ⟨b, off, none⟩ ∧ w.cell? ⟨b, off + s, none⟩ = some (.int .i64 ((f s : Nat) : Int)) := by
  obtain ⟨b, off, e, hc⟩ := h.at (k := s) (by rw [fL_len]; exact hs)
  exact ⟨b, off, e, by rw [hc, fL_get D f hs]⟩
theorem fc_zero_mark {D : DfaD} (hD : okD D) {k : Nat} (hk : k < D.1.length) : ∃ h : fc D 0 k < D.2.length, D.2[fc D 0 k] = de D k ∧ ∀ j (hj : j < fc D 0 k), D.2[j] ≠ de D k := by
  have hl : fc D 0 k < D.1.length := Nat.lt_of_le_of_lt (fc_le D 0 k) hk
  refine ⟨by rw [hD.2.1]; exact hl, ?_, fun j hj he => ?_⟩
  · rw [de_cell hD hl]; exact (eqv_zero D).1 (fc_eqv D 0 k)
  · rw [de_cell hD (by omega)] at he
    exact fc_least D 0 k hj ((eqv_zero D).2 he)
theorem stepOk {D : DfaD} {k t s : Nat} : eqv D (k + 1) t s ↔ fc D k t = fc D k s ∧ nextSame D (fc D k) t s := by
  rw [eqv_succ]
  unfold nextSame
  simp only [fc_same]
end Go.Proofs.Ythdbgpdidolmaaa
