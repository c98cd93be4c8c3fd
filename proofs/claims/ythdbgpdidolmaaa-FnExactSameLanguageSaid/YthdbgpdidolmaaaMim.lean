/- Minimize: the program's answer. -/
import Derived.Test.YthdbgpdidolmaaaMin
namespace Go.Proofs.Ythdbgpdidolmaaa
open Go.RowKit
set_option maxRecDepth 100000
variable {S T : Nat → Prop}
open Classical in
/-- The automaton D where p holds, else the empty one. -/
noncomputable def orNo (p : Prop) (D : DfaD) : DfaD := if p then D else ([], [])
theorem orNo_pos {p : Prop} (h : p) (D : DfaD) : orNo p D = D := if_pos h
theorem orNo_neg {p : Prop} (h : ¬ p) (D : DfaD) : orNo p D = ([], []) := if_neg h
/-- The empty automaton reads from nil. -/
theorem dfaNil {S : Nat → Prop} {w : World} {q : Nat} (hq : S q) (ho : ∃ o, S o ∧ o ≠ q) : DfaW S w (.slice none 0 0) (.slice none 0 0) ([], []) := by
  obtain ⟨o, ho, hne⟩ := ho
  have hf : ∀ {P : Nat → Prop}, FlW P w (.slice none 0 0) 0 [] := ⟨none, 0, rfl, ⟨Nat.zero_le _, Nat.le_refl _, fun _ => rfl⟩, fun i hi => absurd hi (Nat.not_lt_zero _)⟩
  exact ⟨q, hq, ⟨o, fun _ => 0, fun _ => undef, ⟨ho, hne⟩, hf, fun i hi => absurd hi (Nat.not_lt_zero _), fun i j _ hj => absurd hj (Nat.not_lt_zero _)⟩, hf⟩
/-- The result's two cells are written. -/
theorem RD.fin {w wr : World} {B : Nat} {C : DfaD} {v1 v2 : Value} (hb : Below w.heap.size w wr) (hB : w.heap.size ≤ B) (hd : DfaW (fun b => (w.heap.size ≤ b ∧ b < wr.heap.size) ∧ b ≠ B) wr v1 v2 C) :
    RD C w (.returned (.agg #[v1, v2])) ((wr.setCell ⟨B, 0, none⟩ v1).setCell ⟨B, 1, none⟩ v2) := by
  refine ⟨_, _, rfl, (hb.setCell hB _).setCell hB _, (hd.stay (fun b hb _ => ?_)).mono (fun b hb => by simpa [World.setCell] using hb.1)⟩
  rw [Below.heap_setCell _ _ _ _ hb.2, Below.heap_setCell _ _ _ _ hb.2]
theorem RD.nil {w wr : World} (hb : Below w.heap.size w wr) (hz : w.heap.size + 2 ≤ wr.heap.size) :
    RD ([], []) w (.returned (.agg #[.slice none 0 0, .slice none 0 0])) ((wr.setCell ⟨w.heap.size + 1, 0, none⟩ (.slice none 0 0)).setCell ⟨w.heap.size + 1, 1, none⟩ (.slice none 0 0)) := by
  refine ⟨_, _, rfl, (hb.setCell (by simp) _).setCell (by simp) _, dfaNil (q := w.heap.size) ⟨Nat.le_refl _, ?_⟩ ⟨w.heap.size + 1, ⟨by omega, ?_⟩, by omega⟩⟩
  · simp [World.setCell]; omega
  · simp [World.setCell]; omega
end Go.Proofs.Ythdbgpdidolmaaa
