/- The automaton of all pairs of states that are met: the program's exploring, at pairs. -/
import Derived.StillTailTactics
import Derived.Deep.RegionLaw
import Derived.Test.YtcbhfopabgiiiaaGB
import Derived.Test.YtcbhfopabgiiiaaGA
set_option linter.unusedSimpArgs false
set_option linter.unusedVariables false
set_option linter.unusedSectionVars false
namespace Go.Proofs.Ytcbhfopabgiiiaa
open Go.RowKit
set_option maxRecDepth 100000
theorem pairs_at {S : Nat → Prop} {w : World} {a : Option Addr} {n m cap : Nat} {M : List (Nat × Nat)} (h : Fl S w (.slice a n cap) m (M.flatMap clP)) {k : Nat} (hk : k < M.length) :
    ∃ b off, a = some ⟨b, off, none⟩ ∧ w.cell? ⟨b, off + k * 2, none⟩ = some (.int .i64 ((M[k].1 : Nat) : Int)) ∧ w.cell? ⟨b, off + k * 2 + 1, none⟩ = some (.int .i64 ((M[k].2 : Nat) : Int)) := by
  have hl : (M.flatMap clP).length = 2 * M.length := by
    clear h hk
    induction M with
    | nil => rfl
    | cons p t ih => simp only [List.flatMap_cons, List.length_append, ih, clP, List.length_cons, List.length_nil]; omega
  obtain ⟨b, off, e, c0, c1⟩ := Fl.at2 h (i := 2 * k) (by omega)
  obtain ⟨e0, e1⟩ := flat2_at (fun p : Nat × Nat => Value.int .i64 ((p.1 : Nat) : Int)) (fun p => Value.int .i64 ((p.2 : Nat) : Int)) M k hk
  refine ⟨b, off, e, ?_, ?_⟩
  · rw [Nat.mul_comm k 2, c0]; rw [← e0]; exact (List.getElem?_eq_getElem _).symm
  · rw [Nat.mul_comm k 2, c1]; rw [← e1]; exact (List.getElem?_eq_getElem _).symm
theorem clP_len (M : List (Nat × Nat)) : (M.flatMap clP).length = M.length * 2 := by
  induction M with
  | nil => rfl
  | cons p t ih => simp only [List.flatMap_cons, List.length_append, ih, clP, List.length_cons, List.length_nil]; omega
/-- The call answers a pair; new memory at most. -/
def RPn (t : Nat × Nat) (w : World) (e : Ending) (w' : World) : Prop := e = .returned (.agg #[.int .i64 ((t.1 : Nat) : Int), .int .i64 ((t.2 : Nat) : Int)]) ∧ Below w.heap.size w w'
end Go.Proofs.Ytcbhfopabgiiiaa
