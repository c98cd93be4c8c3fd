/- Exploring numbers: the program's. -/
import Derived.Test.YthdbgpdidolmaaaXst
import Derived.StillTailTactics
import Derived.Deep.RegionLaw
namespace Go.Proofs.Ythdbgpdidolmaaa
open Go.RowKit
set_option maxRecDepth 100000
/-- What the exploring gives. -/
def XP {α : Type} [DecidableEq α] (kv : α → Value) (cl : α → List Value) (t : TypeId) (sz : Nat) (nx : α → Nat → α) (en : α → Bool) (s0 : α) (most : Nat) (w : World) (e : Ending) (w' : World) : Prop :=
  ∃ vN vE vM ok, e = .returned (.tuple #[.agg #[vN, vE], vM, .bool ok]) ∧ Below w.heap.size w w' ∧
    Hid ((ok = true ∧ ∃ k, (rnd nx s0 k).length = k ∧ k ≤ most ∧ DfaW (fun b => w.heap.size ≤ b ∧ b < w'.heap.size) w' vN vE (autD nx en (rnd nx s0 k)) ∧ w'.ownsRow w.heap.size t sz vM k ((rnd nx s0 k).flatMap cl)) ∨
      (ok = false ∧ vN = .slice none 0 0 ∧ vE = .slice none 0 0 ∧ vM = .slice none 0 0 ∧ ∃ k, most < (rnd nx s0 k).length))
theorem flat1 {α : Type} (f : α → Value) (M : List α) : M.flatMap (fun s => [f s]) = M.map f := by
  induction M with
  | nil => rfl
  | cons a t ih => simp [List.flatMap_cons, ih]
end Go.Proofs.Ythdbgpdidolmaaa
