/- Trimming: the reference's. -/
import Derived.Test.YthdbgpdidolmaaaOrd
import Derived.Test.YthdbgpdidolmaaaBld
import Derived.Deep.RegionHeld3
namespace Go.Proofs.Ythdbgpdidolmaaa
open Go.RowKit
set_option maxRecDepth 100000
variable {S T : Nat → Prop}
/-- The automaton of the states that can be reached. -/
def trimD (D : DfaD) : DfaD := autD (dn D) (de D) (rnd (dn D) 0 D.1.length)
/-- One row of it. -/
def rowA (D : DfaD) (M : List Nat) (s c : Nat) : Int := ((M.idxOf (dn D s c) : Nat) : Int)
def rowL (D : DfaD) (M : List Nat) (s m : Nat) : List Int := (List.range m).map (rowA D M s)
theorem rowL_succ (D : DfaD) (M : List Nat) (s m : Nat) : rowL D M s (m + 1) = rowL D M s m ++ [rowA D M s m] := by simp [rowL, List.range_succ]
theorem rowL_len (D : DfaD) (M : List Nat) (s m : Nat) : (rowL D M s m).length = m := by simp [rowL]
theorem trim_rows (D : DfaD) (M : List Nat) : autD (dn D) (de D) M = (M.map fun s => rowL D M s 3, M.map (de D)) := rfl
theorem idx_le : ∀ {M : List Nat} {j : Nat} (h : j < M.length), M.idxOf M[j] ≤ j
  | a :: M, 0, h => by simp
  | a :: M, j + 1, h => by
    have := idx_le (M := M) (j := j) (by simpa using h)
    rw [List.idxOf_cons, List.getElem_cons_succ]
    cases a == M[j]'(by simpa using h) <;> simp [cond] <;> omega
theorem idx_least {M : List Nat} {t : Nat} (h : t ∈ M) : ∃ hk : M.idxOf t < (M.map fun s : Nat => (s : Int)).length, (M.map fun s : Nat => (s : Int))[M.idxOf t] = (t : Int) ∧ ∀ j (hj : j < M.idxOf t), (M.map fun s : Nat => (s : Int))[j]'(by omega) ≠ (t : Int) := by
  have h1 : M.idxOf t < M.length := List.idxOf_lt_length_of_mem h
  refine ⟨by simpa using h1, by simp [List.getElem_idxOf], fun j hj he => ?_⟩
  simp only [List.getElem_map] at he
  have he' : M[j]'(by omega) = t := by omega
  have := idx_le (M := M) (j := j) (by omega)
  rw [he'] at this
  omega
theorem trim_eq {D : DfaD} {k : Nat} (h : (rnd (dn D) 0 k).length = k) (hk : k ≤ D.1.length) : trimD D = autD (dn D) (de D) (rnd (dn D) 0 k) := by
  unfold trimD
  rw [rnd_done (dn D) (Nat.le_of_eq h) hk]
end Go.Proofs.Ythdbgpdidolmaaa
