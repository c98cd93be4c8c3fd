/- Pairs of numbers as keys. -/
import Derived.Test.YthdbgpdidolmaaaMrw
import Derived.DeepKeys5
namespace Go.Proofs.Ythdbgpdidolmaaa
open Go.RowKit Go.ChangeMaps
set_option maxRecDepth 100000
/-- A pair of numbers, as a value. -/
def kvP (p : Nat × Nat) : Value := .agg #[.int .i64 p.1, .int .i64 p.2]
def clP (p : Nat × Nat) : List Value := [.int .i64 p.1, .int .i64 p.2]
theorem litP (x : Nat × Nat) (hx : x.1 ≤ 1000000000 ∧ x.2 ≤ 1000000000) : ∃ l, keyOf Try.prog 131 (kvP x) = some l := by
  have h1 : IntKind.i64.min = -9223372036854775808 := rfl
  have h2 : IntKind.i64.max = 9223372036854775807 := rfl
  have w1 : (Lit.int .i64 ((x.1 : Nat) : Int)).wf = true := by simp [Lit.wf]; omega
  have w2 : (Lit.int .i64 ((x.2 : Nat) : Int)).wf = true := by simp [Lit.wf]; omega
  have u1 : Try.prog.underlying 131 = some (.array 2 3) := Try.underlying131
  have u2 : Try.prog.underlying 3 = some (.int .i64) := Try.underlying3
  have c1 : Try.prog.cellsOf 131 = 2 := by kernel_rfl
  have c2 : Try.prog.cellsOf 3 = 1 := by kernel_rfl
  have kt : Try.prog.keyType 131 = true := by kernel_rfl
  have hz : Nat.ble 1 Try.prog.types.size = true := by kernel_rfl
  obtain ⟨m, hm⟩ : ∃ m, Try.prog.types.size = m + 1 := ⟨Try.prog.types.size - 1, by have := Nat.le_of_ble_eq_true hz; omega⟩
  have hf : Value.formed Try.prog 131 (kvP x) = true := by
    unfold Value.formed kvP
    simp only [u1, c1]
    rfl
  have hl : Try.prog.keyLits (Try.prog.types.size + 1) 131 (kvP x).cells.toList = some [.int .i64 ((x.1 : Nat) : Int), .int .i64 ((x.2 : Nat) : Int)] := by
    have e : (kvP x).cells.toList = [.int .i64 ((x.1 : Nat) : Int), .int .i64 ((x.2 : Nat) : Int)] := rfl
    rw [e, hm]
    simp only [Program.keyLits, u1, u2, c1, c2, List.length_cons, List.length_nil, if_true]
    simp [List.range, List.range.loop, w1, w2]
  unfold keyOf
  rw [u1]
  simp only [kt, hf, hl, Bool.and_self, if_true, Option.map_some]
  exact ⟨_, rfl⟩
theorem kaPair : KeyA 135 131 3 kvP (fun p => p.1 ≤ 1000000000 ∧ p.2 ≤ 1000000000) where
  ul := Try.underlying135
  law := Maps.Keyed.of_law (deep_law_gate (by kernel_rfl) (Nat.le_of_ble_eq_true (by kernel_rfl)) (Nat.le_of_ble_eq_true (by kernel_rfl)) (by kernel_rfl) (by kernel_rfl))
  lit := litP
  inj := fun x y h => by
    unfold kvP at h
    injection h with h
    have h1 := congrArg (fun a : Array Value => a[0]?) h
    have h2 := congrArg (fun a : Array Value => a[1]?) h
    simp at h1 h2
    exact Prod.ext (by omega) (by omega)
  zero := fun w => by kernel_rfl
end Go.Proofs.Ythdbgpdidolmaaa
