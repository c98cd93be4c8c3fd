/- From the row's reading of an argument to what memory holds: automata with choices. No condition. -/
import Derived.Deep.Strs
import Derived.Test.YtgihihnbapnnjaaOpn
set_option linter.unusedSimpArgs false
set_option linter.unusedVariables false
set_option linter.unusedSectionVars false
namespace Go.Proofs.Ytgihihnbapnnjaa.Opn
set_option maxRecDepth 100000
open Go.ChangeShapes Go.WideShapes Go.Deep Go.RowKit
variable {H : Type} {enc : TypeId × Value → H} {W : World} {base : Nat} {spare : Nat → Bool} {held : Bool}
theorem moves1 {cs : List Value} {x : DataW H × List MemPlace} {fuel : Nat} (h : DataW.trod enc Try.prog W base spare held fuel 40 cs = some x) : ∃ v xs, cs = [v] ∧ Trips (fun _ => True) W v xs := by
  obtain ⟨v, n, css, rfl, hf, _, hx⟩ := slice (s := 3) (by omega) Try.underlying40 (by kernel_rfl) h
  have hc : Try.prog.cellsOf 132 = 3 := by kernel_rfl
  have hc0 : Try.prog.cellsOf 3 = 1 := by kernel_rfl
  have : ∀ i, i < n → ∃ z : Int × Int × Int, css i = [.int .i64 z.1, .int .i64 z.2.1, .int .i64 z.2.2] := fun i hi => by
    obtain ⟨m, y, hy⟩ := hx i hi
    obtain ⟨y0, y1, y2, n, _, hl, h0, h1, h2⟩ := trod_struct3 Try.underlying132 hy
    generalize css i = cs at *
    match cs, hl.trans hc with
    | [c0, c1, c2], _ =>
      simp only [hc0, List.drop_zero, List.take_succ_cons, List.take_zero, List.drop_succ_cons] at h0 h1 h2
      obtain ⟨z0, e0, _⟩ := DataW.trod_int Try.underlying3 h0
      obtain ⟨z1, e1, _⟩ := DataW.trod_int Try.underlying3 h1
      obtain ⟨z2, e2, _⟩ := DataW.trod_int Try.underlying3 h2
      simp at e0 e1 e2
      subst e0 e1 e2
      exact ⟨(z0, z1, z2), rfl⟩
  obtain ⟨zs, hz⟩ := choose_lt (α := Int × Int × Int) this
  refine ⟨v, (List.range n).map zs, rfl, ?_⟩
  unfold Trips cells3
  rw [flat_of (f := fun z : Int × Int × Int => [.int .i64 z.1, .int .i64 z.2.1, .int .i64 z.2.2]) hz] at hf
  simpa using hf
theorem nfa1 {cs : List Value} {x : DataW H × List MemPlace} {fuel : Nat} (h : DataW.trod enc Try.prog W base spare held fuel 42 cs = some x) : ∃ v0 v1 v2 D, cs = [.int .i64 D.states, v0, v1, v2] ∧ NfaR (fun _ => True) W v0 v1 v2 D := by
  obtain ⟨y0, y1, y2, y3, n, _, hl, h0, h1, h2, h3⟩ := Go.Joins.trod_struct4 Try.underlying42 h
  have hc : Try.prog.cellsOf 42 = 4 := by kernel_rfl
  have hc0 : Try.prog.cellsOf 3 = 1 := by kernel_rfl
  have hc1 : Try.prog.cellsOf 40 = 1 := by kernel_rfl
  have hc2 : Try.prog.cellsOf 24 = 1 := by kernel_rfl
  match cs, hl.trans hc with
  | [c0, c1, c2, c3], _ =>
    simp only [hc0, hc1, hc2, List.drop_zero, List.take_succ_cons, List.take_zero, List.drop_succ_cons] at h0 h1 h2 h3
    obtain ⟨z0, e0, _⟩ := DataW.trod_int Try.underlying3 h0
    obtain ⟨v1, ms, e1, r1⟩ := moves1 h1
    obtain ⟨v2, fs, e2, r2⟩ := ints1 h2
    obtain ⟨v3, es, e3, r3⟩ := ints1 h3
    simp at e0 e1 e2 e3
    subst e0 e1 e2 e3
    exact ⟨c1, c2, c3, ⟨z0, ms, fs, es⟩, rfl, r1, r2, r3⟩
theorem nfa {v : Value} {b0 : Nat} {r : Reach} {d : DataW H} {ps : List MemPlace} (hv : Value.okWide Try.prog W r b0 42 v) (h : DataW.Trod enc Try.prog W base spare held 42 v d ps) : ∃ v0 v1 v2 D, v = .agg #[.int .i64 D.states, v0, v1, v2] ∧ NfaR (fun _ => True) W v0 v1 v2 D := by
  obtain ⟨cs, rfl, _⟩ := okWide_struct Try.underlying42 hv
  obtain ⟨fuel, hf⟩ := h
  obtain ⟨v0, v1, v2, D, e, hx⟩ := nfa1 hf
  refine ⟨v0, v1, v2, D, ?_, hx⟩
  simp [Value.cells] at e
  obtain ⟨l⟩ := cs
  simp at e
  rw [e]
end Go.Proofs.Ytgihihnbapnnjaa.Opn
