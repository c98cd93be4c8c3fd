/- A stack of automata with choices of the call's own. -/
import Derived.Test.YtnjddneelkdmoaaLef
set_option linter.unusedSimpArgs false
set_option linter.unusedVariables false
set_option linter.unusedSectionVars false
namespace Go.Proofs.Ytnjddneelkdmoaa
open Go.RowKit
set_option maxRecDepth 100000
variable {S T : Nat → Prop}
/-- The four cells of an automaton. -/
def nfCells (p : NfaD × Value × Value × Value) : List Value := [.int .i64 p.1.states, p.2.1, p.2.2.1, p.2.2.2]
/-- A stack: its automata, their lists, all of the call's own. -/
def NStk (base : Nat) (w : World) (v : Value) (ds : List NfaD) : Prop :=
  ∃ ps : List (NfaD × Value × Value × Value), ps.map (·.1) = ds ∧ w.ownsRow base 36 4 v ps.length (ps.flatMap nfCells) ∧ ∀ p ∈ ps, NfaO base w p.2.1 p.2.2.1 p.2.2.2 p.1
theorem NStk.nil (base : Nat) (w : World) : NStk base w (.slice none 0 0) [] := ⟨[], rfl, ⟨rfl, .inl ⟨rfl, rfl⟩⟩, fun _ h => absurd h List.not_mem_nil⟩
theorem NStk.stay {base : Nat} {w w' : World} {v : Value} {ds : List NfaD} (h : NStk base w v ds) (k : Below w.heap.size w w') : NStk base w' v ds := let ⟨ps, a, b, c⟩ := h; ⟨ps, a, ownStay b k, fun p hp => (c p hp).stay k⟩
theorem NStk.shape {base : Nat} {w : World} {v : Value} {ds : List NfaD} (h : NStk base w v ds) : ∃ a cap, v = .slice a ds.length cap ∧ ds.length ≤ 9223372036854775807 := by
  obtain ⟨ps, rfl, h, _⟩ := h
  rw [List.length_map]
  exact (ownFl h).shape
theorem len_nfCells (ps : List (NfaD × Value × Value × Value)) : (ps.flatMap nfCells).length = 4 * ps.length := by
  induction ps with
  | nil => rfl
  | cons p ps ih => rw [List.flatMap_cons, List.length_append, ih]; simp [nfCells]; omega
theorem get_nfCells (ps : List (NfaD × Value × Value × Value)) (k j : Nat) (hk : k < ps.length) (hj : j < 4) : (ps.flatMap nfCells)[4 * k + j]'(by rw [len_nfCells]; omega) = (nfCells ps[k])[j]'(by simp [nfCells]; omega) := by
  induction ps generalizing k with
  | nil => exact absurd hk (Nat.not_lt_zero _)
  | cons p ps ih =>
    cases k with
    | zero =>
      simp only [List.flatMap_cons, Nat.mul_zero, Nat.zero_add]
      rw [List.getElem_append_left (by simp [nfCells]; omega)]
      rfl
    | succ k =>
      simp only [List.flatMap_cons]
      rw [List.getElem_append_right (by simp [nfCells]; omega)]
      have := ih k (by simpa using hk)
      simp only [List.getElem_cons_succ]
      rw [← this]
      congr 1
      simp [nfCells]; omega
/-- An element, read. -/
theorem NStk.at {base : Nat} {w : World} {a : Option Addr} {n cap : Nat} {ds : List NfaD} (h : NStk base w (.slice a n cap) ds) {k : Nat} (hk : k < ds.length) :
    ∃ b off vm vf ve, a = some ⟨b, off, none⟩ ∧ w.cell? ⟨b, off + k * 4, none⟩ = some (.int .i64 ds[k].states) ∧ w.cell? ⟨b, off + k * 4 + 1, none⟩ = some vm ∧ w.cell? ⟨b, off + k * 4 + 2, none⟩ = some vf ∧ w.cell? ⟨b, off + k * 4 + 3, none⟩ = some ve ∧ NfaO base w vm vf ve ds[k] := by
  obtain ⟨ps, rfl, h, ho⟩ := h
  have hk' : k < ps.length := by simpa using hk
  have hf := (ownFl h).fl
  have g : ∀ j (hj : j < 4), ∃ b off, a = some ⟨b, off, none⟩ ∧ w.cell? ⟨b, off + (4 * k + j), none⟩ = some ((nfCells ps[k])[j]'(by simp [nfCells]; omega)) := fun j hj => by
    obtain ⟨b, off, e, c⟩ := hf.at (i := 4 * k + j) (by rw [len_nfCells]; omega)
    exact ⟨b, off, e, by rw [c, get_nfCells ps k j hk' hj]⟩
  obtain ⟨b, off, rfl, c0⟩ := g 0 (by omega)
  obtain ⟨b1, o1, e1, c1⟩ := g 1 (by omega); cases e1
  obtain ⟨b1, o1, e1, c2⟩ := g 2 (by omega); cases e1
  obtain ⟨b1, o1, e1, c3⟩ := g 3 (by omega); cases e1
  have m : 4 * k = k * 4 := Nat.mul_comm _ _
  rw [m] at c0 c1 c2 c3
  refine ⟨b, off, _, _, _, rfl, ?_, c1, c2, c3, ?_⟩
  · rw [List.getElem_map]; exact c0
  · rw [List.getElem_map]; exact ho _ (List.getElem_mem hk')
theorem NStk.take {base m : Nat} {w : World} {a : Option Addr} {n cap : Nat} {ds : List NfaD} (h : NStk base w (.slice a n cap) ds) (hn : n = ds.length) (hm : m ≤ ds.length) : NStk base w (.slice a m cap) (ds.take m) := by
  obtain ⟨ps, rfl, h, ho⟩ := h
  rw [List.length_map] at hn hm
  subst hn
  have := ownTake h hm
  refine ⟨ps.take m, by rw [List.map_take], ?_, fun p hp => ho p (List.mem_of_mem_take hp)⟩
  rw [List.length_take, Nat.min_eq_left hm]
  have e : (ps.flatMap nfCells).take (m * 4) = (ps.take m).flatMap nfCells := by
    conv => lhs; rw [← List.take_append_drop m ps, List.flatMap_append]
    rw [List.take_append_of_le_length (by rw [len_nfCells, List.length_take]; omega), List.take_of_length_le (by rw [len_nfCells, List.length_take]; omega)]
  rw [← e]; exact this
/-- One more behind an append. -/
theorem NStk.push {base n' cap' g' : Nat} {w w' : World} {v vm vf ve : Value} {ds : List NfaD} {D : NfaD} (h : NStk base w v ds) (hO : NfaO base w vm vf ve D) (hg : w.grownBy w' v.ownBlock)
    (hv : ∀ ps : List (NfaD × Value × Value × Value), ps.map (·.1) = ds → w.ownsRow base 36 4 v ps.length (ps.flatMap nfCells) → w'.ownsRow base 36 4 (.slice (some ⟨g', 0, none⟩) n' cap') (ps.length + 1) (ps.flatMap nfCells ++ [.int .i64 D.states, vm, vf, ve])) :
    NStk base w' (.slice (some ⟨g', 0, none⟩) n' cap') (ds ++ [D]) := by
  obtain ⟨ps, rfl, h, ho⟩ := h
  have key : ∀ {a b c : Value} {E : NfaD}, NfaO base w a b c E → NfaO base w' a b c E := fun k =>
    ⟨World.ownsRow.kept k.1 hg (ownOr k.1 h (ownNe2 k.1 h (by decide))), World.ownsRow.kept k.2.1 hg (ownOr k.2.1 h (ownNe2 k.2.1 h (by decide))), World.ownsRow.kept k.2.2.1 hg (ownOr k.2.2.1 h (ownNe2 k.2.2.1 h (by decide))), k.2.2.2⟩
  refine ⟨ps ++ [(D, vm, vf, ve)], by simp, ?_, fun p hp => ?_⟩
  · have := hv ps rfl h
    rw [List.length_append, List.flatMap_append]
    simpa [nfCells] using this
  · rcases List.mem_append.1 hp with h1 | h1
    · exact key (ho p h1)
    · rw [List.mem_singleton] at h1; subst h1; exact key hO
end Go.Proofs.Ytnjddneelkdmoaa
