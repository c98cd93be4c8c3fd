/- Sets of states: the reference's, as far as that they are sets of as many states.
The sets of states that are met, and the automaton of them: the reference's, as far as that it is an automaton.
The automaton of the sets of states: the reference's, as far as that it is an automaton. -/
import Derived.Deep.LoopGhost
import Derived.Deep.RegionHeld3
import Derived.Deep.RegionLaw
import Derived.Test.YtgihihnbapnnjaaGC
import Derived.Test.YtgihihnbapnnjaaGB
import Derived.Test.YtgihihnbapnnjaaGA
import Derived.Test.YtgihihnbapnnjaaGD
set_option linter.unusedSimpArgs false
set_option linter.unusedVariables false
set_option linter.unusedSectionVars false
namespace Go.Proofs.Ytgihihnbapnnjaa
open Go.RowKit
set_option maxRecDepth 100000
variable {S T : Nat → Prop}
/-- A cell of a row of the call's own is stored. -/
theorem ownSetIn {w : World} {base : Nat} {e : TypeId} {g n cap : Nat} {xs : List Value} (h : w.ownsRow base e 1 (.slice (some ⟨g, 0, none⟩) n cap) n xs) (i : Nat) (u : Value) : (w.setCell ⟨g, i, none⟩ u).ownsRow base e 1 (.slice (some ⟨g, 0, none⟩) n cap) n (xs.set i u) := by
  obtain ⟨hl, h | ⟨g', cap', cur, hv, hb, hh, hn, hm, hs, ht⟩⟩ := h
  · cases h.1
  · cases hv
    refine ⟨by rw [List.length_set]; exact hl, .inr ⟨g, cap, cur.setIfInBounds i u, rfl, hb, heap_set hh i u, hn, hm, by rw [Array.size_setIfInBounds]; exact hs, ?_⟩⟩
    rw [Array.toList_setIfInBounds, List.take_set, ht]
theorem ownCell {w : World} {base : Nat} {e : TypeId} {g n cap : Nat} {xs : List Value} (h : w.ownsRow base e 1 (.slice (some ⟨g, 0, none⟩) n cap) n xs) {i : Nat} (hi : i < xs.length) : w.cell? ⟨g, i, none⟩ = some xs[i] ∧ w.frozen? ⟨g, i, none⟩ = false := by
  have hf := ownAt h
  obtain ⟨b, off, e, _, c, f⟩ := hf.at hi
  cases e
  rw [Nat.zero_add] at c
  exact ⟨c, f i⟩
theorem rowOwn {α : Type} {f : α → Value} {e : TypeId} {w : World} {b n base : Nat} {xs : List α} (h : Row f e w b xs) (hn : xs.length = n) (hb : base ≤ b) (h9 : n ≤ 1000000000) : w.ownsRow base e 1 (.slice (some ⟨b, 0, none⟩) n n) n (xs.map f) := by
  subst hn
  exact ⟨by simp, .inr ⟨b, _, _, rfl, hb, h, Nat.le_refl _, by unfold maxLen; omega, by simp, by simp [List.take_of_length_le]⟩⟩
theorem bools_one (xs : List Bool) : ∀ u ∈ xs.map Value.bool, u.oneCell' = true := by intro u hu; obtain ⟨x, _, rfl⟩ := List.mem_map.1 hu; rfl
/-- How many are missing. -/
def miss (xs : List Bool) : Nat := xs.countP (! ·)
theorem miss_set {xs : List Bool} {i : Nat} (hi : i < xs.length) (h : xs[i] = false) : miss (xs.set i true) < miss xs := by
  unfold miss
  induction xs generalizing i with
  | nil => simp at hi
  | cons a t ih =>
    cases i with
    | zero => simp at h; subst h; simp [List.countP_cons]
    | succ i =>
      simp only [List.set_cons_succ, List.countP_cons]
      have := ih (i := i) (by simpa using hi) (by simpa using h)
      omega
/-- Moves, first states and ends of an automaton with choices are numbers of states. -/
structure WN (D : NfaD) (N : Nat) : Prop where
  st : D.states = N
  le : N ≤ 1000
  ml : D.moves.length ≤ 100000
  mv : ∀ m ∈ D.moves, (0 ≤ m.1 ∧ m.1 < N) ∧ (0 ≤ m.2.2 ∧ m.2.2 < N)
  fs : ∀ x ∈ D.firsts, 0 ≤ x ∧ x < N
  en : ∀ x ∈ D.ends, 0 ≤ x ∧ x < N
/-- A set of N states, in memory of the call's own. -/
def SetB (base N : Nat) (v : Value) (w : World) : Prop := ∃ m : List Bool, m.length = N ∧ OwnB w base v m
end Go.Proofs.Ytgihihnbapnnjaa
namespace Go.Proofs.Ytgihihnbapnnjaa
open Go.RowKit
set_option maxRecDepth 100000
variable {S T : Nat → Prop}
end Go.Proofs.Ytgihihnbapnnjaa
namespace Go.Proofs.Ytgihihnbapnnjaa
open Go.RowKit
set_option maxRecDepth 100000
variable {S T : Nat → Prop}
/-- The call answers an automaton, or none and false. -/
def RDw (w : World) (e : Ending) (w' : World) : Prop := ∃ (D : DfaD) (v1 v2 : Value) (b : Bool), e = .returned (.tuple #[.agg #[v1, v2], .bool b]) ∧ Below w.heap.size w w' ∧ Hid ((b = true ∧ okD D) ∨ (b = false ∧ D = ([], []))) ∧ Hid (DfaR (w.heap.size ≤ ·) w' v1 v2 D)
theorem dfaNone (w : World) : DfaR S w (.slice none 0 0) (.slice none 0 0) ([], []) := ⟨⟨[], Fl.nil _, rfl, fun i hi => absurd hi (Nat.not_lt_zero _)⟩, Fl.nil _⟩
theorem RDw.no {w w' : World} (hb : Below w.heap.size w w') : RDw w (.returned (.tuple #[.agg #[.slice none 0 0, .slice none 0 0], .bool false])) w' := ⟨([], []), _, _, _, rfl, hb, Lib.hid (.inr ⟨rfl, rfl⟩), dfaNone _⟩
end Go.Proofs.Ytgihihnbapnnjaa
