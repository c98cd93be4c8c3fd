/- Sets of states: the reference's, as far as that they are sets of as many states.
The sets of states that are met, and the automaton of them: the reference's, as far as that it is an automaton.
The automaton of the sets of states: the reference's, as far as that it is an automaton. -/
import Derived.Deep.LoopGhost
import Derived.Deep.RegionHeld3
import Derived.Deep.RegionLaw
import Derived.Test.YtbcjhiponbfbnaaGC
import Derived.Test.YtbcjhiponbfbnaaGB
import Derived.Test.YtbcjhiponbfbnaaGA
import Derived.Test.YtbcjhiponbfbnaaGD
set_option linter.unusedSimpArgs false
set_option linter.unusedVariables false
set_option linter.unusedSectionVars false
namespace Go.Proofs.Ytbcjhiponbfbnaa
open Go.RowKit
set_option maxRecDepth 100000
variable {S T : Nat → Prop}
/-- A cell of a row of the call's own is stored. -/
theorem ownSetIn {w : World} {base : Nat} {e : TypeId} {g n cap : Nat} {xs : List Value} (h : w.ownsRow base e 1 (.slice (some ⟨g, 0, none⟩) n cap) n xs) (i : Nat) (u : Value) : (w.setCell ⟨g, i, none⟩ u).ownsRow base e 1 (.slice (some ⟨g, 0, none⟩) n cap) n (xs.set i u) := by
  obtain ⟨hl, h | ⟨g', cap', cur, hv, hb, hh, hn, hm, hs, ht⟩⟩ := h
  · cases h.1
  · cases hv
    refine ⟨by rw [List.length_set]; exact hl, .inr ⟨g, cap, cur.setIfInBounds i u, rfl, hb, heap_set hh i u, hn, hm, by rw [Array.size_setIfInBounds]; exact hs, ?_⟩⟩
    rw [Array.toList_setIfInBounds, List.take_set, ht]
theorem ownCell {w : World} {base : Nat} {e : TypeId} {g n cap : Nat} {xs : List Value} (h : w.ownsRow base e 1 (.slice (some ⟨g, 0, none⟩) n cap) n xs) {i : Nat} (hi : i < xs.length) : w.cell? ⟨g, i, none⟩ = some xs[i] ∧ w.frozen? ⟨g, i, none⟩ = false := by
  have hf := ownAt h
  obtain ⟨b, off, e, _, c, f⟩ := hf.at hi
  cases e
  rw [Nat.zero_add] at c
  exact ⟨c, f i⟩
theorem rowOwn {α : Type} {f : α → Value} {e : TypeId} {w : World} {b n base : Nat} {xs : List α} (h : Row f e w b xs) (hn : xs.length = n) (hb : base ≤ b) (h9 : n ≤ 1000000000) : w.ownsRow base e 1 (.slice (some ⟨b, 0, none⟩) n n) n (xs.map f) := by
  subst hn
  exact ⟨by simp, .inr ⟨b, _, _, rfl, hb, h, Nat.le_refl _, by unfold maxLen; omega, by simp, by simp [List.take_of_length_le]⟩⟩
theorem bools_one (xs : List Bool) : ∀ u ∈ xs.map Value.bool, u.oneCell' = true := by intro u hu; obtain ⟨x, _, rfl⟩ := List.mem_map.1 hu; rfl
/-- How many are missing. -/
def miss (xs : List Bool) : Nat := xs.countP (! ·)
theorem miss_set {xs : List Bool} {i : Nat} (hi : i < xs.length) (h : xs[i] = false) : miss (xs.set i true) < miss xs := by
  unfold miss
  induction xs generalizing i with
  | nil => simp at hi
  | cons a t ih =>
    cases i with
    | zero => simp at h; subst h; simp [List.countP_cons]
    | succ i =>
      simp only [List.set_cons_succ, List.countP_cons]
      have := ih (i := i) (by simpa using hi) (by simpa using h)
      omega
/-- Moves, first states and ends of an automaton with choices are numbers of states. -/
structure WN (D : NfaD) (N : Nat) : Prop where
  st : D.states = N
  le : N ≤ 1000
  ml : D.moves.length ≤ 100000
  mv : ∀ m ∈ D.moves, (0 ≤ m.1 ∧ m.1 < N) ∧ (0 ≤ m.2.2 ∧ m.2.2 < N)
  fs : ∀ x ∈ D.firsts, 0 ≤ x ∧ x < N
  en : ∀ x ∈ D.ends, 0 ≤ x ∧ x < N
/-- A set of N states, in memory of the call's own. -/
def SetB (base N : Nat) (v : Value) (w : World) : Prop := ∃ m : List Bool, m.length = N ∧ OwnB w base v m
end Go.Proofs.Ytbcjhiponbfbnaa
namespace Go.Proofs.Ytbcjhiponbfbnaa
open Go.RowKit
set_option maxRecDepth 100000
variable {S T : Nat → Prop}
theorem elBools : ElemT 133 47 1 24 := ElemT.of (z := .slice none 0 0) Try.underlying133 (by kernel_rfl) rfl (by decide)
/-- A list of sets. -/
structure LB (base N : Nat) (ls : List Value) (vL : Value) (w : World) : Prop where
  own : w.ownsRow base 47 1 vL ls.length ls
  rows : ∀ v ∈ ls, SetB base N v w
theorem SetB.stay {base N : Nat} {v : Value} {w w' : World} (h : SetB base N v w) (hb : Below w.heap.size w w') : SetB base N v w' := let ⟨m, h1, h2⟩ := h; ⟨m, h1, h2.stay hb⟩
theorem SetB.base {base base' N : Nat} {v : Value} {w : World} (h : SetB base N v w) (hb : base' ≤ base) : SetB base' N v w := let ⟨m, h1, h2⟩ := h; ⟨m, h1, ownBase h2 hb⟩
theorem SetB.grow {base base' N n sz : Nat} {v u : Value} {e : TypeId} {xs : List Value} {w w' : World} (h : SetB base N v w) (hu : w.ownsRow base' e sz u n xs) (hg : w.grownBy w' u.ownBlock) (hne : 4 ≠ e) : SetB base N v w' :=
  let ⟨m, h1, h2⟩ := h; ⟨m, h1, World.ownsRow.kept h2 hg (ownOr h2 hu (ownNe2 h2 hu hne))⟩
theorem LB.stay {base N : Nat} {ls : List Value} {vL : Value} {w w' : World} (h : LB base N ls vL w) (hb : Below w.heap.size w w') : LB base N ls vL w' := ⟨ownStay h.own hb, fun v hv => (h.rows v hv).stay hb⟩
theorem LB.grow {base base' N n sz : Nat} {ls : List Value} {vL u : Value} {e : TypeId} {xs : List Value} {w w' : World} (h : LB base N ls vL w) (hu : w.ownsRow base' e sz u n xs) (hg : w.grownBy w' u.ownBlock) (h1 : 4 ≠ e) (h2 : 47 ≠ e) : LB base N ls vL w' :=
  ⟨h.own.kept hg (ownOr h.own hu (ownNe2 h.own hu h2)), fun v hv => (h.rows v hv).grow hu hg h1⟩
theorem LB.add {base N : Nat} {ls : List Value} {vL vL' u : Value} {w w' : World} (h : LB base N ls vL w) (hu : SetB base N u w) (hg : w.grownBy w' vL.ownBlock) (ho : w'.ownsRow base 47 1 vL' (ls.length + 1) (ls ++ [u])) : LB base N (ls ++ [u]) vL' w' :=
  ⟨by simpa using ho, fun v hv => by
    rcases List.mem_append.1 hv with hv | hv
    · exact (h.rows v hv).grow h.own hg (by decide)
    · simp at hv; subst hv; exact hu.grow h.own hg (by decide)⟩
/-- A list of rows. -/
structure LR (base : Nat) (rs : List (Value × List Int)) (vN : Value) (w : World) : Prop where
  own : w.ownsRow base 34 1 vN rs.length (rs.map (·.1))
  rows : ∀ p ∈ rs, OwnI w base p.1 p.2
theorem LR.stay {base : Nat} {rs : List (Value × List Int)} {vN : Value} {w w' : World} (h : LR base rs vN w) (hb : Below w.heap.size w w') : LR base rs vN w' := ⟨ownStay h.own hb, fun p hp => (h.rows p hp).stay hb⟩
theorem LR.grow {base base' n sz : Nat} {rs : List (Value × List Int)} {vN u : Value} {e : TypeId} {xs : List Value} {w w' : World} (h : LR base rs vN w) (hu : w.ownsRow base' e sz u n xs) (hg : w.grownBy w' u.ownBlock) (h1 : 3 ≠ e) (h2 : 34 ≠ e) : LR base rs vN w' :=
  ⟨h.own.kept hg (ownOr h.own hu (ownNe2 h.own hu h2)), fun p hp => World.ownsRow.kept (h.rows p hp) hg (ownOr (h.rows p hp) hu (ownNe2 (h.rows p hp) hu h1))⟩
/-- Another list of ints, in newer memory, was written. -/
theorem LR.growI {base B n : Nat} {rs : List (Value × List Int)} {vN u : Value} {xs : List Value} {w w' : World} (h : LR base rs vN w) (hu : w.ownsRow B 3 1 u n xs) (hg : w.grownBy w' u.ownBlock) (hlt : ∀ p ∈ rs, ∀ b, p.1.ownBlock = some b → b < B) : LR base rs vN w' :=
  ⟨h.own.kept hg (ownOr h.own hu (ownNe2 h.own hu (by decide))), fun p hp => World.ownsRow.kept (h.rows p hp) hg (ownOr (h.rows p hp) hu (fun b hb hb' => by
    have h1 := hlt p hp b hb
    have h2 := (World.ownsRow.lt hu b hb').1
    omega))⟩
theorem LR.add {base : Nat} {rs : List (Value × List Int)} {vN vN' u : Value} {r : List Int} {w w' : World} (h : LR base rs vN w) (hu : OwnI w base u r) (hg : w.grownBy w' vN.ownBlock) (ho : w'.ownsRow base 34 1 vN' (rs.length + 1) (rs.map (·.1) ++ [u])) : LR base (rs ++ [(u, r)]) vN' w' :=
  ⟨by simpa using ho, fun p hp => by
    have h0 : OwnI w base p.1 p.2 := by
      rcases List.mem_append.1 hp with hp | hp
      · exact h.rows p hp
      · simp at hp; subst hp; exact hu
    exact World.ownsRow.kept h0 hg (ownOr h0 h.own (ownNe2 h0 h.own (by decide)))⟩
theorem LR.lt {base : Nat} {rs : List (Value × List Int)} {vN : Value} {w : World} (h : LR base rs vN w) : ∀ p ∈ rs, ∀ b, p.1.ownBlock = some b → b < w.heap.size := fun p hp b hb => (World.ownsRow.lt (h.rows p hp) b hb).2
theorem LR.read {base : Nat} {rs : List (Value × List Int)} {vN : Value} {w : World} (h : LR base rs vN w) : IntSS (base ≤ ·) w vN (rs.map (·.2)) := by
  refine ⟨rs.map (·.1), by rw [List.length_map]; exact (ownFl h.own).fl, by simp, fun i hi => ?_⟩
  have hi' : i < rs.length := by simpa using hi
  have := (h.rows _ (List.getElem_mem hi')).rd
  simpa [List.getD_eq_getElem?_getD, hi'] using this
theorem LB.at {base N g n cap : Nat} {ls : List Value} {w : World} (h : LB base N ls (.slice (some ⟨g, 0, none⟩) n cap) w) (hn : n = ls.length) {i : Nat} (hi : i < ls.length) : w.cell? ⟨g, i, none⟩ = some ls[i] ∧ SetB base N ls[i] w := by
  subst hn
  exact ⟨(ownCell h.own hi).1, h.rows _ (List.getElem_mem hi)⟩
end Go.Proofs.Ytbcjhiponbfbnaa
namespace Go.Proofs.Ytbcjhiponbfbnaa
open Go.RowKit
set_option maxRecDepth 100000
variable {S T : Nat → Prop}
/-- The call answers an automaton, or none and false. -/
def RDw (w : World) (e : Ending) (w' : World) : Prop := ∃ (D : DfaD) (v1 v2 : Value) (b : Bool), e = .returned (.tuple #[.agg #[v1, v2], .bool b]) ∧ Below w.heap.size w w' ∧ Hid ((b = true ∧ okD D) ∨ (b = false ∧ D = ([], []))) ∧ Hid (DfaR (w.heap.size ≤ ·) w' v1 v2 D)
theorem dfaNone (w : World) : DfaR S w (.slice none 0 0) (.slice none 0 0) ([], []) := ⟨⟨[], Fl.nil _, rfl, fun i hi => absurd hi (Nat.not_lt_zero _)⟩, Fl.nil _⟩
theorem RDw.no {w w' : World} (hb : Below w.heap.size w w') : RDw w (.returned (.tuple #[.agg #[.slice none 0 0, .slice none 0 0], .bool false])) w' := ⟨([], []), _, _, _, rfl, hb, Lib.hid (.inr ⟨rfl, rfl⟩), dfaNone _⟩
end Go.Proofs.Ytbcjhiponbfbnaa
