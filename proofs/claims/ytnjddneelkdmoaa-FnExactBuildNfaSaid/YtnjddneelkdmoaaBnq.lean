/- The stack of automata over the parts of an expression: each step. -/
import Derived.Test.YtnjddneelkdmoaaBno
import Derived.Test.YtnjddneelkdmoaaLef
set_option linter.unusedSimpArgs false
set_option linter.unusedVariables false
set_option linter.unusedSectionVars false
namespace Go.Proofs.Ytnjddneelkdmoaa
open Go.RowKit
set_option maxRecDepth 100000
/-- The automata of the expressions, the first one first. -/
noncomputable def nst : List Re → List NfaD
  | [] => []
  | t :: s => nst s ++ [bN t]
theorem nst_len (s : List Re) : (nst s).length = s.length := by induction s with
  | nil => rfl
  | cons t s ih => simp [nst, ih]
/-- The next state of the stack: what is taken off, what is put on it, and whether that is made. -/
theorem push_nst {s s' : List Re} {x y : Int} (h : push (some s) (x, y) = some s') (hs : ∀ t ∈ s, bB t = true) (hpl : x ≠ 6 ∧ x ≠ 7) :
    (x = 1 ∧ y = 0 ∧ nst s' = nst s ++ [nfa0] ∧ ∀ t ∈ s', bB t = true) ∨ (x = 2 ∧ y = 0 ∧ nst s' = nst s ++ [⟨1, [], [0], [0]⟩] ∧ ∀ t ∈ s', bB t = true) ∨ (x = 3 ∧ nst s' = nst s ++ [⟨2, [(0, y, 1)], [0], [1]⟩] ∧ ∀ t ∈ s', bB t = true) ∨
    (x = 8 ∧ y = 0 ∧ ∃ (m : List NfaD) (A : NfaD) (u : Re), nst s = m ++ [A] ∧ nst s' = m ++ [stN A] ∧ u ∈ s' ∧ bB u = stB A ∧ (stB A = true → ∀ t ∈ s', bB t = true)) ∨
    (x = 4 ∧ y = 0 ∧ ∃ (m : List NfaD) (A B : NfaD) (u : Re), nst s = m ++ [A, B] ∧ nst s' = m ++ [jnN A B] ∧ u ∈ s' ∧ bB u = jnB A B ∧ (jnB A B = true → ∀ t ∈ s', bB t = true)) ∨
    (x = 5 ∧ y = 0 ∧ ∃ (m : List NfaD) (A B : NfaD) (u : Re), nst s = m ++ [A, B] ∧ nst s' = m ++ [eiN A B] ∧ u ∈ s' ∧ bB u = eiB A B ∧ (eiB A B = true → ∀ t ∈ s', bB t = true)) := by
  obtain ⟨hok, h⟩ := push_some h
  rcases pNeeds_cases x y hok with ⟨rfl, hy⟩ | ⟨rfl, hy⟩ | ⟨rfl, hy⟩ | ⟨rfl, hy⟩ | ⟨rfl, hy⟩ | ⟨rfl, hy⟩ | ⟨rfl, hy⟩ | ⟨rfl, hy⟩
  all_goals
    rcases h with ⟨h0, h⟩ | ⟨h0, h⟩ | ⟨h0, h⟩
    all_goals first | (exfalso; simp [pNeeds] at h0; done) | (exfalso; exact hpl.1 rfl) | (exfalso; exact hpl.2 rfl) | skip
  · obtain ⟨rfl, _⟩ := h
    exact .inl ⟨rfl, hy, rfl, fun t ht => by rcases List.mem_cons.1 ht with rfl | ht; exact rfl; exact hs t ht⟩
  · obtain ⟨rfl, _⟩ := h
    exact .inr (.inl ⟨rfl, hy, rfl, fun t ht => by rcases List.mem_cons.1 ht with rfl | ht; exact rfl; exact hs t ht⟩)
  · obtain ⟨rfl, _⟩ := h
    exact .inr (.inr (.inl ⟨rfl, rfl, fun t ht => by rcases List.mem_cons.1 ht with rfl | ht; exact rfl; exact hs t ht⟩))
  · obtain ⟨a, b, r, rfl, rfl, _⟩ := h
    have k := bJoin_yes (hs a (by simp)) (hs b (by simp))
    exact .inr (.inr (.inr (.inr (.inl ⟨rfl, hy, nst r, bN a, bN b, Re.join a b, by simp [nst], by show nst r ++ [bN (Re.join a b)] = _; rw [k.1], List.mem_cons_self .., k.2, fun hb t ht => by
      rcases List.mem_cons.1 ht with rfl | ht
      · show bB (Re.join a b) = true; rw [k.2]; exact hb
      · exact hs t (by simp [ht])⟩))))
  · obtain ⟨a, b, r, rfl, rfl, _⟩ := h
    have k := bEither_yes (hs a (by simp)) (hs b (by simp))
    exact .inr (.inr (.inr (.inr (.inr ⟨rfl, hy, nst r, bN a, bN b, Re.either a b, by simp [nst], by show nst r ++ [bN (Re.either a b)] = _; rw [k.1], List.mem_cons_self .., k.2, fun hb t ht => by
      rcases List.mem_cons.1 ht with rfl | ht
      · show bB (Re.either a b) = true; rw [k.2]; exact hb
      · exact hs t (by simp [ht])⟩))))
  · obtain ⟨a, r, rfl, rfl, _⟩ := h
    have k := bStar_yes (hs a (by simp))
    exact .inr (.inr (.inr (.inl ⟨rfl, hy, nst r, bN a, Re.star a, rfl, by show nst r ++ [bN (Re.star a)] = _; rw [k.1], List.mem_cons_self .., k.2, fun hb t ht => by
      rcases List.mem_cons.1 ht with rfl | ht
      · show bB (Re.star a) = true; rw [k.2]; exact hb
      · exact hs t (by simp [ht])⟩)))
end Go.Proofs.Ytnjddneelkdmoaa
