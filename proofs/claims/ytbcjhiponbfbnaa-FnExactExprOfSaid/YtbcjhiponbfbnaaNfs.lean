/- Automata with choices that are made of others: the data, and what their makers share. -/
import Derived.Test.YtbcjhiponbfbnaaRgi
import Derived.Test.YtbcjhiponbfbnaaCln
import Derived.Test.YtbcjhiponbfbnaaGC
set_option linter.unusedSimpArgs false
set_option linter.unusedVariables false
set_option linter.unusedSectionVars false
namespace Go.Proofs.Ytbcjhiponbfbnaa
open Go.RowKit
set_option maxRecDepth 100000
variable {S T : Nat → Prop}
theorem okS_ge {xs : List Int} {n : Int} (h : okS xs n) : ∀ i (hi : i < xs.length), (i : Int) ≤ xs[i] := by
  intro i
  induction i with
  | zero => intro hi; exact (h 0 hi hi).1.1
  | succ i ih =>
    intro hi
    have h1 := ih (by omega)
    have h2 := (h (i + 1) hi hi).2 (by omega)
    simp only [Nat.add_sub_cancel] at h2
    omega
theorem okS_len {xs : List Int} {n : Int} (h : okS xs n) (hn : 0 ≤ n ∧ n ≤ 40) : xs.length ≤ 40 := by
  rcases Nat.eq_zero_or_pos xs.length with h0 | h0
  · omega
  · have h1 := okS_ge h (xs.length - 1) (by omega)
    have h2 := (h (xs.length - 1) (by omega) (by omega)).1.2
    omega
theorem okN_len {D : NfaD} (h : okN D) : D.moves.length ≤ 400 ∧ D.firsts.length ≤ 40 ∧ D.ends.length ≤ 40 := ⟨h.2.1, okS_len h.2.2.1 h.1, okS_len h.2.2.2.1 h.1⟩
theorem okS_rng {xs : List Int} {n : Int} (h : okS xs n) (hn : 0 ≤ n ∧ n ≤ 40) : ∀ x ∈ xs, 0 ≤ x ∧ x ≤ 39 := by
  intro x hx
  obtain ⟨i, hi, rfl⟩ := List.mem_iff_getElem.1 hx
  have := (h i hi hi).1
  omega
/-- Every move turned round. -/
def trn (m : Int × Int × Int) : Int × Int × Int := (m.2.2, m.2.1, m.1)
def turnD (D : NfaD) : NfaD := ⟨D.states, D.moves.map trn, D.ends, D.firsts⟩
def starD (D : NfaD) : NfaD := ⟨D.states + 1, D.moves ++ D.firsts.map (fun t => (D.states, -1, t)) ++ D.ends.map (fun f => (f, -1, D.states)), [D.states], [D.states]⟩
/-- A move between greater numbers. -/
def sft (n : Int) (m : Int × Int × Int) : Int × Int × Int := (m.1 + n, m.2.1, m.2.2 + n)
def eitherD (A B : NfaD) : NfaD := ⟨A.states + B.states, A.moves ++ B.moves.map (sft A.states), A.firsts ++ B.firsts.map (· + A.states), A.ends ++ B.ends.map (· + A.states)⟩
/-- Moves without a letter from each state to each other one. -/
def links (n : Int) (es fs : List Int) : List (Int × Int × Int) := es.flatMap fun e => fs.map fun t => (e, -1, t + n)
def joinD (A B : NfaD) : NfaD := ⟨A.states + B.states, A.moves ++ B.moves.map (sft A.states) ++ links A.states A.ends B.firsts, A.firsts, B.ends.map (· + A.states)⟩
open Classical in
/-- The automaton, if it is valid. -/
noncomputable def chkN (D : NfaD) : NfaD := if okN D then D else nfa0
open Classical in
noncomputable def chkB (D : NfaD) : Bool := decide (okN D)
theorem chkN_yes {D : NfaD} (h : okN D) : chkN D = D := by unfold chkN; rw [if_pos h]
theorem chkN_no {D : NfaD} (h : ¬ okN D) : chkN D = nfa0 := by unfold chkN; rw [if_neg h]
theorem chkB_yes {D : NfaD} (h : okN D) : chkB D = true := by unfold chkB; simpa using h
theorem chkB_no {D : NfaD} (h : ¬ okN D) : chkB D = false := by unfold chkB; simpa using h
theorem map_take_step {α β : Type} (f : α → β) (l : List α) {k : Nat} (h : k < l.length) : (l.take (k + 1)).map f = (l.take k).map f ++ [f l[k]] := by
  rw [List.take_succ_eq_append_getElem h, List.map_append]; rfl
/-- The header is filled in: an automaton under way. -/
theorem Sr.nst {w W w' : World} {g : Nat} {z0 z1 z2 z3 : Value} {l : List (Option Rw)} (H : Sr W w' (some (g, .cells #[z0, z1, z2, z3] 36 (0, 0))) l) (hb : Below w.heap.size w W) (n : Int) {vm vf ve : Value} {ms : List (Int × Int × Int)} {fs es : List Int}
    (hm : (vm = .slice none 0 0 ∧ ms = []) ∨ some ⟨40, 3, vm, ms.length, cells3 ms⟩ ∈ l) (hf : some ⟨3, 1, vf, fs.length, fs.map (.int .i64 ·)⟩ ∈ l) (he : some ⟨3, 1, ve, es.length, es.map (.int .i64 ·)⟩ ∈ l)
    (hne : ∀ b, vf.ownBlock = some b → ve.ownBlock ≠ some b) :
    NSt w ((((w'.setCell ⟨g, 0, none⟩ (.int .i64 n)).setCell ⟨g, 1, none⟩ vm).setCell ⟨g, 2, none⟩ vf).setCell ⟨g, 3, none⟩ ve) g w.heap.size n vm vf ve ms fs es := by
  obtain ⟨h1, h2, h3⟩ := H.hd _ _ rfl
  have hs := hb.size
  have hbel := hb.trans (H.bel.mono hs)
  have hs2 := hbel.size
  have e1 := h3 _ hf
  have e2 := h3 _ he
  refine ⟨bel4 hbel (by omega) _ _ _ _, by omega, blk4s h1, ?_, ?_, ?_, ⟨Nat.le_refl _, ?_⟩, hne⟩
  · rcases hm with ⟨rfl, rfl⟩ | hm
    · exact Own3.nil _ _ _
    · have e0 := h3 _ hm
      exact ownSetNe (ownSetNe (ownSetNe (ownSetNe (ownBase (H.own _ hm) hs) e0 _) e0 _) e0 _) e0 _
  · exact ownSetNe (ownSetNe (ownSetNe (ownSetNe (ownBase (H.own _ hf) hs) e1 _) e1 _) e1 _) e1 _
  · exact ownSetNe (ownSetNe (ownSetNe (ownSetNe (ownBase (H.own _ he) hs) e2 _) e2 _) e2 _) e2 _
  · simp [World.setCell]; omega
end Go.Proofs.Ytbcjhiponbfbnaa
