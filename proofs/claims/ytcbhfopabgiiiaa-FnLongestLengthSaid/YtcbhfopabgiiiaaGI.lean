/- Two automata side by side: the program's.
The smallest automaton of two side by side: the program's.
The smallest automaton of two side by side is small. No program.
Plain laws of languages that the statements about automata rest on. -/
import Derived.Deep.RegionHeld3
import Derived.StillTailTactics
import Derived.Test.YtcbhfopabgiiiaaXpp
import Derived.Test.YtcbhfopabgiiiaaGG
set_option linter.unusedSimpArgs false
set_option linter.unusedVariables false
set_option linter.unusedSectionVars false
namespace Go.Proofs.Ytcbhfopabgiiiaa
open Go.RowKit
set_option maxRecDepth 100000
variable {S T : Nat → Prop}
/-- Both move. -/
def pn (A B : DfaD) (s : Nat × Nat) (c : Nat) : Nat × Nat := (dn A s.1 c, dn B s.2 c)
/-- Both marks. -/
def pe (g : Bool → Bool → Bool) (A B : DfaD) (s : Nat × Nat) : Bool := g (de A s.1) (de B s.2)
/-- A pair of states. -/
def pst (A B : DfaD) (s : Nat × Nat) : Prop := s.1 < A.1.length ∧ s.2 < B.1.length
theorem pst_zero {A B : DfaD} (hA : okD A) (hB : okD B) : pst A B (0, 0) := ⟨hA.1.1, hB.1.1⟩
theorem pst_step {A B : DfaD} (hA : okD A) (hB : okD B) (s : Nat × Nat) (h : pst A B s) (c : Nat) (hc : c < 3) : pst A B (pn A B s c) := ⟨dn_lt hA h.1 hc, dn_lt hB h.2 hc⟩
theorem pst_small {A B : DfaD} (hA : okD A) (hB : okD B) (s : Nat × Nat) (h : pst A B s) : s.1 ≤ 1000000000 ∧ s.2 ≤ 1000000000 := by
  have h1 := h.1; have h2 := h.2; have h3 := hA.1.2; have h4 := hB.1.2
  omega
/-- More than n pairs are met. -/
def pbig (A B : DfaD) (n : Nat) : Prop := ∃ k, n < (rnd (pn A B) (0, 0) k).length
theorem pbig_not {A B : DfaD} {n k : Nat} (h : (rnd (pn A B) (0, 0) k).length = k) (hk : k ≤ n) : ¬ pbig A B n := fun ⟨j, hj⟩ => by
  rcases Nat.le_total k j with h1 | h1
  · rw [rnd_done (pn A B) (Nat.le_of_eq h) h1] at hj; omega
  · have := (rnd_pre (pn A B) (0, 0) h1).length_le; omega
theorem pair_ok {A B : DfaD} {g : Bool → Bool → Bool} {k : Nat} (h : (rnd (pn A B) (0, 0) k).length = k) (hk : k ≤ 40) : okD (autD (pn A B) (pe g A B) (rnd (pn A B) (0, 0) k)) :=
  aut_ok (by have := rnd_pos (pn A B) (0, 0) k; omega) (by omega) (rnd_closed (pn A B) (Nat.le_of_eq h))
theorem pair_lg {A B : DfaD} {g : Bool → Bool → Bool} {k : Nat} (h : (rnd (pn A B) (0, 0) k).length = k) : lgD (autD (pn A B) (pe g A B) (rnd (pn A B) (0, 0) k)) = lg (pn A B) (pe g A B) (0, 0) := by
  unfold lgD
  rw [aut_lgs (rnd_closed (pn A B) (Nat.le_of_eq h)) (rnd_pos _ _ _)]
  have h0 := rnd_zero (pn A B) (0, 0) k
  rw [List.getElem?_eq_getElem (rnd_pos _ _ _)] at h0
  injection h0 with h0
  rw [h0]
/-- Whether there is a result. -/
def prP (A B : DfaD) : Prop := okD A ∧ okD B ∧ ¬ pbig A B 40
/-- The smallest automaton of two side by side. -/
noncomputable def prD (g : Bool → Bool → Bool) (A B : DfaD) : DfaD := orNo (prP A B) (canon (lg (pn A B) (pe g A B) (0, 0)))
/-- The call answers an automaton in new memory, and whether there is one. -/
def RDb (D : DfaD) (p : Prop) (w : World) (e : Ending) (w' : World) : Prop :=
  ∃ v1 v2 b, e = .returned (.tuple #[.agg #[v1, v2], .bool b]) ∧ Below w.heap.size w w' ∧ Hid (b = true ↔ p) ∧ Hid (DfaW (fun b => w.heap.size ≤ b ∧ b < w'.heap.size) w' v1 v2 D)
end Go.Proofs.Ytcbhfopabgiiiaa
namespace Go.Proofs.Ytcbhfopabgiiiaa
open Go.RowKit
set_option maxRecDepth 100000
variable {S T : Nat → Prop}
/-- The smallest automaton, if at most 40 pairs are met. -/
noncomputable def sbD (g : Bool → Bool → Bool) (A B : DfaD) : DfaD := orNo (¬ pbig A B 40) (canon (lg (pn A B) (pe g A B) (0, 0)))
theorem prD_pos {g : Bool → Bool → Bool} {A B : DfaD} (hA : okD A) (hB : okD B) : prD g A B = sbD g A B := by
  unfold prD sbD
  by_cases h : pbig A B 40
  · rw [orNo_neg (fun hh : prP A B => hh.2.2 h), orNo_neg (fun hh => hh h)]
  · rw [orNo_pos (p := prP A B) ⟨hA, hB, h⟩, orNo_pos h]
theorem prD_neg {g : Bool → Bool → Bool} {A B : DfaD} (h : ¬ (okD A ∧ okD B)) : prD g A B = ([], []) := orNo_neg (p := prP A B) (fun hh => h ⟨hh.1, hh.2.1⟩) _
def gBoth (x y : Bool) : Bool := x && y
def gEither (x y : Bool) : Bool := x || y
def gLess (x y : Bool) : Bool := x && !y
def gApart (x y : Bool) : Bool := x != y
end Go.Proofs.Ytcbhfopabgiiiaa
namespace Go.Proofs.Ytcbhfopabgiiiaa
open Go.RowKit
theorem rnd_fix {α : Type} [DecidableEq α] (nx : α → Nat → α) (s0 : α) {n : Nat} (h : (rnd nx s0 n).length ≤ n) : ∃ k, k ≤ n ∧ (rnd nx s0 k).length = k := by
  induction n with
  | zero => exact ⟨0, Nat.le_refl _, by omega⟩
  | succ n ih =>
    rcases Nat.lt_or_ge n (rnd nx s0 n).length with h1 | h1
    · exact ⟨n + 1, Nat.le_refl _, Nat.le_antisymm h (Nat.le_trans h1 (rnd_pre_succ nx s0 n).length_le)⟩
    · obtain ⟨k, hk, he⟩ := ih h1
      exact ⟨k, by omega, he⟩
theorem pr_ok {g : Bool → Bool → Bool} {A B : DfaD} (h : prP A B) : okD (canon (lg (pn A B) (pe g A B) (0, 0))) := by
  have h40 : (rnd (pn A B) (0, 0) 40).length ≤ 40 := Nat.le_of_not_lt fun hl => h.2.2 ⟨40, hl⟩
  obtain ⟨k, hk, he⟩ := rnd_fix (pn A B) (0, 0) h40
  have := canon_ok (pair_ok (g := g) he hk)
  rw [pair_lg he] at this
  exact this
theorem prSmall (g : Bool → Bool → Bool) (A B : DfaD) : smallD (prD g A B) := orNo_small pr_ok
theorem dfaBoxed {v : World} {lo lo' g : Nat} {x y a c : Value} {q : DfaD} (hd : DfaW (fun b => lo' ≤ b ∧ b < v.heap.size) v x y q) (hg : g < lo') (hlo : lo ≤ lo') :
    DfaW (fun b => lo ≤ b ∧ b < ((v.setCell ⟨g, 0, none⟩ a).setCell ⟨g, 1, none⟩ c).heap.size) ((v.setCell ⟨g, 0, none⟩ a).setCell ⟨g, 1, none⟩ c) x y q := by
  refine ((hd.mono (T := fun b => g < b ∧ lo ≤ b ∧ b < v.heap.size) (fun b h => ⟨by omega, by omega, h.2⟩)).stay (fun b h1 _ => ?_)).mono (fun b h => ⟨h.2.1, by simp [World.setCell]; exact h.2.2⟩)
  have hne : b ≠ g := by omega
  rw [Below.heap_setCell _ _ _ _ hne, Below.heap_setCell _ _ _ _ hne]
end Go.Proofs.Ytcbhfopabgiiiaa
namespace Go.Proofs.Ytcbhfopabgiiiaa
open Go.RowKit
theorem canon_lgD {D : DfaD} (h : okD D) : lgD (canon (lgD D)) = lgD D := by
  rw [← small_eq h, trim_lg (sml_ok (trim_ok h))]
  show lg _ _ 0 = _
  rw [sml_lg (trim_ok h) (trim_ok h).1.1]
  exact trim_lg h
theorem lg_pair (g : Bool → Bool → Bool) (A B : DfaD) : ∀ (w : List (Fin 3)) (s : Nat × Nat), lg (pn A B) (pe g A B) s w = g (lg (dn A) (de A) s.1 w) (lg (dn B) (de B) s.2 w)
  | [], _ => rfl
  | c :: w, s => lg_pair g A B w (pn A B s c)
/-- The language of two automata side by side. -/
def lgP (g : Bool → Bool → Bool) (A B : DfaD) : Lg := fun w => g (lgD A w) (lgD B w)
theorem lgP_eq (g : Bool → Bool → Bool) (A B : DfaD) : lg (pn A B) (pe g A B) (0, 0) = lgP g A B := funext fun w => lg_pair g A B w (0, 0)
theorem prD_eq (g : Bool → Bool → Bool) {A B : DfaD} (h : prP A B) : prD g A B = canon (lgP g A B) := by unfold prD; rw [orNo_pos h, lgP_eq]
theorem prD_no (g : Bool → Bool → Bool) {A B : DfaD} (h : ¬ prP A B) : prD g A B = ([], []) := orNo_neg h _
theorem pr_fix {A B : DfaD} (h : prP A B) : ∃ k, k ≤ 40 ∧ (rnd (pn A B) (0, 0) k).length = k := by
  have hb : (rnd (pn A B) (0, 0) 40).length ≤ 40 := Classical.byContradiction fun hn => h.2.2 ⟨40, by omega⟩
  exact rnd_fix _ _ hb
theorem lgP_lg (g : Bool → Bool → Bool) {A B : DfaD} (h : prP A B) : ∃ E : DfaD, okD E ∧ lgD E = lgP g A B := by
  obtain ⟨k, hk, hf⟩ := pr_fix h
  exact ⟨_, pair_ok (g := g) hf hk, by rw [pair_lg hf, lgP_eq]⟩
theorem prD_ok (g : Bool → Bool → Bool) {A B : DfaD} (h : prP A B) : okD (prD g A B) := by
  obtain ⟨E, hE, he⟩ := lgP_lg g h
  rw [prD_eq g h, ← he]; exact canon_ok hE
theorem prD_lg (g : Bool → Bool → Bool) {A B : DfaD} (h : prP A B) : lgD (prD g A B) = lgP g A B := by
  obtain ⟨E, hE, he⟩ := lgP_lg g h
  rw [prD_eq g h, ← he, canon_lgD hE]
theorem not_ok_nil : ¬ okD ([], []) := fun h => by have := h.1.1; simp at this
/-- Apart is one without the other. -/
theorem law_apart {A B : DfaD} (h : prP A B) (h2 : prP (prD gLess A B) (prD gLess B A)) : prD gApart A B = prD gEither (prD gLess A B) (prD gLess B A) := by
  have h3 : prP A B := h
  have h4 : prP B A := Classical.byContradiction fun hn => not_ok_nil (by have := h2.2.1; rwa [prD_no _ hn] at this)
  rw [prD_eq _ h, prD_eq _ h2]
  congr 1
  funext w
  show gApart (lgD A w) (lgD B w) = gEither (lgD (prD gLess A B) w) (lgD (prD gLess B A) w)
  rw [prD_lg _ h, prD_lg _ h4]
  show gApart (lgD A w) (lgD B w) = gEither (gLess (lgD A w) (lgD B w)) (gLess (lgD B w) (lgD A w))
  cases lgD A w <;> cases lgD B w <;> rfl
end Go.Proofs.Ytcbhfopabgiiiaa
