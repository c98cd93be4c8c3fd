/- The languages of expressions: words as lists of letters; first and last letters; spans of a word. -/
import Derived.Test.YtbcjhiponbfbnaaPsn
set_option linter.unusedSimpArgs false
set_option linter.unusedVariables false
set_option linter.unusedSectionVars false
namespace Go.Proofs.Ytbcjhiponbfbnaa
open Go.RowKit
set_option maxRecDepth 100000
/-- Words of a language, one behind the other. -/
inductive Stl (L : List Int → Prop) : List Int → Prop
  | nil : Stl L []
  | app {u v : List Int} : L u → Stl L v → Stl L (u ++ v)
/-- The language of an expression. -/
def Re.lang : Re → List Int → Prop
  | .none, _ => False
  | .empty, w => w = []
  | .letter c, w => w = [c]
  | .join a b, w => ∃ u v, w = u ++ v ∧ a.lang u ∧ b.lang v
  | .either a b, w => a.lang w ∨ b.lang w
  | .both a b, w => a.lang w ∧ b.lang w
  | .not a, w => ¬ a.lang w
  | .star a, w => Stl a.lang w
theorem nul_lang (t : Re) : t.nul = true ↔ t.lang [] := by
  induction t with
  | none => simp [Re.nul, Re.lang]
  | empty => simp [Re.nul, Re.lang]
  | letter c => simp [Re.nul, Re.lang]
  | join a b iha ihb =>
    simp only [Re.nul, Re.lang, Bool.and_eq_true, iha, ihb]
    constructor
    · rintro ⟨h1, h2⟩; exact ⟨[], [], rfl, h1, h2⟩
    · rintro ⟨u, v, h, h1, h2⟩
      have := List.append_eq_nil_iff.1 h.symm
      rw [this.1] at h1; rw [this.2] at h2; exact ⟨h1, h2⟩
  | either a b iha ihb => simp [Re.nul, Re.lang, iha, ihb]
  | both a b iha ihb => simp [Re.nul, Re.lang, iha, ihb]
  | not a iha =>
    simp only [Re.nul, Re.lang, ← iha]
    cases a.nul <;> simp
  | star a iha => exact ⟨fun _ => Stl.nil, fun _ => rfl⟩
/-- A word of a star that is not empty begins with a word that is not empty. -/
theorem Stl.cons {L : List Int → Prop} {w : List Int} (h : Stl L w) : w = [] ∨ ∃ u v, w = u ++ v ∧ u ≠ [] ∧ L u ∧ Stl L v := by
  induction h with
  | nil => exact .inl rfl
  | @app u v hu hv ih =>
    rcases u with _ | ⟨x, u⟩
    · exact ih
    · exact .inr ⟨x :: u, v, rfl, by simp, hu, hv⟩
theorem Stl.one {L : List Int → Prop} {u : List Int} (h : L u) : Stl L u := by simpa using Stl.app h Stl.nil
theorem Stl.trans {L : List Int → Prop} {u v : List Int} (hu : Stl L u) (hv : Stl L v) : Stl L (u ++ v) := by
  induction hu with
  | nil => exact hv
  | app h _ ih => rw [List.append_assoc]; exact .app h ih
/-- .. and ends with one. -/
theorem Stl.snoc {L : List Int → Prop} {w : List Int} (h : Stl L w) : w = [] ∨ ∃ u v, w = u ++ v ∧ v ≠ [] ∧ Stl L u ∧ L v := by
  induction h with
  | nil => exact .inl rfl
  | @app u v hu hv ih =>
    rcases ih with rfl | ⟨x, y, rfl, hy, hx, hl⟩
    · rcases u with _ | ⟨z, u⟩
      · exact .inl rfl
      · exact .inr ⟨[], z :: u, by simp, by simp, .nil, hu⟩
    · exact .inr ⟨u ++ x, y, by simp, hy, .app hu hx, hl⟩
/-- The part with a number is a letter, this one. -/
def letAt (e : List (Int × Int)) (f x c : Int) : Prop := f ≤ x ∧ x < f + e.length ∧ e.getD (x - f).toNat (0, 0) = (3, c)
theorem letAt.left {e e' : List (Int × Int)} {f x c : Int} (h : letAt e f x c) : letAt (e ++ e') f x c := by
  obtain ⟨h1, h2, h3⟩ := h
  refine ⟨h1, by rw [List.length_append]; omega, ?_⟩
  rw [List.getD_eq_getElem?_getD, List.getElem?_append_left (by omega), ← List.getD_eq_getElem?_getD]; exact h3
theorem letAt.right {e e' : List (Int × Int)} {f x c : Int} (h : letAt e' (f + e.length) x c) : letAt (e ++ e') f x c := by
  obtain ⟨h1, h2, h3⟩ := h
  refine ⟨by omega, by rw [List.length_append]; omega, ?_⟩
  rw [List.getD_eq_getElem?_getD, List.getElem?_append_right (by omega), ← List.getD_eq_getElem?_getD]
  rw [show (x - f).toNat - e.length = (x - (f + e.length)).toNat by omega]; exact h3
/-- Words that are not empty begin with the letter of a first place. -/
theorem fps_lang (t : Re) : plainE t.flat → ∀ (f c : Int) (w : List Int), t.lang (c :: w) → ∃ x ∈ t.fps f, letAt t.flat f x c := by
  induction t with
  | none => intro _ f c w h; cases h
  | empty => intro _ f c w h; cases h
  | letter d =>
    intro _ f c w h
    simp [Re.lang] at h
    obtain ⟨rfl, rfl⟩ := h
    exact ⟨f, by simp [Re.fps], by omega, by simp [Re.flat]; omega, by simp [Re.flat]⟩
  | join a b iha ihb =>
    intro hp f c w h
    have hpa := fun p hp' => hp p (List.mem_append_left _ (List.mem_append_left _ hp'))
    have hpb := fun p hp' => hp p (List.mem_append_left _ (List.mem_append_right _ hp'))
    obtain ⟨u, v, he, hu, hv⟩ := h
    rcases u with _ | ⟨d, u⟩
    · have hn := (nul_lang a).2 hu
      simp only [List.nil_append] at he
      subst he
      obtain ⟨x, hx, hl⟩ := ihb hpb (f + a.flat.length) c w hv
      refine ⟨x, ?_, hl.right.left⟩
      simp only [Re.fps, hn, if_true]; exact List.mem_append_right _ hx
    · injection he with e1 e2
      subst e1
      obtain ⟨x, hx, hl⟩ := iha hpa f c u hu
      refine ⟨x, ?_, hl.left.left⟩
      unfold Re.fps
      split
      · exact List.mem_append_left _ hx
      · exact hx
  | either a b iha ihb =>
    intro hp f c w h
    have hpa := fun p hp' => hp p (List.mem_append_left _ (List.mem_append_left _ hp'))
    have hpb := fun p hp' => hp p (List.mem_append_left _ (List.mem_append_right _ hp'))
    rcases h with h | h
    · obtain ⟨x, hx, hl⟩ := iha hpa f c w h
      exact ⟨x, List.mem_append_left _ hx, hl.left.left⟩
    · obtain ⟨x, hx, hl⟩ := ihb hpb (f + a.flat.length) c w h
      exact ⟨x, List.mem_append_right _ hx, hl.right.left⟩
  | both a b iha ihb => intro hp; exact absurd rfl (hp (6, 0) (List.mem_append_right _ (List.mem_singleton.2 rfl))).1
  | not a iha => intro hp; exact absurd rfl (hp (7, 0) (List.mem_append_right _ (List.mem_singleton.2 rfl))).2
  | star a iha =>
    intro hp f c w h
    have hpa := fun p hp' => hp p (List.mem_append_left _ hp')
    rcases Stl.cons h with h | ⟨u, v, he, hne, hu, _⟩
    · cases h
    · rcases u with _ | ⟨d, u⟩
      · exact absurd rfl hne
      · injection he with e1 e2
        subst e1
        obtain ⟨x, hx, hl⟩ := iha hpa f c u hu
        exact ⟨x, hx, hl.left⟩
theorem snoc_eq {u v : List Int} {w : List Int} {c : Int} (h : w ++ [c] = u ++ v) : (v = [] ∧ u = w ++ [c]) ∨ ∃ v', v = v' ++ [c] ∧ w = u ++ v' := by
  rcases List.eq_nil_or_concat v with rfl | ⟨v', d, rfl⟩
  · exact .inl ⟨rfl, by simpa using h.symm⟩
  · rw [List.concat_eq_append, ← List.append_assoc] at h
    have := List.append_inj' h rfl
    refine .inr ⟨v', ?_, this.1⟩
    rw [List.concat_eq_append]
    injection this.2 with e; rw [e]
/-- .. and end with that of a last place. -/
theorem lps_lang (t : Re) : plainE t.flat → ∀ (f c : Int) (w : List Int), t.lang (w ++ [c]) → ∃ x ∈ t.lps f, letAt t.flat f x c := by
  induction t with
  | none => intro _ f c w h; cases h
  | empty => intro _ f c w h; simp [Re.lang] at h
  | letter d =>
    intro _ f c w h
    have h' : w ++ [c] = [d] := h
    rcases w with _ | ⟨y, w⟩
    · injection h' with e _
      subst e
      exact ⟨f, by simp [Re.lps], by omega, by simp [Re.flat]; omega, by simp [Re.flat]⟩
    · simp at h'
  | join a b iha ihb =>
    intro hp f c w h
    have hpa := fun p hp' => hp p (List.mem_append_left _ (List.mem_append_left _ hp'))
    have hpb := fun p hp' => hp p (List.mem_append_left _ (List.mem_append_right _ hp'))
    obtain ⟨u, v, he, hu, hv⟩ := h
    rcases snoc_eq he with ⟨rfl, rfl⟩ | ⟨v', rfl, rfl⟩
    · have hn := (nul_lang b).2 hv
      obtain ⟨x, hx, hl⟩ := iha hpa f c w hu
      refine ⟨x, ?_, hl.left.left⟩
      simp only [Re.lps, hn, if_true]; exact List.mem_append_left _ hx
    · obtain ⟨x, hx, hl⟩ := ihb hpb (f + a.flat.length) c v' hv
      refine ⟨x, ?_, hl.right.left⟩
      unfold Re.lps
      split
      · exact List.mem_append_right _ hx
      · exact hx
  | either a b iha ihb =>
    intro hp f c w h
    have hpa := fun p hp' => hp p (List.mem_append_left _ (List.mem_append_left _ hp'))
    have hpb := fun p hp' => hp p (List.mem_append_left _ (List.mem_append_right _ hp'))
    rcases h with h | h
    · obtain ⟨x, hx, hl⟩ := iha hpa f c w h
      exact ⟨x, List.mem_append_left _ hx, hl.left.left⟩
    · obtain ⟨x, hx, hl⟩ := ihb hpb (f + a.flat.length) c w h
      exact ⟨x, List.mem_append_right _ hx, hl.right.left⟩
  | both a b iha ihb => intro hp; exact absurd rfl (hp (6, 0) (List.mem_append_right _ (List.mem_singleton.2 rfl))).1
  | not a iha => intro hp; exact absurd rfl (hp (7, 0) (List.mem_append_right _ (List.mem_singleton.2 rfl))).2
  | star a iha =>
    intro hp f c w h
    have hpa := fun p hp' => hp p (List.mem_append_left _ hp')
    rcases Stl.snoc h with h | ⟨u, v, he, hne, _, hv⟩
    · simp at h
    · rcases snoc_eq he with ⟨rfl, _⟩ | ⟨v', rfl, rfl⟩
      · exact absurd rfl hne
      · obtain ⟨x, hx, hl⟩ := iha hpa f c v' hv
        exact ⟨x, hx, hl.left⟩
/-- The letters of a word from a place to another one. -/
def spn (w : List Int) (i j : Nat) : List Int := (w.drop i).take (j - i)
theorem spn_len {w : List Int} {i j : Nat} (hij : i ≤ j) (hj : j ≤ w.length) : (spn w i j).length = j - i := by unfold spn; rw [List.length_take, List.length_drop]; omega
theorem spn_app (w : List Int) {i k j : Nat} (h1 : i ≤ k) (h2 : k ≤ j) : spn w i j = spn w i k ++ spn w k j := by
  unfold spn
  rw [show j - i = (k - i) + (j - k) by omega, List.take_add, List.drop_drop, show i + (k - i) = k by omega]
theorem spn_self (w : List Int) (i : Nat) : spn w i i = [] := by simp [spn]
theorem spn_all (w : List Int) : spn w 0 w.length = w := by simp [spn]
theorem spn_one {w : List Int} {i : Nat} (h : i < w.length) : spn w i (i + 1) = [w[i]] := by
  unfold spn
  rw [show i + 1 - i = 1 by omega, List.drop_eq_getElem_cons h]; rfl
/-- Each way to divide a span is a place in between. -/
theorem spn_split {w u v : List Int} {i j : Nat} (hij : i ≤ j) (hj : j ≤ w.length) (h : spn w i j = u ++ v) : ∃ k, i ≤ k ∧ k ≤ j ∧ u = spn w i k ∧ v = spn w k j := by
  have hl := congrArg List.length h
  rw [spn_len hij hj, List.length_append] at hl
  refine ⟨i + u.length, by omega, by omega, ?_⟩
  rw [spn_app w (k := i + u.length) (by omega) (by omega)] at h
  have := List.append_inj h (by rw [spn_len (by omega) (by omega)]; omega)
  exact ⟨this.1.symm, this.2.symm⟩
/-- The spans of a language. -/
def spL (L : List Int → Prop) (w : List Int) (i j : Nat) : Prop := L (spn w i j)
theorem spL_join (a b : Re) {w : List Int} {i j : Nat} (hij : i ≤ j) (hj : j ≤ w.length) : spL (Re.join a b).lang w i j ↔ ∃ k, i ≤ k ∧ k ≤ j ∧ spL a.lang w i k ∧ spL b.lang w k j := by
  constructor
  · rintro ⟨u, v, he, hu, hv⟩
    obtain ⟨k, h1, h2, rfl, rfl⟩ := spn_split hij hj he
    exact ⟨k, h1, h2, hu, hv⟩
  · rintro ⟨k, h1, h2, hu, hv⟩
    exact ⟨_, _, spn_app w h1 h2, hu, hv⟩
/-- The rounds of a star. -/
def strR (A : Nat → Nat → Prop) : Nat → Nat → Nat → Prop
  | 0, i, j => i = j
  | r + 1, i, j => strR A r i j ∨ ∃ k, i ≤ k ∧ k ≤ j ∧ strR A r i k ∧ A k j
theorem strR_mono {A : Nat → Nat → Prop} {r s i j : Nat} (h : strR A r i j) (hs : r ≤ s) : strR A s i j := by
  induction hs with
  | refl => exact h
  | step _ ih => exact .inl ih
theorem strR_all (a : Re) {w : List Int} : ∀ (d : Nat) {i j : Nat}, j - i ≤ d → i ≤ j → j ≤ w.length → Stl a.lang (spn w i j) → strR (spL a.lang w) d i j := by
  intro d
  induction d with
  | zero => intro i j hd hij hj _; show i = j; omega
  | succ d ih =>
    intro i j hd hij hj h
    rcases Stl.snoc h with h0 | ⟨u, v, he, hne, hu, hv⟩
    · have := spn_len hij hj
      rw [h0] at this
      have : i = j := by simp at this; omega
      exact strR_mono (r := 0) this (by omega)
    · obtain ⟨k, h1, h2, rfl, rfl⟩ := spn_split hij hj he
      have hk : k ≠ j := by rintro rfl; exact hne (spn_self _ _)
      exact .inr ⟨k, h1, h2, ih (by omega) h1 (by omega) hu, hv⟩
theorem strR_stl (a : Re) {w : List Int} : ∀ (r : Nat) {i j : Nat}, i ≤ j → j ≤ w.length → strR (spL a.lang w) r i j → Stl a.lang (spn w i j) := by
  intro r
  induction r with
  | zero => intro i j _ _ h; have h : i = j := h; subst h; rw [spn_self]; exact .nil
  | succ r ih =>
    intro i j hij hj h
    rcases h with h | ⟨k, h1, h2, h3, h4⟩
    · exact ih hij hj h
    · rw [spn_app w h1 h2]; exact (ih h1 (by omega) h3).trans (.one h4)
theorem spL_star (a : Re) {w : List Int} {i j : Nat} (hij : i ≤ j) (hj : j ≤ w.length) : spL (Re.star a).lang w i j ↔ strR (spL a.lang w) w.length i j :=
  ⟨fun h => strR_all a _ (by omega) hij hj h, fun h => strR_stl a _ hij hj h⟩
end Go.Proofs.Ytbcjhiponbfbnaa
