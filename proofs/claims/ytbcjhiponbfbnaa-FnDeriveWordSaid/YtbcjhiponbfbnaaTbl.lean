/- l3Table: the reference's table of which parts of a string an expression's trees accept; its shape alone. -/
import Derived.Deep.DeepMust
import Derived.Test.YtbcjhiponbfbnaaGF
set_option linter.unusedSimpArgs false
set_option linter.unusedVariables false
set_option linter.unusedSectionVars false
namespace Go.Proofs.Ytbcjhiponbfbnaa
open Go.RowKit
set_option maxRecDepth 100000
variable {S T : Nat → Prop}
namespace Re
theorem flat_under (t : Re) (ht : t.wf) : ∀ (k : Nat) (h : k < t.flat.length),
    ((t.flat[k].1 = 7 ∨ t.flat[k].1 = 8) → 1 ≤ k) ∧
    ((t.flat[k].1 = 4 ∨ t.flat[k].1 = 5 ∨ t.flat[k].1 = 6) → ∃ (pre rest : List (Int × Int)) (b : Re), b.wf ∧ t.flat = pre ++ b.flat ++ rest ∧ pre.length + b.flat.length = k ∧ 1 ≤ pre.length) := by
  have two : ∀ (a b : Re) (z : Int × Int), a.wf → b.wf →
      (∀ (k : Nat) (h : k < a.flat.length), ((a.flat[k].1 = 7 ∨ a.flat[k].1 = 8) → 1 ≤ k) ∧ ((a.flat[k].1 = 4 ∨ a.flat[k].1 = 5 ∨ a.flat[k].1 = 6) → ∃ (pre rest : List (Int × Int)) (b : Re), b.wf ∧ a.flat = pre ++ b.flat ++ rest ∧ pre.length + b.flat.length = k ∧ 1 ≤ pre.length)) →
      (∀ (k : Nat) (h : k < b.flat.length), ((b.flat[k].1 = 7 ∨ b.flat[k].1 = 8) → 1 ≤ k) ∧ ((b.flat[k].1 = 4 ∨ b.flat[k].1 = 5 ∨ b.flat[k].1 = 6) → ∃ (pre rest : List (Int × Int)) (b' : Re), b'.wf ∧ b.flat = pre ++ b'.flat ++ rest ∧ pre.length + b'.flat.length = k ∧ 1 ≤ pre.length)) →
      ∀ (k : Nat) (h : k < (a.flat ++ b.flat ++ [z]).length), (((a.flat ++ b.flat ++ [z])[k].1 = 7 ∨ (a.flat ++ b.flat ++ [z])[k].1 = 8) → 1 ≤ k) ∧
        (((a.flat ++ b.flat ++ [z])[k].1 = 4 ∨ (a.flat ++ b.flat ++ [z])[k].1 = 5 ∨ (a.flat ++ b.flat ++ [z])[k].1 = 6) → ∃ (pre rest : List (Int × Int)) (b' : Re), b'.wf ∧ a.flat ++ b.flat ++ [z] = pre ++ b'.flat ++ rest ∧ pre.length + b'.flat.length = k ∧ 1 ≤ pre.length) := by
    intro a b z ha hb iha ihb k h
    have pa := a.flat_pos
    have pb := b.flat_pos
    have hl : (a.flat ++ b.flat ++ [z]).length = a.flat.length + b.flat.length + 1 := by simp; omega
    by_cases h1 : k < a.flat.length
    · rw [List.getElem_append_left (by simp; omega), List.getElem_append_left h1]
      refine ⟨(iha k h1).1, fun hx => ?_⟩
      obtain ⟨pre, rest, b', hb', e, hk, hp⟩ := (iha k h1).2 hx
      exact ⟨pre, rest ++ (b.flat ++ [z]), b', hb', by rw [e]; simp, hk, hp⟩
    · by_cases h2 : k < a.flat.length + b.flat.length
      · rw [List.getElem_append_left (by simp; omega), List.getElem_append_right (by omega)]
        refine ⟨fun _ => by omega, fun hx => ?_⟩
        obtain ⟨pre, rest, b', hb', e, hk, hp⟩ := (ihb (k - a.flat.length) (by omega)).2 hx
        exact ⟨a.flat ++ pre, rest ++ [z], b', hb', by rw [e]; simp, by rw [List.length_append]; omega, by rw [List.length_append]; omega⟩
      · exact ⟨fun _ => by omega, fun _ => ⟨a.flat, [z], b, hb, rfl, by omega, pa⟩⟩
  have one : ∀ (a : Re) (z : Int × Int), a.wf → (z.1 = 7 ∨ z.1 = 8) →
      (∀ (k : Nat) (h : k < a.flat.length), ((a.flat[k].1 = 7 ∨ a.flat[k].1 = 8) → 1 ≤ k) ∧ ((a.flat[k].1 = 4 ∨ a.flat[k].1 = 5 ∨ a.flat[k].1 = 6) → ∃ (pre rest : List (Int × Int)) (b : Re), b.wf ∧ a.flat = pre ++ b.flat ++ rest ∧ pre.length + b.flat.length = k ∧ 1 ≤ pre.length)) →
      ∀ (k : Nat) (h : k < (a.flat ++ [z]).length), (((a.flat ++ [z])[k].1 = 7 ∨ (a.flat ++ [z])[k].1 = 8) → 1 ≤ k) ∧
        (((a.flat ++ [z])[k].1 = 4 ∨ (a.flat ++ [z])[k].1 = 5 ∨ (a.flat ++ [z])[k].1 = 6) → ∃ (pre rest : List (Int × Int)) (b' : Re), b'.wf ∧ a.flat ++ [z] = pre ++ b'.flat ++ rest ∧ pre.length + b'.flat.length = k ∧ 1 ≤ pre.length) := by
    intro a z ha hz iha k h
    have pa := a.flat_pos
    by_cases h1 : k < a.flat.length
    · rw [List.getElem_append_left h1]
      refine ⟨(iha k h1).1, fun hx => ?_⟩
      obtain ⟨pre, rest, b', hb', e, hk, hp⟩ := (iha k h1).2 hx
      exact ⟨pre, rest ++ [z], b', hb', by rw [e]; simp, hk, hp⟩
    · have hk : k = a.flat.length := by simp at h; omega
      subst hk
      refine ⟨fun _ => pa, fun hx => ?_⟩
      rw [List.getElem_append_right (by omega)] at hx
      simp at hx
      omega
  induction t with
  | none => intro k h; simp [flat] at h; subst h; simp [flat]
  | empty => intro k h; simp [flat] at h; subst h; simp [flat]
  | letter c => intro k h; simp [flat] at h; subst h; simp [flat]
  | join a b ha hb => exact two a b _ ht.1 ht.2 (ha ht.1) (hb ht.2)
  | either a b ha hb => exact two a b _ ht.1 ht.2 (ha ht.1) (hb ht.2)
  | both a b ha hb => exact two a b _ ht.1 ht.2 (ha ht.1) (hb ht.2)
  | not a ha => exact one a _ ht (.inl rfl) (ha ht)
  | star a ha => exact one a _ ht (.inr rfl) (ha ht)
end Re
theorem SetB.cell {base N : Nat} {v : Value} {w : World} (h : SetB base N v w) {j : Nat} (hj : j < N) : ∃ g c x, v = .slice (some ⟨g, 0, none⟩) N c ∧ base ≤ g ∧ w.cell? ⟨g, j, none⟩ = some (.bool x) ∧ w.frozen? ⟨g, j, none⟩ = false := by
  obtain ⟨m, rfl, o⟩ := h
  obtain ⟨g, c, rfl, hb, _⟩ := own_some o (by omega)
  have := ownCell o (i := j) (by simpa using hj)
  exact ⟨g, c, m[j], rfl, hb, by simpa using this.1, this.2⟩
theorem LB.cell {base N : Nat} {ls : List Value} {vL : Value} {w : World} (h : LB base N ls vL w) {i j : Nat} (hi : i < ls.length) (hj : j < N) :
    ∃ g1 c1 g2 c2 x, vL = .slice (some ⟨g1, 0, none⟩) ls.length c1 ∧ base ≤ g1 ∧ w.cell? ⟨g1, i, none⟩ = some (.slice (some ⟨g2, 0, none⟩) N c2) ∧ base ≤ g2 ∧ w.cell? ⟨g2, j, none⟩ = some (.bool x) ∧ w.frozen? ⟨g2, j, none⟩ = false ∧ ls[i] = .slice (some ⟨g2, 0, none⟩) N c2 := by
  obtain ⟨g1, c1, rfl, hb1, _⟩ := own_some h.own (by omega)
  obtain ⟨h1, h2⟩ := h.at rfl hi
  obtain ⟨g2, c2, x, e, hb2, h3, h4⟩ := h2.cell hj
  exact ⟨g1, c1, g2, c2, x, rfl, hb1, by rw [h1, e], hb2, h3, h4, e⟩
/-- A bool is stored in a row. -/
theorem LB.put {base N g2 c2 : Nat} {ls : List Value} {vL : Value} {w : World} (h : LB base N ls vL w) {i : Nat} (hi : i < ls.length) (e : ls[i] = .slice (some ⟨g2, 0, none⟩) N c2) (j : Nat) (x : Bool) : LB base N ls vL (w.setCell ⟨g2, j, none⟩ (.bool x)) := by
  refine ⟨?_, fun v hv => ?_⟩
  · obtain ⟨m, _, o⟩ := h.rows _ (List.getElem_mem hi)
    rw [e] at o
    exact ownSetNe h.own (ownNe2 o h.own (by decide) g2 rfl) _
  · obtain ⟨m, hm, o⟩ := h.rows v hv
    by_cases hb : v.ownBlock = some g2
    · rcases o.2 with ⟨rfl, _⟩ | ⟨g, cap, cur, rfl, _⟩
      · cases hb
      · cases hb
        refine ⟨m.set j x, by rw [List.length_set]; exact hm, ?_⟩
        have := ownSetIn o j (.bool x)
        unfold OwnB
        rw [List.length_set, List.map_set]
        exact this
    · exact ⟨m, hm, ownSetNe o hb _⟩
/-- A table: lists of sets. -/
structure TB (base N : Nat) (tl : List Value) (vT : Value) (w : World) : Prop where
  own : w.ownsRow base 133 1 vT tl.length tl
  rows : ∀ v ∈ tl, ∃ ls, ls.length = N ∧ LB base N ls v w
theorem LB.base {base base' N : Nat} {ls : List Value} {v : Value} {w : World} (h : LB base N ls v w) (hb : base' ≤ base) : LB base' N ls v w := ⟨ownBase h.own hb, fun u hu => (h.rows u hu).base hb⟩
theorem TB.stay {base N : Nat} {tl : List Value} {vT : Value} {w w' : World} (h : TB base N tl vT w) (hb : Below w.heap.size w w') : TB base N tl vT w' := ⟨ownStay h.own hb, fun v hv => let ⟨ls, h1, h2⟩ := h.rows v hv; ⟨ls, h1, h2.stay hb⟩⟩
theorem TB.add {base N : Nat} {tl ls : List Value} {vT vT' u : Value} {w w' : World} (h : TB base N tl vT w) (hu : LB base N ls u w) (hl : ls.length = N) (hg : w.grownBy w' vT.ownBlock) (ho : w'.ownsRow base 133 1 vT' (tl.length + 1) (tl ++ [u])) : TB base N (tl ++ [u]) vT' w' :=
  ⟨by simpa using ho, fun v hv => by
    rcases List.mem_append.1 hv with hv | hv
    · obtain ⟨ls, h1, h2⟩ := h.rows v hv
      exact ⟨ls, h1, h2.grow h.own hg (by decide) (by decide)⟩
    · simp at hv; subst hv; exact ⟨ls, hl, hu.grow h.own hg (by decide) (by decide)⟩⟩
theorem TB.cell {base N : Nat} {tl : List Value} {vT : Value} {w : World} (h : TB base N tl vT w) {A i j : Nat} (hA : A < tl.length) (hi : i < N) (hj : j < N) :
    ∃ gT cT g1 c1 g2 c2 x, vT = .slice (some ⟨gT, 0, none⟩) tl.length cT ∧ w.cell? ⟨gT, A, none⟩ = some (.slice (some ⟨g1, 0, none⟩) N c1) ∧ w.cell? ⟨g1, i, none⟩ = some (.slice (some ⟨g2, 0, none⟩) N c2) ∧ w.cell? ⟨g2, j, none⟩ = some (.bool x) := by
  obtain ⟨gT, cT, rfl, _⟩ := own_some h.own (by omega)
  have hc := (ownCell h.own hA).1
  obtain ⟨ls, h1, h2⟩ := h.rows _ (List.getElem_mem hA)
  obtain ⟨g1, c1, g2, c2, x, e, _, e1, _, e2, _⟩ := h2.cell (i := i) (by omega) hj
  rw [e, h1] at hc
  exact ⟨gT, cT, g1, c1, g2, c2, x, rfl, hc, e1, e2⟩
theorem elBoolss : ElemT 134 133 1 24 := ElemT.of (z := .slice none 0 0) Try.underlying134 (by kernel_rfl) rfl (by decide)
end Go.Proofs.Ytbcjhiponbfbnaa
