/- Two automata side by side: the reference's. -/
import Derived.Test.YtcbhfopabgiiiaaGI
import Derived.Test.YtcbhfopabgiiiaaSml
set_option linter.unusedSimpArgs false
set_option linter.unusedVariables false
set_option linter.unusedSectionVars false
namespace Go.Proofs.Ytcbhfopabgiiiaa
open Go.RowKit
set_option maxRecDepth 100000
variable {S T : Nat → Prop}
/-- A list of pairs, each a row of two numbers. -/
structure LS (base : Nat) (ls : List (Value × (Nat × Nat))) (vL : Value) (w : World) : Prop where
  own : w.ownsRow base 39 1 vL ls.length (ls.map (·.1))
  rows : ∀ p ∈ ls, w.ownsRow base 3 1 p.1 2 [.int .i64 ((p.2.1 : Nat) : Int), .int .i64 ((p.2.2 : Nat) : Int)]
section
variable {base : Nat} {ls : List (Value × (Nat × Nat))} {vL : Value} {w w' : World}
theorem LS.stay (h : LS base ls vL w) (hb : Below w.heap.size w w') : LS base ls vL w' := ⟨ownStay h.own hb, fun p hp => ownStay (h.rows p hp) hb⟩
theorem LS.grow (h : LS base ls vL w) {row : Option Nat} (hg : w.grownBy w' row) (hL : vL.ownBlock = none ∨ vL.ownBlock ≠ row) (hr : ∀ p ∈ ls, p.1.ownBlock = none ∨ p.1.ownBlock ≠ row) : LS base ls vL w' :=
  ⟨h.own.kept hg hL, fun p hp => (h.rows p hp).kept hg (hr p hp)⟩
theorem LS.lt (h : LS base ls vL w) {p : Value × (Nat × Nat)} (hp : p ∈ ls) : ∃ g cap, p.1 = .slice (some ⟨g, 0, none⟩) 2 cap ∧ base ≤ g ∧ g < w.heap.size := by
  obtain ⟨g, cap, e, hb, cur, hg⟩ := own_some (h.rows p hp) (by omega)
  exact ⟨g, cap, e, hb, (Array.getElem?_eq_some_iff.1 hg).1⟩
/-- A list of numbers of the call's own, none of the rows, was written. -/
theorem LS.growI (h : LS base ls vL w) {u : Value} {n : Nat} {xs : List Value} (hu : w.ownsRow base 3 1 u n xs) (hg : w.grownBy w' u.ownBlock) (hne : ∀ p ∈ ls, p.1.ownBlock ≠ u.ownBlock) : LS base ls vL w' :=
  h.grow hg (own_two h.own hu (by decide)) (fun p hp => .inr (hne p hp))
/-- A pair more. -/
theorem LS.add (h : LS base ls vL w) {u vL' : Value} {s : Nat × Nat} (hu : w.ownsRow base 3 1 u 2 [.int .i64 ((s.1 : Nat) : Int), .int .i64 ((s.2 : Nat) : Int)]) (hg : w.grownBy w' vL.ownBlock)
    (ho : w'.ownsRow base 39 1 vL' (ls.length + 1) (ls.map (·.1) ++ [u])) : LS base (ls ++ [(u, s)]) vL' w' := by
  refine ⟨by simpa using ho, fun p hp => ?_⟩
  have h0 : w.ownsRow base 3 1 p.1 2 [.int .i64 ((p.2.1 : Nat) : Int), .int .i64 ((p.2.2 : Nat) : Int)] := by
    rcases List.mem_append.1 hp with hp | hp
    · exact h.rows p hp
    · simp at hp; subst hp; exact hu
  exact h0.kept hg (own_two h0 h.own (by decide))
theorem LS.at {g cap : Nat} (h : LS base ls (.slice (some ⟨g, 0, none⟩) ls.length cap) w) {j : Nat} (hj : j < ls.length) :
    ∃ gr cr, w.cell? ⟨g, j, none⟩ = some (.slice (some ⟨gr, 0, none⟩) 2 cr) ∧ w.cell? ⟨gr, 0, none⟩ = some (.int .i64 ((ls[j].2.1 : Nat) : Int)) ∧ w.cell? ⟨gr, 1, none⟩ = some (.int .i64 ((ls[j].2.2 : Nat) : Int)) := by
  have hm := List.getElem_mem hj
  have hr := h.rows _ hm
  obtain ⟨gr, cr, e, _, _⟩ := h.lt hm
  refine ⟨gr, cr, ?_, ?_, ?_⟩
  · rw [h.own.cellAt j (by omega), List.getElem?_map, List.getElem?_eq_getElem hj, ← e]; rfl
  · rw [e] at hr; rw [hr.cellAt 0 (by omega)]; rfl
  · rw [e] at hr; rw [hr.cellAt 1 (by omega)]; rfl
end
/-- Another list of rows was written. -/
theorem BS.growL {base : Nat} {W : World} {B4 : Nat} {rs : List (Value × List Int)} {es : List Bool} {vN vE : Value} {w w' : World} (h : BS base W B4 rs es vN vE w) {u : Value} {n : Nat} {xs : List Value} (hu : w.ownsRow base 39 1 u n xs) (hg : w.grownBy w' u.ownBlock)
    (hne : vN.ownBlock = none ∨ vN.ownBlock ≠ u.ownBlock) : BS base W B4 rs es vN vE w' where
  bel := h.bel.grown hg h.size (fun b hb => (own_ge hu b hb).1)
  size := Nat.le_trans h.size hg.size
  h4 := h.h4
  b4 := blkGrow hg h.b4 (own_cells' hu h.b4 (by decide))
  nx := h.nx.kept hg hne
  en := h.en.kept hg (own_two h.en hu (by decide))
  rw := fun p hp => ⟨(h.rw p hp).1, (h.rw p hp).2.kept hg (own_two (h.rw p hp).2 hu (by decide))⟩
  inj := h.inj
theorem bintF {a b : Nat} (h : a ≠ b) : ((((a : Nat) : Int) == ((b : Nat) : Int)) = false) := by simp; omega
/-- What the search for a pair has found. -/
def fndP {α : Type} (M : List α) (t : α) (j : Nat) (a : Int) : Prop := (a = -1 ∧ ∀ i (h : i < M.length), i < j → M[i] ≠ t) ∨ ∃ i : Nat, ∃ h : i < M.length, a = (i : Int) ∧ M[i] = t ∧ i < j
theorem fndP_start {α : Type} (M : List α) (t : α) : fndP M t 0 (-1) := .inl ⟨rfl, fun i _ h => absurd h (Nat.not_lt_zero _)⟩
theorem fndP_no {α : Type} {M : List α} {t : α} {j : Nat} {a : Int} (h : fndP M t j a) (hj : j < M.length) (hn : M[j] ≠ t) : fndP M t (j + 1) a := by
  rcases h with ⟨e, h⟩ | ⟨i, h1, h2, h3, h4⟩
  · refine .inl ⟨e, fun i hi hij => ?_⟩
    rcases Nat.lt_succ_iff_lt_or_eq.1 hij with h1 | rfl
    · exact h i hi h1
    · exact hn
  · exact .inr ⟨i, h1, h2, h3, by omega⟩
theorem fndP_yes {α : Type} {M : List α} {t : α} {j : Nat} (hj : j < M.length) (hy : M[j] = t) : fndP M t (j + 1) (j : Int) := .inr ⟨j, hj, rfl, hy, by omega⟩
theorem fndP_end {α : Type} [DecidableEq α] {M : List α} {t : α} {a : Int} (hn : M.Nodup) (h : fndP M t M.length a) : (a = -1 ∧ t ∉ M) ∨ (t ∈ M ∧ a = ((M.idxOf t : Nat) : Int)) := by
  rcases h with ⟨e, h⟩ | ⟨i, h1, h2, h3, h4⟩
  · refine .inl ⟨e, fun hm => ?_⟩
    obtain ⟨i, hi, he⟩ := List.getElem_of_mem hm
    exact h i hi hi he
  · have hm : t ∈ M := by rw [← h3]; exact List.getElem_mem _
    refine .inr ⟨hm, ?_⟩
    have hl := List.idxOf_lt_length_of_mem hm
    have hg : M[M.idxOf t] = t := List.getElem_idxOf hl
    have key := List.pairwise_iff_getElem.1 hn
    have : M.idxOf t = i := by
      rcases Nat.lt_trichotomy (M.idxOf t) i with h | h | h
      · exact absurd (hg.trans h3.symm) (key _ _ hl h1 h)
      · exact h
      · exact absurd (h3.trans hg.symm) (key _ _ h1 hl h)
    rw [h2, this]
/-- The call answers an automaton to be read, if at most 40 pairs are met. -/
def PL (g : Bool → Bool → Bool) (A B : DfaD) (w : World) (e : Ending) (w' : World) : Prop :=
  ∃ v1 v2 ok, e = .returned (.tuple #[.agg #[v1, v2], .bool ok]) ∧ Below w.heap.size w w' ∧
    Hid ((ok = true ∧ ∃ k, (rnd (pn A B) (0, 0) k).length = k ∧ k ≤ 40 ∧ DfaR (w.heap.size ≤ ·) w' v1 v2 (autD (pn A B) (pe g A B) (rnd (pn A B) (0, 0) k))) ∨
      (ok = false ∧ v1 = .slice none 0 0 ∧ v2 = .slice none 0 0 ∧ pbig A B 40))
def rowP (A B : DfaD) (M : List (Nat × Nat)) (s : Nat × Nat) (c : Nat) : List Int := (List.range c).map (rowF (pn A B) M s)
theorem rowP_succ (A B : DfaD) (M : List (Nat × Nat)) (s : Nat × Nat) (c : Nat) : rowP A B M s (c + 1) = rowP A B M s c ++ [rowF (pn A B) M s c] := by simp [rowP, List.range_succ]
theorem rowP_len (A B : DfaD) (M : List (Nat × Nat)) (s : Nat × Nat) (c : Nat) : (rowP A B M s c).length = c := by simp [rowP]
end Go.Proofs.Ytcbhfopabgiiiaa
