/- Exploring, step by step. Plain. No condition. -/
import Derived.Test.YthdbgpdidolmaaaAut
namespace Go.Proofs.Ythdbgpdidolmaaa
section
variable {S : Type} [DecidableEq S] (nx : S → Nat → S) (en : S → Bool) (s0 : S)
/-- The next states by the first c letters are met. -/
def visN (M : List S) (s : S) : Nat → List S
  | 0 => M
  | c + 1 => vis (visN M s c) (nx s c)
theorem visN_three (M : List S) (s : S) : visN nx M s 3 = vis3 nx M s := rfl
theorem visN_pre (M : List S) (s : S) {c d : Nat} (h : c ≤ d) : visN nx M s c <+: visN nx M s d := by
  induction d with
  | zero => obtain rfl : c = 0 := by omega
            exact List.prefix_rfl
  | succ d ih =>
    rcases Nat.lt_or_ge c (d + 1) with h1 | h1
    · exact (ih (by omega)).trans (vis_pre _ _)
    · obtain rfl : c = d + 1 := by omega
      exact List.prefix_rfl
theorem visN_nodup {M : List S} (s : S) (h : M.Nodup) (c : Nat) : (visN nx M s c).Nodup := by
  induction c with
  | zero => exact h
  | succ c ih => exact vis_nodup ih
theorem visN_mem (M : List S) (s : S) (c : Nat) : nx s c ∈ visN nx M s (c + 1) := mem_vis.2 (.inr rfl)
theorem visN_all {P : S → Prop} {M : List S} {s : S} (hM : ∀ x ∈ M, P x) (hs : ∀ c, c < 3 → P (nx s c)) {c : Nat} (hc : c ≤ 3) : ∀ x ∈ visN nx M s c, P x := by
  induction c with
  | zero => exact hM
  | succ c ih =>
    intro x hx
    rcases mem_vis.1 hx with h | rfl
    · exact ih (by omega) x h
    · exact hs c (by omega)
theorem vis_old {M : List S} {t : S} (h : t ∈ M) : vis M t = M := if_pos h
theorem vis_new {M : List S} {t : S} (h : t ∉ M) : vis M t = M ++ [t] := if_neg h
theorem idx_pre {M M' : List S} (h : M <+: M') {t : S} (hm : t ∈ M) : M'.idxOf t = M.idxOf t := by
  obtain ⟨r, rfl⟩ := h
  rw [List.idxOf_append, if_pos hm]
theorem idx_new {M : List S} {t : S} (h : t ∉ M) : (M ++ [t]).idxOf t = M.length := by
  rw [List.idxOf_append, if_neg h]
  simp
/-- The row of the state that round i looks at. -/
def rowF (M : List S) (s : S) (c : Nat) : Int := ((vis3 nx M s).idxOf (nx s c) : Nat)
theorem rowF_eq (M : List S) (s : S) {c : Nat} (hc : c < 3) : rowF nx M s c = ((visN nx M s (c + 1)).idxOf (nx s c) : Nat) := by
  unfold rowF
  rw [← visN_three, idx_pre (visN_pre nx M s (show c + 1 ≤ 3 by omega)) (visN_mem nx M s c)]
def rowX (i : Nat) : List Int := match (rnd nx s0 i)[i]? with | some s => [rowF nx (rnd nx s0 i) s 0, rowF nx (rnd nx s0 i) s 1, rowF nx (rnd nx s0 i) s 2] | none => []
def rowsX (k : Nat) : List (List Int) := (List.range k).map (rowX nx s0)
def endX (i : Nat) : Bool := match (rnd nx s0 i)[i]? with | some s => en s | none => false
def endsX (k : Nat) : List Bool := (List.range k).map (endX nx en s0)
theorem rowsX_succ (k : Nat) : rowsX nx s0 (k + 1) = rowsX nx s0 k ++ [rowX nx s0 k] := by simp [rowsX, List.range_succ]
theorem endsX_succ (k : Nat) : endsX nx en s0 (k + 1) = endsX nx en s0 k ++ [endX nx en s0 k] := by simp [endsX, List.range_succ]
theorem rowsX_len (k : Nat) : (rowsX nx s0 k).length = k := by simp [rowsX]
theorem endsX_len (k : Nat) : (endsX nx en s0 k).length = k := by simp [endsX]
theorem rowX_at {i : Nat} (h : i < (rnd nx s0 i).length) : rowX nx s0 i = (List.range 3).map (rowF nx (rnd nx s0 i) (rnd nx s0 i)[i]) := by
  unfold rowX
  rw [List.getElem?_eq_getElem h]
  rfl
theorem endX_at {i : Nat} (h : i < (rnd nx s0 i).length) : endX nx en s0 i = en (rnd nx s0 i)[i] := by
  unfold endX
  rw [List.getElem?_eq_getElem h]
/-- The automaton that is built. -/
theorem explored_all {k : Nat} (h : (rnd nx s0 k).length = k) : autD nx en (rnd nx s0 k) = (rowsX nx s0 k, endsX nx en s0 k) := by
  have at_ : ∀ i, (hi : i < k) → ∃ h1 : i < (rnd nx s0 i).length, (rnd nx s0 k)[i]'(by omega) = (rnd nx s0 i)[i] := by
    intro i hi
    have hp := rnd_pre nx s0 (show i ≤ k by omega)
    rcases Nat.lt_or_ge i (rnd nx s0 i).length with h1 | h1
    · refine ⟨h1, ?_⟩
      obtain ⟨t, ht⟩ := hp
      simp only [← ht]
      rw [List.getElem_append_left h1]
    · have := rnd_done nx h1 (show i ≤ k by omega)
      rw [this] at h
      omega
  unfold autD rowsX endsX
  congr 1
  · apply List.ext_getElem
    · simp [h]
    · intro i h1 h2
      simp only [List.length_map, h] at h1
      obtain ⟨h3, h4⟩ := at_ i h1
      simp only [List.getElem_map, List.getElem_range, h4]
      rw [rowX_at nx s0 h3]
      have hp := rnd_pre nx s0 (show i + 1 ≤ k by omega)
      rw [rnd_succ_some nx h3] at hp
      have e : ∀ c, c < 3 → ((rnd nx s0 k).idxOf (nx (rnd nx s0 i)[i] c) : Nat) = rowF nx (rnd nx s0 i) (rnd nx s0 i)[i] c := by
        intro c hc
        unfold rowF
        rw [idx_pre hp]
        rw [mem_vis3]
        have : c = 0 ∨ c = 1 ∨ c = 2 := by omega
        rcases this with rfl | rfl | rfl <;> simp
      rw [e 0 (by omega), e 1 (by omega), e 2 (by omega)]
      rfl
  · apply List.ext_getElem
    · simp [h]
    · intro i h1 h2
      simp only [List.length_map, h] at h1
      obtain ⟨h3, h4⟩ := at_ i h1
      simp only [List.getElem_map, List.getElem_range, h4]
      rw [endX_at nx en s0 h3]
end
end Go.Proofs.Ythdbgpdidolmaaa
