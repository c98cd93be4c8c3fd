/- The smallest automaton of two side by side is small. No program. -/
import Derived.Test.YtofamhgkiipagaaDsm
import Derived.Test.YtofamhgkiipagaaPrd
namespace Go.Proofs.Ytofamhgkiipagaa
open Go.RowKit
theorem rnd_fix {α : Type} [DecidableEq α] (nx : α → Nat → α) (s0 : α) {n : Nat} (h : (rnd nx s0 n).length ≤ n) : ∃ k, k ≤ n ∧ (rnd nx s0 k).length = k := by
  induction n with
  | zero => exact ⟨0, Nat.le_refl _, by omega⟩
  | succ n ih =>
    rcases Nat.lt_or_ge n (rnd nx s0 n).length with h1 | h1
    · exact ⟨n + 1, Nat.le_refl _, Nat.le_antisymm h (Nat.le_trans h1 (rnd_pre_succ nx s0 n).length_le)⟩
    · obtain ⟨k, hk, he⟩ := ih h1
      exact ⟨k, by omega, he⟩
theorem pr_ok {g : Bool → Bool → Bool} {A B : DfaD} (h : prP A B) : okD (canon (lg (pn A B) (pe g A B) (0, 0))) := by
  have h40 : (rnd (pn A B) (0, 0) 40).length ≤ 40 := Nat.le_of_not_lt fun hl => h.2.2 ⟨40, hl⟩
  obtain ⟨k, hk, he⟩ := rnd_fix (pn A B) (0, 0) h40
  have := canon_ok (pair_ok (g := g) he hk)
  rw [pair_lg he] at this
  exact this
theorem prSmall (g : Bool → Bool → Bool) (A B : DfaD) : smallD (prD g A B) := orNo_small pr_ok
theorem dfaBoxed {v : World} {lo lo' g : Nat} {x y a c : Value} {q : DfaD} (hd : DfaW (fun b => lo' ≤ b ∧ b < v.heap.size) v x y q) (hg : g < lo') (hlo : lo ≤ lo') :
    DfaW (fun b => lo ≤ b ∧ b < ((v.setCell ⟨g, 0, none⟩ a).setCell ⟨g, 1, none⟩ c).heap.size) ((v.setCell ⟨g, 0, none⟩ a).setCell ⟨g, 1, none⟩ c) x y q := by
  refine ((hd.mono (T := fun b => g < b ∧ lo ≤ b ∧ b < v.heap.size) (fun b h => ⟨by omega, by omega, h.2⟩)).stay (fun b h1 _ => ?_)).mono (fun b h => ⟨h.2.1, by simp [World.setCell]; exact h.2.2⟩)
  have hne : b ≠ g := by omega
  rw [Below.heap_setCell _ _ _ _ hne, Below.heap_setCell _ _ _ _ hne]
end Go.Proofs.Ytofamhgkiipagaa
