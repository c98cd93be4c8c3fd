/- The matches of a text are few. No program. -/
import Derived.Test.YtmgebneniadabaaTxa
namespace Go.Proofs.Ytmgebneniadabaa
open Go.RowKit
theorem fal_len (D : DfaD) (s : ByteArray) : ∀ n f, (fal D s n f).length ≤ n
  | 0, f => by simp [fal]
  | n + 1, f => by
    unfold fal
    cases find D s f with
    | none => simp
    | some m =>
      have := fal_len D s n (nxt m)
      simp only [List.length_cons]
      omega
theorem allv_small (D : DfaD) (s : ByteArray) : (allv D s).length ≤ 1000000000000 := by
  by_cases h : okD D ∧ (letS s ∧ s.size ≤ 30)
  · rw [allv_yes h.1 h.2]
    have h1 := fal_len D s (s.size + 2 - 0) 0
    have h2 := h.2.2
    unfold alls
    omega
  · unfold allv; rw [if_neg h]; simp
end Go.Proofs.Ytmgebneniadabaa
