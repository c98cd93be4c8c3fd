/- Sizes of automata as ones with choices. -/
import Derived.Test.YtgihihnbapnnjaaNfp
import Derived.Test.YtgihihnbapnnjaaNof
namespace Go.Proofs.Ytgihihnbapnnjaa
open Go.RowKit
theorem nfvSmall (D : DfaD) : smallW (nfv D) := by
  by_cases h : okD D
  · rw [nfv_yes h]
    refine ⟨?_, by simp [nfaD], ?_⟩
    · show (mvA D D.1.length).length ≤ _
      rw [mvA_len]; have := h.1.2; omega
    · show (enA D D.1.length).length ≤ _
      have := enA_len D D.1.length; have := h.1.2; omega
  · rw [nfv_no h]; exact ⟨by simp [nfa0], by simp [nfa0], by simp [nfa0]⟩
end Go.Proofs.Ytgihihnbapnnjaa
