/- Walks of the word functions: within, areLetters, TextValid, WordValid and their reference. Strings of at most maxLen bytes. -/
import Derived.Test.YtofamhgkiipagaaBas
namespace Go.Proofs.Ytofamhgkiipagaa
open Go.RowKit
set_option maxRecDepth 100000

theorem within_c (x low high : Int) (w : World) :
    Calls Try.prog 96 #[.int .i64 x, .int .i64 low, .int .i64 high] w (RB w (low ≤ x ∧ x ≤ high)) := by
  by_cases h1 : low ≤ x
  · by_cases h2 : x ≤ high
    · go_enter Try.func96, Try.ntmps96
      go_wp2
      go_ret
      exact RB.mk (by simp [h1, h2])
    · go_enter Try.func96, Try.ntmps96
      go_wp2
      go_ret
      exact RB.mk (by simp [h2])
  · go_enter Try.func96, Try.ntmps96
    go_wp2
    go_ret
    exact RB.mk (by simp; omega)
theorem l1In_c (x low high : Int) (w : World) :
    Calls Try.prog 93 #[.int .i64 x, .int .i64 low, .int .i64 high] w (RB w (low ≤ x ∧ x ≤ high)) := by
  by_cases h1 : low ≤ x
  · by_cases h2 : x ≤ high
    · go_enter Try.func93, Try.ntmps93
      go_wp2
      go_ret
      exact RB.mk (by simp [h1, h2])
    · go_enter Try.func93, Try.ntmps93
      go_wp2
      go_ret
      exact RB.mk (by simp [h2])
  · go_enter Try.func93, Try.ntmps93
    go_wp2
    go_ret
    exact RB.mk (by simp; omega)
end Go.Proofs.Ytofamhgkiipagaa
