/- Valid automata are small. No program. -/
import Derived.Test.YtofamhgkiipagaaTrl
import Derived.Test.YtofamhgkiipagaaFa3
import Derived.Test.YtofamhgkiipagaaLdm
namespace Go.Proofs.Ytofamhgkiipagaa
open Go.RowKit
theorem ok_small {D : DfaD} (h : okD D) : smallD D := by
  have h40 := h.1.2
  exact ⟨⟨by omega, fun r hr => by rw [(h.2.2 r hr).1]; omega⟩, by rw [h.2.1]; omega⟩
theorem nil_small : smallD ([], []) := ⟨⟨by simp, nofun⟩, by simp⟩
theorem canon_ok {D : DfaD} (h : okD D) : okD (canon (lgD D)) := by rw [← small_eq h]; exact trim_ok (sml_ok (trim_ok h))
theorem orNo_small {p : Prop} {D : DfaD} (h : p → okD D) : smallD (orNo p D) := by
  by_cases hp : p
  · rw [orNo_pos hp]; exact ok_small (h hp)
  · rw [orNo_neg hp]; exact nil_small
theorem minSmall (D : DfaD) : smallD (orNo (okD D) (canon (lgD D))) := orNo_small canon_ok
theorem othSmall (D : DfaD) : smallD (orNo (okD D) (canon (lgD (othD D)))) := orNo_small fun h => canon_ok (oth_ok h)
theorem ledSmall (D : DfaD) : smallD (orNo (okD D) (canon (lgD (ledD D)))) := orNo_small fun h => canon_ok (led_ok h)
end Go.Proofs.Ytofamhgkiipagaa
