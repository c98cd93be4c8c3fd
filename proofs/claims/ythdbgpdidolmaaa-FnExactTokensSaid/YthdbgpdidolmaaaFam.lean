/- The laws' small helpers: sizes, copies, comparisons of equal data, marks. Sizes of at most 1048576. -/
import Derived.Test.YthdbgpdidolmaaaWrd
import Derived.Test.YthdbgpdidolmaaaRdg
import Derived.StillTailTactics
namespace Go.Proofs.Ythdbgpdidolmaaa
open Go.RowKit
set_option maxRecDepth 100000
variable {S T : Nat → Prop}

theorem bneS (x : Int) : (x != x) = false := by simp
theorem beqS (x : Int) : (x == x) = true := by simp
set_option maxHeartbeats 400000 in
theorem eqIntS_c (v u : Value) (xs : List Int) (w : World) (hv : Ints S w v xs) (hu : Ints T w u xs) : Calls Try.prog 85 #[v, u] w (RBn w True) := by
  obtain ⟨a, ca, rfl, hn⟩ := hv.shape
  obtain ⟨b, cb, rfl, _⟩ := hu.shape
  have HV := Lib.hid hv; clear hv
  have HU := Lib.hid hu; clear hu
  have hne := bneS (xs.length : Int)
  go_enter Try.func85, Try.ntmps85
  go_wp2
  go_loopw [5] (fun i wr => ∃ k : Nat, k ≤ xs.length ∧ i = .int .i64 k ∧ ∃ q, wr = w.drewN q) (fun i _ => xs.length - (intOf i).toNat)
  case atStart => exact ⟨0, by omega, rfl, 0, rfl⟩
  case round =>
    obtain ⟨k, hk, rfl, q, rfl⟩ := hrel
    by_cases hlt : k < xs.length
    · obtain ⟨ba, oa, rfl, hca⟩ := HV.out.at hlt
      obtain ⟨bb, ob, rfl, hcb⟩ := HU.out.at hlt
      have hx := bneS xs[k]
      generalize xs[k] = x at *
      go_wp2_with fail
      go_quiet (fail)
      go_wp2
      go_roundw
      case rel => exact ⟨k + 1, by omega, by go_num, _, rfl⟩
      case measure => simp [intOf]; omega
    · go_wp2
      go_ret
      exact RBn.mk (belReflN _ _ _) (by simp)
end Go.Proofs.Ythdbgpdidolmaaa
