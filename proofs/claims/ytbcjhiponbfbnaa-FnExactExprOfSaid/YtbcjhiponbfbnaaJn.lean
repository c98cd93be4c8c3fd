/- Lists of places joined: where they ascend, the second behind the first. -/
import Derived.Test.YtbcjhiponbfbnaaGG
set_option linter.unusedSimpArgs false
set_option linter.unusedVariables false
set_option linter.unusedSectionVars false
namespace Go.Proofs.Ytbcjhiponbfbnaa
open Go.RowKit
set_option maxRecDepth 100000
variable {S T : Nat → Prop}
set_option maxHeartbeats 400000 in
theorem l7NameNo_c (v : Value) (xs : List Int) (x : Int) (w : World) (h : Ints S w v xs) (hx : ∀ y ∈ xs, y ≠ x) :
    Calls Try.prog 141 #[v, .int .i64 x] w (fun e w' => e = .returned (.int .i64 (-1)) ∧ w' = w) := by
  obtain ⟨a, cap, rfl, hn⟩ := h.shape
  have H := Lib.hid h; clear h
  have HX := Lib.hid hx; clear hx
  go_enter Try.func141, Try.ntmps141
  go_wp2
  go_loop [5] (fun i => ∃ j : Nat, j ≤ xs.length ∧ i = .int .i64 j) (fun i => xs.length - (intOf i).toNat)
  case atStart => exact ⟨0, by omega, rfl⟩
  case round =>
    obtain ⟨j, hj, rfl⟩ := hrel
    by_cases hlt : j < xs.length
    · obtain ⟨b, off, rfl, hc⟩ := H.out.at (k := j) hlt
      have hjI : (j : Int) < (xs.length : Int) := by omega
      have hne : (xs[j] == x) = false := by
        have := HX.out _ (List.getElem_mem hlt)
        simpa using this
      generalize xs[j] = y at *
      go_wp2
      go_round
      case rel => exact ⟨j + 1, by omega, by go_num⟩
      case measure => simp [intOf]; omega
    · obtain rfl : j = xs.length := by omega
      go_wp2
      go_ret
      exact ⟨rfl, rfl⟩
theorem growBel {B : Nat} {a b : World} {row : Option Nat} (h : a.grownBy b row) (hs : B ≤ a.heap.size) (hr : ∀ k, row = some k → B ≤ k) : Below B a b :=
  ⟨h.os, h.tape, h.output, h.size, fun k hk => h.block k (by omega) (fun e => by have := hr k (by first | exact e | exact e.symm); omega)⟩
end Go.Proofs.Ytbcjhiponbfbnaa
