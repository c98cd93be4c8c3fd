/- The laws' small helpers: sizes, copies, comparisons of equal data, marks. Sizes of at most 1048576. -/
import Derived.Test.YtgihihnbapnnjaaWrd
import Derived.Test.YtgihihnbapnnjaaRdg
import Derived.StillTailTactics
namespace Go.Proofs.Ytgihihnbapnnjaa
open Go.RowKit
set_option maxRecDepth 100000
variable {S T : Nat → Prop}

theorem bneS (x : Int) : (x != x) = false := by simp
theorem beqS (x : Int) : (x == x) = true := by simp
set_option maxHeartbeats 400000 in
theorem eqIntS_c (v u : Value) (xs : List Int) (w : World) (hv : Ints S w v xs) (hu : Ints T w u xs) : Calls Try.prog 19 #[v, u] w (RBn w True) := by
  obtain ⟨a, ca, rfl, hn⟩ := hv.shape
  obtain ⟨b, cb, rfl, _⟩ := hu.shape
  have HV := Lib.hid hv; clear hv
  have HU := Lib.hid hu; clear hu
  have hne := bneS (xs.length : Int)
  go_enter Try.func19, Try.ntmps19
  go_wp2
  go_loopw [5] (fun i wr => ∃ k : Nat, k ≤ xs.length ∧ i = .int .i64 k ∧ ∃ q, wr = w.drewN q) (fun i _ => xs.length - (intOf i).toNat)
  case atStart => exact ⟨0, by omega, rfl, 0, rfl⟩
  case round =>
    obtain ⟨k, hk, rfl, q, rfl⟩ := hrel
    by_cases hlt : k < xs.length
    · obtain ⟨ba, oa, rfl, hca⟩ := HV.out.at hlt
      obtain ⟨bb, ob, rfl, hcb⟩ := HU.out.at hlt
      have hx := bneS xs[k]
      generalize xs[k] = x at *
      go_wp2_with fail
      go_quiet (fail)
      go_wp2
      go_roundw
      case rel => exact ⟨k + 1, by omega, by go_num, _, rfl⟩
      case measure => simp [intOf]; omega
    · go_wp2
      go_ret
      exact RBn.mk (belReflN _ _ _) (by simp)
theorem eqPart_c (x y : Int) (w : World) : Calls Try.prog 63 #[.agg #[.int .i64 x, .int .i64 y], .agg #[.int .i64 x, .int .i64 y]] w (RBn w True) := by
  have hx := bneS x
  have hy := bneS y
  go_enter Try.func63, Try.ntmps63
  go_wp2
  go_ret
  exact RBn.mk (((Below.refl _ _).alloc (Nat.le_refl _) _).alloc (by simp) _) (by simp)
set_option maxHeartbeats 400000 in
theorem eqPartS_c (v u : Value) (xs : List (Int × Int)) (w : World) (hv : Pairs S w v xs) (hu : Pairs T w u xs) : Calls Try.prog 20 #[v, u] w (RBn w True) := by
  obtain ⟨a, ca, rfl, hn⟩ := hv.shape
  obtain ⟨b, cb, rfl, _⟩ := hu.shape
  have HV := Lib.hid hv; clear hv
  have HU := Lib.hid hu; clear hu
  have hne := bneS (xs.length : Int)
  go_enter Try.func20, Try.ntmps20
  go_wp2
  go_loopw [5] (fun i wr => ∃ k : Nat, k ≤ xs.length ∧ i = .int .i64 k ∧ Below w.heap.size w wr) (fun i _ => xs.length - (intOf i).toNat)
  case atStart => exact ⟨0, by omega, rfl, Below.refl _ _⟩
  case round =>
    obtain ⟨k, hk, rfl, hb⟩ := hrel
    by_cases hlt : k < xs.length
    · obtain ⟨ba, oa, rfl, hca, hca'⟩ := (HV.out.stay (kpB hb)).at hlt
      obtain ⟨bb, ob, rfl, hcb, hcb'⟩ := (HU.out.stay (kpB hb)).at hlt
      generalize xs[k] = x at *
      obtain ⟨x, y⟩ := x
      go_wp2_with fail
      go_still_tail 8, (by kernel_rfl)
      change wpList _ _ _ _ _ wr.drew
      have hb2 : Below w.heap.size w wr.drew := hb.drew
      generalize wr.drew = w2 at *
      go_wp2_with fail
      refine (eqPart_c x y _).mono ?_
      rintro e w3 ⟨b, rfl, hb3, hp⟩
      cases b
      · exact (hbF hp trivial).elim
      clear hp
      go_wp2
      go_roundw
      case rel => exact ⟨k + 1, by omega, by go_num, hb2.trans (hb3.mono hb2.size)⟩
      case measure => simp [intOf]; omega
    · go_wp2
      go_ret
      exact RBn.mk hb (by simp)
end Go.Proofs.Ytgihihnbapnnjaa
