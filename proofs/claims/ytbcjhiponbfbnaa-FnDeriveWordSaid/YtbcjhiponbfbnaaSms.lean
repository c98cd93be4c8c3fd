/- Lists of parts compared: the laws' sameParts. -/
import Derived.BigQuiet
import Derived.Test.YtbcjhiponbfbnaaGA
set_option linter.unusedSimpArgs false
set_option linter.unusedVariables false
set_option linter.unusedSectionVars false
namespace Go.Proofs.Ytbcjhiponbfbnaa
open Go.RowKit
set_option maxRecDepth 100000
variable {S T : Nat → Prop}
set_option maxHeartbeats 800000 in
theorem sameParts_c (v u : Value) (xs ys : List (Int × Int)) (w : World) (hv : Pairs S w v xs) (hu : Pairs T w u ys) : Calls Try.prog 11 #[v, u] w (RBn w (xs = ys)) := by
  obtain ⟨a, ca, rfl, hn⟩ := hv.shape
  obtain ⟨b, cb, rfl, hn2⟩ := hu.shape
  by_cases hl : xs.length ≠ ys.length
  · have hne : ((xs.length : Int) != (ys.length : Int)) = true := by simp; omega
    have HL := Lib.hid hl; clear hl hv hu
    go_enter Try.func11, Try.ntmps11
    go_wp2
    go_ret
    exact RBn.mk (Below.refl _ _) ⟨nofun, fun h => absurd (congrArg List.length h) HL.out⟩
  have hl := Decidable.not_not.1 hl
  rw [← hl] at hu ⊢
  have HL := Lib.hid hl; clear hl
  have HV := Lib.hid hv; clear hv
  have HU := Lib.hid hu; clear hu
  have hne : ((xs.length : Int) != (xs.length : Int)) = false := by simp
  go_enter Try.func11, Try.ntmps11
  go_wp2
  go_loopw [5] (fun i wr => ∃ k : Nat, k ≤ xs.length ∧ i = .int .i64 k ∧ (∃ q, wr = w.drewN q) ∧ Hid (xs.take k = ys.take k)) (fun i _ => xs.length - (intOf i).toNat)
  case atStart => exact ⟨0, by omega, rfl, ⟨0, rfl⟩, by simp [Hid]⟩
  case round =>
    obtain ⟨k, hk, rfl, ⟨q, rfl⟩, Ht⟩ := hrel
    by_cases hlt : k < xs.length
    · have hlt2 : k < ys.length := by rw [← HL.out]; exact hlt
      obtain ⟨ba, oa, rfl, hca, hca2⟩ := HV.out.at hlt
      obtain ⟨bb, ob, rfl, hcb, hcb2⟩ := HU.out.at hlt2
      have h1 := Lib.hid (List.take_succ_eq_append_getElem hlt)
      have h2 := Lib.hid (List.take_succ_eq_append_getElem hlt2)
      have h3 : Hid (xs[k] ≠ ys[k] → xs ≠ ys) := fun hne he => hne (by subst he; rfl)
      obtain ⟨⟨x, x2⟩, hx⟩ : ∃ x, x = xs[k] := ⟨_, rfl⟩
      obtain ⟨⟨y, y2⟩, hy⟩ : ∃ y, y = ys[k] := ⟨_, rfl⟩
      rw [← hx] at hca hca2 h1 h3
      rw [← hy] at hcb hcb2 h2 h3
      clear hx hy
      simp only at hca hca2 hcb hcb2
      by_cases hxy : x = y ∧ x2 = y2
      · obtain ⟨rfl, rfl⟩ := hxy
        go_wp2_with fail
        go_quiet (fail)
        go_wp2
        go_roundw
        case rel => exact ⟨k + 1, by omega, by go_num, ⟨_, rfl⟩, by rw [h1.out, h2.out, Ht.out]; exact Lib.hid rfl⟩
        case measure => simp [intOf]; omega
      · have Hxy := Lib.hid hxy
        by_cases hx1 : x = y
        · have hx2 : (x2 == y2) = false := by simp; exact fun h => hxy ⟨hx1, h⟩
          have hx2n : ¬ x2 = y2 := fun h => hxy ⟨hx1, h⟩
          subst hx1
          clear hxy
          go_wp2_with fail
          go_quiet (fail)
          go_wp2
          go_ret
          exact RBn.mk (belDrewN (belReflN _ _ _) _) ⟨nofun, fun he => (h3.out (fun h => Hxy.out (by cases h; simp)) he).elim⟩
        · have hx2 : (x == y) = false := by simpa using hx1
          clear hxy
          go_wp2_with fail
          go_quiet (fail)
          go_wp2
          go_ret
          exact RBn.mk (belDrewN (belReflN _ _ _) _) ⟨nofun, fun he => (h3.out (fun h => Hxy.out (by cases h; simp)) he).elim⟩
    · obtain rfl : k = xs.length := by omega
      have he : Hid (xs = ys) := by
        have := Ht.out
        rw [List.take_of_length_le (Nat.le_refl _), HL.out, List.take_of_length_le (Nat.le_refl _)] at this
        exact this
      go_wp2
      go_ret
      exact RBn.mk (belReflN _ _ _) ⟨fun _ => he.out, fun _ => rfl⟩
end Go.Proofs.Ytbcjhiponbfbnaa
