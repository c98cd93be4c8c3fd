/- Whether an expression is plain: the reference's answer. -/
import Derived.Test.YtbcjhiponbfbnaaEnds
set_option linter.unusedSimpArgs false
set_option linter.unusedVariables false
set_option linter.unusedSectionVars false
namespace Go.Proofs.Ytbcjhiponbfbnaa
open Go.RowKit
set_option maxRecDepth 100000
variable {S T : Nat → Prop}
/-- Neither both nor not. -/
def plainE (e : List (Int × Int)) : Prop := ∀ p ∈ e, p.1 ≠ 6 ∧ p.1 ≠ 7
set_option maxHeartbeats 400000 in
theorem l12Plain_c (v : Value) (e : List (Int × Int)) (w : World) (h : Pairs S w v e) : Calls Try.prog 135 #[v] w (RBn w (plainE e)) := by
  obtain ⟨a, cap, rfl, hn⟩ := h.shape
  have H := Lib.hid h; clear h
  go_enter Try.func135, Try.ntmps135
  go_wp2
  go_loop [3] (fun i => ∃ j : Nat, j ≤ e.length ∧ i = .int .i64 j ∧ Hid (∀ k (hk : k < e.length), k < j → e[k].1 ≠ 6 ∧ e[k].1 ≠ 7)) (fun i => e.length - (intOf i).toNat)
  case atStart => exact ⟨0, by omega, rfl, Lib.hid (fun k _ h => by omega)⟩
  case round =>
    obtain ⟨j, hj, rfl, hall⟩ := hrel
    by_cases hlt : j < e.length
    · obtain ⟨b, off, rfl, c0, c1⟩ := H.out.at (k := j) hlt
      have hjI : (j : Int) < (e.length : Int) := by omega
      obtain ⟨x, hx⟩ : ∃ x, x = e[j].1 := ⟨_, rfl⟩
      rw [← hx] at c0
      have HX := Lib.hid hx
      clear hx c1
      by_cases h6 : x = 6
      · have HN : Hid (¬ plainE e) := fun hp => (hp _ (List.getElem_mem hlt)).1 (by rw [← HX.out]; exact h6)
        subst h6
        go_wp2
        go_ret
        exact RBn.mk (Below.refl _ _) ⟨nofun, fun h => absurd h HN.out⟩
      · have h6b : (x == 6) = false := by simpa using h6
        by_cases h7 : x = 7
        · have HN : Hid (¬ plainE e) := fun hp => (hp _ (List.getElem_mem hlt)).2 (by rw [← HX.out]; exact h7)
          subst h7
          clear h6 h6b
          go_wp2
          go_ret
          exact RBn.mk (Below.refl _ _) ⟨nofun, fun h => absurd h HN.out⟩
        · have h7b : (x == 7) = false := by simpa using h7
          have H67 := Lib.hid (And.intro h6 h7)
          clear h6 h7
          go_wp2
          go_round
          case rel => exact ⟨j + 1, by omega, by go_num, Lib.hid (fun k hk hkj => by
            rcases Nat.lt_or_ge k j with h | h
            · exact hall.out k hk h
            · obtain rfl : k = j := by omega
              rw [← HX.out]; exact H67.out)⟩
          case measure => simp [intOf]; omega
    · obtain rfl : j = e.length := by omega
      have HY : Hid (plainE e) := fun p hp => by
        obtain ⟨k, hk, rfl⟩ := List.mem_iff_getElem.1 hp
        exact hall.out k hk hk
      go_wp2
      go_ret
      exact RBn.mk (Below.refl _ _) ⟨fun _ => HY.out, fun _ => rfl⟩
end Go.Proofs.Ytbcjhiponbfbnaa
