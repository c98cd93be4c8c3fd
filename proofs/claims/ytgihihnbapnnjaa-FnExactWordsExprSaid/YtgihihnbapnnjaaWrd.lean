/- Walks of the word functions: within, areLetters, TextValid, WordValid and their reference. Strings of at most maxLen bytes. -/
import Derived.Test.YtgihihnbapnnjaaBas
namespace Go.Proofs.Ytgihihnbapnnjaa
open Go.RowKit
set_option maxRecDepth 100000

theorem within_c (x low high : Int) (w : World) :
    Calls Try.prog 130 #[.int .i64 x, .int .i64 low, .int .i64 high] w (RB w (low ≤ x ∧ x ≤ high)) := by
  by_cases h1 : low ≤ x
  · by_cases h2 : x ≤ high
    · go_enter Try.func130, Try.ntmps130
      go_wp2
      go_ret
      exact RB.mk (by simp [h1, h2])
    · go_enter Try.func130, Try.ntmps130
      go_wp2
      go_ret
      exact RB.mk (by simp [h2])
  · go_enter Try.func130, Try.ntmps130
    go_wp2
    go_ret
    exact RB.mk (by simp; omega)
theorem l1In_c (x low high : Int) (w : World) :
    Calls Try.prog 127 #[.int .i64 x, .int .i64 low, .int .i64 high] w (RB w (low ≤ x ∧ x ≤ high)) := by
  by_cases h1 : low ≤ x
  · by_cases h2 : x ≤ high
    · go_enter Try.func127, Try.ntmps127
      go_wp2
      go_ret
      exact RB.mk (by simp [h1, h2])
    · go_enter Try.func127, Try.ntmps127
      go_wp2
      go_ret
      exact RB.mk (by simp [h2])
  · go_enter Try.func127, Try.ntmps127
    go_wp2
    go_ret
    exact RB.mk (by simp; omega)
set_option maxHeartbeats 400000 in
theorem areLetters_c (s : ByteArray) (m : Int) (w : World) (hs : s.size ≤ maxLen) :
    Calls Try.prog 124 #[.string s, .int .i64 m] w (RB w (letS s ∧ (s.size : Int) ≤ m)) := by
  unfold maxLen at hs
  go_enter Try.func124, Try.ntmps124
  go_wp2
  go_loop [8] (fun i => ∃ k : Nat, k ≤ s.size ∧ i = .int .i64 k ∧ ∀ j (h : j < s.size), j < k → letB s[j]) (fun i => s.size - (intOf i).toNat)
  case atStart => exact ⟨0, by omega, rfl, by simp⟩
  case round =>
    obtain ⟨k, hk, rfl, hr⟩ := hrel
    have Hr := Lib.hid hr; clear hr
    by_cases hlt : k < s.size
    · have hw : wrap64 (s[k].toNat : Int) = s[k].toNat := IntWalk.wrap64_in _ (by have := s[k].toNat_lt; omega)
      go_wp2_with fail
      refine (within_c _ _ _ _).mono ?_
      rintro e w' ⟨b, rfl, rfl, hb⟩
      cases b
      · have hp := hbF hb; clear hb
        go_wp2
        go_ret
        exact RB.mk ⟨nofun, fun h => (hp (h.1 k hlt)).elim⟩
      · have hp := Lib.hid (hbT hb); clear hb
        go_wp2
        go_round
        case rel => exact ⟨k+1, by omega, by go_num, fun j h hj => by
          rcases Nat.lt_succ_iff_lt_or_eq.1 hj with h1 | rfl
          · exact Hr.out j h h1
          · exact hp.out⟩
        case measure => simp [intOf]; omega
    · go_wp2
      go_ret
      exact RB.mk (by simp; exact fun _ => fun j h => Hr.out j h (by omega))
theorem WordValid_c (s : ByteArray) (w : World) (hs : s.size ≤ maxLen) :
    Calls Try.prog 67 #[.string s] w (RB w (letS s ∧ s.size ≤ 8)) := by
  go_enter Try.func67, Try.ntmps67
  go_wp2_with fail
  refine (areLetters_c _ _ _ hs).mono ?_
  rintro e w' ⟨b, rfl, rfl, hb⟩
  go_wp2
  go_ret
  exact ⟨b, rfl, rfl, hb.out.trans (and_congr_right fun _ => by omega)⟩
set_option maxHeartbeats 400000 in
theorem sWordValid_c (s : ByteArray) (w : World) (hs : s.size ≤ maxLen) :
    Calls Try.prog 122 #[.string s] w (RB w (letS s ∧ s.size ≤ 8)) := by
  unfold maxLen at hs
  go_enter Try.func122, Try.ntmps122
  go_wp2
  go_loop [3] (fun i => ∃ k : Nat, k ≤ s.size ∧ i = .int .i64 k ∧ ∀ j (h : j < s.size), j < k → letB s[j]) (fun i => s.size - (intOf i).toNat)
  case atStart => exact ⟨0, by omega, rfl, by simp⟩
  case round =>
    obtain ⟨k, hk, rfl, hr⟩ := hrel
    have Hr := Lib.hid hr; clear hr
    by_cases hlt : k < s.size
    · have hw : wrap64 (s[k].toNat : Int) = s[k].toNat := IntWalk.wrap64_in _ (by have := s[k].toNat_lt; omega)
      go_wp2_with fail
      refine (l1In_c _ _ _ _).mono ?_
      rintro e w' ⟨b, rfl, rfl, hb⟩
      cases b
      · have hp := hbF hb; clear hb
        go_wp2
        go_ret
        exact RB.mk ⟨nofun, fun h => (hp (h.1 k hlt)).elim⟩
      · have hp := Lib.hid (hbT hb); clear hb
        go_wp2
        go_round
        case rel => exact ⟨k+1, by omega, by go_num, fun j h hj => by
          rcases Nat.lt_succ_iff_lt_or_eq.1 hj with h1 | rfl
          · exact Hr.out j h h1
          · exact hp.out⟩
        case measure => simp [intOf]; omega
    · go_wp2
      go_ret
      exact RB.mk (by
        have hl : letS s := fun j h => Hr.out j h (by omega)
        simp only [hl, decide_eq_true_eq, true_and]; omega)
theorem letter_c (s : ByteArray) (k : Nat) (w : World) (hs : s.size ≤ maxLen) (hk : k < s.size) (hl : letB s[k]) :
    Calls Try.prog 125 #[.string s, .int .i64 k] w (RI w fun n => n = (s[k].toNat : Int) - 97 ∧ 0 ≤ n ∧ n ≤ 2) := by
  unfold maxLen at hs
  unfold letB at hl
  have h1 : (97 : Int) ≤ (s[k].toNat : Int) := hl.1
  have h2 : (s[k].toNat : Int) ≤ 99 := hl.2
  go_enter Try.func125, Try.ntmps125
  go_wp2
  go_ret
  exact RI.mk ⟨rfl, by omega, by omega⟩
end Go.Proofs.Ytgihihnbapnnjaa
