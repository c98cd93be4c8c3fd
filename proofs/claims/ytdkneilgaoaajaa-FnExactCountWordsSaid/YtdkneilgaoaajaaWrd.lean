/- Walks of the word functions: within, areLetters, TextValid, WordValid and their reference. Strings of at most maxLen bytes. -/
import Derived.Test.YtdkneilgaoaajaaBas
namespace Go.Proofs.Ytdkneilgaoaajaa
open Go.RowKit
set_option maxRecDepth 100000

theorem within_c (x low high : Int) (w : World) :
    Calls Try.prog 75 #[.int .i64 x, .int .i64 low, .int .i64 high] w (RB w (low ≤ x ∧ x ≤ high)) := by
  by_cases h1 : low ≤ x
  · by_cases h2 : x ≤ high
    · go_enter Try.func75, Try.ntmps75
      go_wp2
      go_ret
      exact RB.mk (by simp [h1, h2])
    · go_enter Try.func75, Try.ntmps75
      go_wp2
      go_ret
      exact RB.mk (by simp [h2])
  · go_enter Try.func75, Try.ntmps75
    go_wp2
    go_ret
    exact RB.mk (by simp; omega)
theorem l1In_c (x low high : Int) (w : World) :
    Calls Try.prog 64 #[.int .i64 x, .int .i64 low, .int .i64 high] w (RB w (low ≤ x ∧ x ≤ high)) := by
  by_cases h1 : low ≤ x
  · by_cases h2 : x ≤ high
    · go_enter Try.func64, Try.ntmps64
      go_wp2
      go_ret
      exact RB.mk (by simp [h1, h2])
    · go_enter Try.func64, Try.ntmps64
      go_wp2
      go_ret
      exact RB.mk (by simp [h2])
  · go_enter Try.func64, Try.ntmps64
    go_wp2
    go_ret
    exact RB.mk (by simp; omega)
set_option maxHeartbeats 400000 in
theorem areLetters_c (s : ByteArray) (m : Int) (w : World) (hs : s.size ≤ maxLen) :
    Calls Try.prog 65 #[.string s, .int .i64 m] w (RB w (letS s ∧ (s.size : Int) ≤ m)) := by
  unfold maxLen at hs
  go_enter Try.func65, Try.ntmps65
  go_wp2
  go_loop [8] (fun i => ∃ k : Nat, k ≤ s.size ∧ i = .int .i64 k ∧ ∀ j (h : j < s.size), j < k → letB s[j]) (fun i => s.size - (intOf i).toNat)
  case atStart => exact ⟨0, by omega, rfl, by simp⟩
  case round =>
    obtain ⟨k, hk, rfl, hr⟩ := hrel
    have Hr := Lib.hid hr; clear hr
    by_cases hlt : k < s.size
    · have hw : wrap64 (s[k].toNat : Int) = s[k].toNat := IntWalk.wrap64_in _ (by have := s[k].toNat_lt; omega)
      go_wp2_with fail
      refine (within_c _ _ _ _).mono ?_
      rintro e w' ⟨b, rfl, rfl, hb⟩
      cases b
      · have hp := hbF hb; clear hb
        go_wp2
        go_ret
        exact RB.mk ⟨nofun, fun h => (hp (h.1 k hlt)).elim⟩
      · have hp := Lib.hid (hbT hb); clear hb
        go_wp2
        go_round
        case rel => exact ⟨k+1, by omega, by go_num, fun j h hj => by
          rcases Nat.lt_succ_iff_lt_or_eq.1 hj with h1 | rfl
          · exact Hr.out j h h1
          · exact hp.out⟩
        case measure => simp [intOf]; omega
    · go_wp2
      go_ret
      exact RB.mk (by simp; exact fun _ => fun j h => Hr.out j h (by omega))
theorem TextValid_c (s : ByteArray) (w : World) (hs : s.size ≤ maxLen) :
    Calls Try.prog 16 #[.string s] w (RB w (letS s ∧ s.size ≤ 30)) := by
  go_enter Try.func16, Try.ntmps16
  go_wp2_with fail
  refine (areLetters_c _ _ _ hs).mono ?_
  rintro e w' ⟨b, rfl, rfl, hb⟩
  go_wp2
  go_ret
  exact ⟨b, rfl, rfl, hb.out.trans (and_congr_right fun _ => by omega)⟩
theorem WordValid_c (s : ByteArray) (w : World) (hs : s.size ≤ maxLen) :
    Calls Try.prog 18 #[.string s] w (RB w (letS s ∧ s.size ≤ 8)) := by
  go_enter Try.func18, Try.ntmps18
  go_wp2_with fail
  refine (areLetters_c _ _ _ hs).mono ?_
  rintro e w' ⟨b, rfl, rfl, hb⟩
  go_wp2
  go_ret
  exact ⟨b, rfl, rfl, hb.out.trans (and_congr_right fun _ => by omega)⟩
set_option maxHeartbeats 400000 in
theorem sTextValid_c (s : ByteArray) (w : World) (hs : s.size ≤ maxLen) :
    Calls Try.prog 15 #[.string s] w (RB w (letS s ∧ s.size ≤ 30)) := by
  unfold maxLen at hs
  go_enter Try.func15, Try.ntmps15
  go_wp2
  go_loop [3] (fun i => ∃ k : Nat, k ≤ s.size ∧ i = .int .i64 k ∧ ∀ j (h : j < s.size), j < k → letB s[j]) (fun i => s.size - (intOf i).toNat)
  case atStart => exact ⟨0, by omega, rfl, by simp⟩
  case round =>
    obtain ⟨k, hk, rfl, hr⟩ := hrel
    have Hr := Lib.hid hr; clear hr
    by_cases hlt : k < s.size
    · have hw : wrap64 (s[k].toNat : Int) = s[k].toNat := IntWalk.wrap64_in _ (by have := s[k].toNat_lt; omega)
      go_wp2_with fail
      refine (l1In_c _ _ _ _).mono ?_
      rintro e w' ⟨b, rfl, rfl, hb⟩
      cases b
      · have hp := hbF hb; clear hb
        go_wp2
        go_ret
        exact RB.mk ⟨nofun, fun h => (hp (h.1 k hlt)).elim⟩
      · have hp := Lib.hid (hbT hb); clear hb
        go_wp2
        go_round
        case rel => exact ⟨k+1, by omega, by go_num, fun j h hj => by
          rcases Nat.lt_succ_iff_lt_or_eq.1 hj with h1 | rfl
          · exact Hr.out j h h1
          · exact hp.out⟩
        case measure => simp [intOf]; omega
    · go_wp2
      go_ret
      exact RB.mk (by
        have hl : letS s := fun j h => Hr.out j h (by omega)
        simp only [hl, decide_eq_true_eq, true_and]; omega)
set_option maxHeartbeats 400000 in
theorem sWordValid_c (s : ByteArray) (w : World) (hs : s.size ≤ maxLen) :
    Calls Try.prog 69 #[.string s] w (RB w (letS s ∧ s.size ≤ 8)) := by
  unfold maxLen at hs
  go_enter Try.func69, Try.ntmps69
  go_wp2
  go_loop [3] (fun i => ∃ k : Nat, k ≤ s.size ∧ i = .int .i64 k ∧ ∀ j (h : j < s.size), j < k → letB s[j]) (fun i => s.size - (intOf i).toNat)
  case atStart => exact ⟨0, by omega, rfl, by simp⟩
  case round =>
    obtain ⟨k, hk, rfl, hr⟩ := hrel
    have Hr := Lib.hid hr; clear hr
    by_cases hlt : k < s.size
    · have hw : wrap64 (s[k].toNat : Int) = s[k].toNat := IntWalk.wrap64_in _ (by have := s[k].toNat_lt; omega)
      go_wp2_with fail
      refine (l1In_c _ _ _ _).mono ?_
      rintro e w' ⟨b, rfl, rfl, hb⟩
      cases b
      · have hp := hbF hb; clear hb
        go_wp2
        go_ret
        exact RB.mk ⟨nofun, fun h => (hp (h.1 k hlt)).elim⟩
      · have hp := Lib.hid (hbT hb); clear hb
        go_wp2
        go_round
        case rel => exact ⟨k+1, by omega, by go_num, fun j h hj => by
          rcases Nat.lt_succ_iff_lt_or_eq.1 hj with h1 | rfl
          · exact Hr.out j h h1
          · exact hp.out⟩
        case measure => simp [intOf]; omega
    · go_wp2
      go_ret
      exact RB.mk (by
        have hl : letS s := fun j h => Hr.out j h (by omega)
        simp only [hl, decide_eq_true_eq, true_and]; omega)
theorem letter_c (s : ByteArray) (k : Nat) (w : World) (hs : s.size ≤ maxLen) (hk : k < s.size) (hl : letB s[k]) :
    Calls Try.prog 93 #[.string s, .int .i64 k] w (RI w fun n => n = (s[k].toNat : Int) - 97 ∧ 0 ≤ n ∧ n ≤ 2) := by
  unfold maxLen at hs
  unfold letB at hl
  have h1 : (97 : Int) ≤ (s[k].toNat : Int) := hl.1
  have h2 : (s[k].toNat : Int) ≤ 99 := hl.2
  go_enter Try.func93, Try.ntmps93
  go_wp2
  go_ret
  exact RI.mk ⟨rfl, by omega, by omega⟩
def p3 : Nat → Int
  | 0 => 1
  | k + 1 => 3 * p3 k
theorem p3_bd (k : Nat) (h : k ≤ 8) : 1 ≤ p3 k ∧ p3 k ≤ 6561 := by
  have : k = 0 ∨ k = 1 ∨ k = 2 ∨ k = 3 ∨ k = 4 ∨ k = 5 ∨ k = 6 ∨ k = 7 ∨ k = 8 := by omega
  rcases this with rfl | rfl | rfl | rfl | rfl | rfl | rfl | rfl | rfl <;> decide
theorem wordsOf_c (n : Nat) (w : World) (hn : n ≤ 8) :
    Calls Try.prog 131 #[.int .i64 n] w (RI w fun m => m = p3 n ∧ 1 ≤ m ∧ m ≤ 6561) := by
  go_enter Try.func131, Try.ntmps131
  go_wp2
  go_loop [3, 5] (fun x i => ∃ (k : Nat) (m : Int), k ≤ n ∧ i = .int .i64 k ∧ x = .int .i64 m ∧ Hid (m = p3 k)) (fun _ i => n - (intOf i).toNat)
  case atStart => exact ⟨0, 1, by omega, rfl, rfl, rfl⟩
  case round =>
    obtain ⟨k, m, hk, rfl, rfl, Hm⟩ := hrel
    have hb := p3_bd k (by omega)
    rw [← Hm.out] at hb
    obtain ⟨hb1, hb2⟩ := hb
    by_cases hlt : k < n
    · go_wp2
      go_round
      case rel => exact ⟨k + 1, m * 3, by omega, by go_num, rfl, by rw [Hm.out]; exact Int.mul_comm _ _⟩
      case measure => simp [intOf]; omega
    · obtain rfl : k = n := by omega
      go_wp2
      go_ret
      exact RI.mk ⟨Hm.out, hb1, hb2⟩
def shr : Nat → Int
  | 0 => 0
  | k + 1 => shr k + p3 k
theorem shr_bd (k : Nat) (h : k ≤ 9) : 0 ≤ shr k ∧ shr k ≤ 9841 := by
  have : k = 0 ∨ k = 1 ∨ k = 2 ∨ k = 3 ∨ k = 4 ∨ k = 5 ∨ k = 6 ∨ k = 7 ∨ k = 8 ∨ k = 9 := by omega
  rcases this with rfl | rfl | rfl | rfl | rfl | rfl | rfl | rfl | rfl | rfl <;> decide
theorem shorter_c (n : Nat) (w : World) (hn : n ≤ 9) :
    Calls Try.prog 110 #[.int .i64 n] w (RI w fun m => m = shr n ∧ 0 ≤ m ∧ m ≤ 9841) := by
  go_enter Try.func110, Try.ntmps110
  go_wp2
  go_loop [3, 6] (fun x i => ∃ (k : Nat) (m : Int), k ≤ n ∧ i = .int .i64 k ∧ x = .int .i64 m ∧ Hid (m = shr k)) (fun _ i => n - (intOf i).toNat)
  case atStart => exact ⟨0, 0, by omega, rfl, rfl, rfl⟩
  case round =>
    obtain ⟨k, m, hk, rfl, rfl, Hm⟩ := hrel
    have hb := shr_bd k (by omega)
    rw [← Hm.out] at hb
    obtain ⟨hb1, hb2⟩ := hb
    by_cases hlt : k < n
    · go_wp2_with fail
      refine (wordsOf_c k _ (by omega)).mono ?_
      rintro e w' ⟨q, rfl, rfl, hq⟩
      have hq1 := hq.out.2.1
      have hq2 := hq.out.2.2
      go_wp2
      go_round
      case rel => exact ⟨k + 1, m + q, by omega, by go_num, rfl, by rw [Hm.out, hq.out.1]; rfl⟩
      case measure => simp [intOf]; omega
    · obtain rfl : k = n := by omega
      go_wp2
      go_ret
      exact RI.mk ⟨Hm.out, hb1, hb2⟩
def wordNum (l : List UInt8) : Int := l.foldl (fun n c => 3 * n + ((c.toNat : Int) - 97)) 0
theorem take_snoc (s : ByteArray) (k : Nat) (h : k < s.size) : s.data.toList.take (k + 1) = s.data.toList.take k ++ [s[k]] := by
  rw [List.take_succ_eq_append_getElem (by simpa using h)]; rfl
theorem wordNum_bd (l : List UInt8) (h : ∀ c ∈ l, letB c) : 0 ≤ wordNum l ∧ wordNum l < p3 l.length := by
  have key : ∀ l : List UInt8, (∀ c ∈ l, letB c) → ∀ n : Int, ∀ j : Nat, 0 ≤ n → n < p3 j → 0 ≤ l.foldl (fun n c => 3 * n + ((c.toNat : Int) - 97)) n ∧ l.foldl (fun n c => 3 * n + ((c.toNat : Int) - 97)) n < p3 (j + l.length) := by
    intro l
    induction l with
    | nil => intro _ n j h0 h1; exact ⟨h0, h1⟩
    | cons c t ih =>
      intro h n j h0 h1
      have hc := h c (by simp)
      unfold letB at hc
      have := ih (fun c hc => h c (by simp [hc])) (3 * n + ((c.toNat : Int) - 97)) (j + 1) (by omega) (by show _ < 3 * p3 j; omega)
      simpa [List.foldl_cons, Nat.add_assoc, Nat.add_comm 1] using this
  have := key l h 0 0 (by omega) (by decide)
  simpa [wordNum] using this
theorem letS_mem {s : ByteArray} (h : letS s) (k : Nat) : ∀ c ∈ s.data.toList.take k, letB c := by
  intro c hc
  obtain ⟨i, hi, rfl⟩ := List.getElem_of_mem hc
  have hi' : i < s.size := by simp at hi; omega
  have := h i hi'
  rw [List.getElem_take]
  exact this
set_option maxHeartbeats 400000 in
theorem WordRank_c (s : ByteArray) (w : World) (hv : letS s ∧ s.size ≤ 8) :
    Calls Try.prog 68 #[.string s] w (RI w fun m => m = shr s.size + wordNum s.data.toList ∧ 0 ≤ m) := by
  have hs : s.size ≤ maxLen := by unfold maxLen; omega
  have h8 := hv.2
  have hl := Lib.hid hv.1
  have HV := Lib.hid hv; clear hv
  go_enter Try.func68, Try.ntmps68
  go_wp2_with fail
  refine (WordValid_c _ _ hs).mono ?_
  rintro e w' ⟨b, rfl, rfl, hb⟩
  cases b
  · exact (hbF hb HV.out).elim
  clear hb
  go_wp2_with fail
  go_loop [3, 10] (fun x i => ∃ (k : Nat) (m : Int), k ≤ s.size ∧ i = .int .i64 k ∧ x = .int .i64 m ∧ Hid (m = wordNum (s.data.toList.take k))) (fun _ i => s.size - (intOf i).toNat)
  case atStart => exact ⟨0, 0, by omega, rfl, rfl, rfl⟩
  case round =>
    obtain ⟨k, m, hk, rfl, rfl, Hm⟩ := hrel
    have hb := wordNum_bd (s.data.toList.take k) (letS_mem hl.out k)
    have hb3 := (p3_bd (s.data.toList.take k).length (by simp; omega)).2
    rw [← Hm.out] at hb
    have hb1 : 0 ≤ m := hb.1
    have hb2 : m ≤ 6561 := by omega
    clear hb hb3
    by_cases hlt : k < s.size
    · go_wp2_with fail
      refine (letter_c s k _ hs hlt (hl.out k hlt)).mono ?_
      rintro e w' ⟨q, rfl, rfl, hq⟩
      have hq1 := hq.out.2.1
      have hq2 := hq.out.2.2
      go_wp2
      go_round
      case rel => exact ⟨k + 1, _, by omega, by go_num, rfl, by rw [take_snoc s k hlt, hq.out.1, Hm.out]; simp [wordNum, Hid]⟩
      case measure => simp [intOf]; omega
    · obtain rfl : k = s.size := by omega
      go_wp2_with fail
      refine (shorter_c s.size _ (by omega)).mono ?_
      rintro e w' ⟨q, rfl, rfl, hq⟩
      have hq1 := hq.out.2.1
      have hq2 := hq.out.2.2
      go_wp2
      go_ret
      exact RI.mk ⟨by rw [hq.out.1, Hm.out]; congr 2; rw [List.take_of_length_le (by simp)], by omega⟩
theorem alive_c (w : World) : Calls Try.prog 19 #[] w (RB w True) := by
  go_enter Try.func19, Try.ntmps19
  go_wp2_with fail
  refine (WordRank_c ⟨#[97, 98]⟩ w ⟨?_, by decide⟩).mono ?_
  · intro j hj
    have : j = 0 ∨ j = 1 := by change j < 2 at hj; omega
    rcases this with rfl | rfl
    · show letB 97
      unfold letB; decide
    · show letB 98
      unfold letB; decide
  rintro e w' ⟨q, rfl, rfl, hq⟩
  have h5 : q = 5 := hq.out.1
  clear hq
  subst h5
  go_wp2
  go_ret
  exact RB.mk (by decide)
end Go.Proofs.Ytdkneilgaoaajaa
