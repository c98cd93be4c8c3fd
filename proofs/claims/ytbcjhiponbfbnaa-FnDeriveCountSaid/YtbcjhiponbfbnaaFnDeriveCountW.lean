/- FnDeriveCount answers true: the walk. -/
import Derived.Deep.RegionHeld3
import Derived.Test.YtbcjhiponbfbnaaGT
set_option linter.unusedSimpArgs false
set_option linter.unusedVariables false
set_option linter.unusedSectionVars false
namespace Go.Proofs.Ytbcjhiponbfbnaa.fnDeriveCount
open Go.RowKit
set_option maxRecDepth 100000
theorem p3_pw (k : Nat) : p3 k = (pw3 k : Int) := by
  induction k with
  | zero => rfl
  | succ k ih => show 3 * p3 k = ((3 * pw3 k : Nat) : Int); rw [ih]; omega
theorem WordsOf_c (k : Nat) (hk : k ≤ 4) (w : World) : Calls Try.prog 37 #[.int .i64 k] w (RI w fun m => m = (pw3 k : Int)) := by
  go_enter Try.func37, Try.ntmps37
  go_wp2_with fail
  refine (within_c k 0 8 w).mono ?_
  rintro x w2 ⟨b2, rfl, rfl, hv⟩
  obtain rfl : b2 = true := hv.out.2 (by omega)
  clear hv
  go_wp2_with fail
  refine (wordsOf_c k w (by omega)).mono ?_
  rintro x w2 ⟨m, rfl, rfl, hm⟩
  go_wp2
  go_ret
  exact RI.mk (by rw [hm.out.1, p3_pw])
theorem cnt_neg {t : Re} {n : Int} (h : ¬ (0 ≤ n ∧ n ≤ 4)) : cntD t n = -1 := if_neg h
theorem cnt_pos {t : Re} {N : Nat} (h : N ≤ 4) : cntD t (N : Int) = ((seenD t N).length : Int) := by
  unfold cntD
  rw [if_pos (by omega)]
  rfl
theorem sw3_bd {k : Nat} (h : k ≤ 5) : sw3 k ≤ 121 := by rcases (by omega : k = 0 ∨ k = 1 ∨ k = 2 ∨ k = 3 ∨ k = 4 ∨ k = 5) with rfl | rfl | rfl | rfl | rfl | rfl <;> decide
theorem pw3_bd {k : Nat} (h : k ≤ 4) : pw3 k ≤ 81 := by rcases (by omega : k = 0 ∨ k = 1 ∨ k = 2 ∨ k = 3 ∨ k = 4) with rfl | rfl | rfl | rfl | rfl <;> decide
set_option maxHeartbeats 2000000 in
theorem walk (w : World) (v : Value) (bs : List UInt8) (h : Bytes (fun _ => True) w v bs) :
    Calls Try.prog 7 #[v] w (Yes w) := by
  obtain ⟨a, cap, rfl, hn⟩ := h.shape
  have H := Lib.hid h; clear h
  by_cases hl : 1048576 < bs.length
  · go_enter Try.func7, Try.ntmps7
    go_wp2
    go_ret
    exact ⟨rfl, Below.refl _ _⟩
  go_enter Try.func7, Try.ntmps7
  go_wp2_with fail
  refine (DrawDeriveCount_c _ _ _ H.out).mono ?_
  rintro e w1 ⟨u, xs, n, rfl, hx, hn14, hb1, hp1⟩
  obtain ⟨a1, c1, rfl, _⟩ := Pairs.shape hp1.out
  have HB1 := Lib.hid hb1
  clear H hn hl hb1
  by_cases hok : ExprOk xs
  · obtain ⟨t, ht, rfl, hl60⟩ := (exprOk_iff xs).1 hok
    have HP1 : Hid (PR w1 _ t) := Lib.hid ⟨ht, hp1.out⟩
    have HL : Hid (t.len ≤ 60) := Lib.hid hl60
    clear hok hx hp1 ht hl60
    go_wp2_with fail
    refine (DeriveCount_c t HL.out n hn14 _ w1 HP1.out).mono ?_
    rintro e w2 ⟨m, rfl, hb2, hm⟩
    have HP2 := Lib.hid (HP1.out.stay hb2)
    have HB2 := Lib.hid (HB1.out.trans (hb2.mono HB1.out.size))
    obtain rfl := hm.out
    obtain ⟨c, hc⟩ : ∃ c, c = cntD t n := ⟨_, rfl⟩
    rw [← hc]
    have HC := Lib.hid hc
    clear hm hb2 hc HP1
    go_wp2_with fail
    refine (sDeriveCount_c t HL.out n hn14 _ w2 HP2.out).mono ?_
    rintro e w3 ⟨m, rfl, hb3, hm⟩
    obtain rfl : m = c := by rw [hm.out, HC.out]
    have HP3 := Lib.hid (HP2.out.stay hb3)
    have HB3 := Lib.hid (HB2.out.trans (hb3.mono HB2.out.size))
    have hne : (m != m) = false := by simp
    clear hm hb3 HP2
    by_cases hn0 : 0 ≤ n
    · obtain ⟨N, rfl⟩ : ∃ N : Nat, n = (N : Int) := ⟨n.toNat, by omega⟩
      have hN4 : N ≤ 4 := by omega
      have hcv := cnt_pos (t := t) hN4
      have hc1 : 1 ≤ m := by rw [HC.out, hcv]; have := seen_pos t N; omega
      have hc2 : m ≤ (sw3 (N + 1) : Int) := by rw [HC.out, hcv]; have := seen_le t N; omega
      have hcm : Hid (∀ K : Nat, N = K + 1 → cntD t (K : Int) ≤ m) := Lib.hid (fun K hK => by
        subst hK
        rw [HC.out, cnt_pos (by omega), cnt_pos hN4]
        have := seen_mono t K; omega)
      have HC2 := Lib.hid hc2
      clear hcv hc2 hn0 hn14
      go_wp2_with fail
      go_loopw [6, 7] (fun x i wr => ∃ k : Nat, k ≤ N + 1 ∧ i = .int .i64 k ∧ x = .int .i64 (sw3 k : Int) ∧ wr = w3) (fun _ i _ => N + 1 - (intOf i).toNat)
      case atStart => exact ⟨0, by omega, rfl, rfl, rfl⟩
      case round =>
        obtain ⟨k, hk, rfl, rfl, rfl⟩ := hrel
        by_cases hlt : k ≤ N
        · have hkI : (k : Int) ≤ (N : Int) := by omega
          have h1 := sw3_bd (k := k) (by omega)
          have h2 := pw3_bd (k := k) (by omega)
          go_wp2_with fail
          refine (WordsOf_c k (by omega) _).mono ?_
          rintro e w4 ⟨q, rfl, rfl, hq⟩
          obtain rfl := hq.out
          have hw : IntKind.i64.wrap ((sw3 k : Int) + (pw3 k : Int)) = ((sw3 (k + 1) : Nat) : Int) := by rw [IntWalk.i64_in _ (by omega)]; rfl
          clear hq
          go_wp2
          go_roundw
          case rel => exact ⟨k + 1, by omega, by go_num, by first | rfl | exact congrArg _ hw | exact hw, by first | exact rfl | trivial⟩
          case measure => simp [intOf]; omega
        · obtain rfl : k = N + 1 := by omega
          have hkI : ¬ (((N + 1 : Nat) : Int) ≤ (N : Int)) := by omega
          have hc2 := HC2.out
          generalize sw3 (N + 1) = z at *
          by_cases hN0 : N = 0
          · subst hN0
            go_wp2
            go_ret
            exact ⟨rfl, HB3.out⟩
          · obtain ⟨K, rfl⟩ : ∃ K, N = K + 1 := ⟨N - 1, by omega⟩
            have hle := hcm.out K rfl
            have hw0 : IntKind.i64.wrap (((K + 1 : Nat) : Int) - 1) = (K : Int) := by rw [show ((K + 1 : Nat) : Int) - 1 = (K : Int) by omega]; exact IntWalk.i64_in _ (by omega)
            have hnz : (((K + 1 : Nat) : Int) == 0) = false := by simp; omega
            have HLe := Lib.hid hle
            clear hle
            go_wp2_with fail
            refine (DeriveCount_c t HL.out (K : Int) (by omega) _ _ HP3.out).mono ?_
            rintro e w4 ⟨q, rfl, hb4, hq⟩
            obtain rfl := hq.out
            have hle := HLe.out
            have HB4 := Lib.hid (HB3.out.trans (hb4.mono HB3.out.size))
            generalize cntD t (K : Int) = y at *
            clear hq hb4
            go_wp2
            go_ret
            exact ⟨rfl, HB4.out⟩
    · obtain rfl : m = -1 := by rw [HC.out]; exact cnt_neg (fun h => hn0 h.1)
      clear HC
      go_wp2_with fail
      refine (alive_c w3).mono ?_
      rintro e w7 ⟨b7, rfl, rfl, hv7⟩
      obtain rfl : b7 = true := hv7.out.2 trivial
      clear hv7
      go_wp2
      go_ret
      exact ⟨rfl, HB3.out⟩
  · have HN := Lib.hid hok; clear hok
    go_wp2_with fail
    refine (DeriveCount_no xs HN.out n _ w1 hp1.out).mono ?_
    rintro e w2 ⟨m, rfl, hb2, hm⟩
    obtain rfl := hm.out
    have HP2 := Lib.hid (hp1.out.stay hb2)
    have HB2 := Lib.hid (HB1.out.trans (hb2.mono HB1.out.size))
    clear hm hb2 hp1
    go_wp2_with fail
    refine (sDeriveCount_no xs (by omega) HN.out n _ w2 HP2.out).mono ?_
    rintro e w3 ⟨m, rfl, hb3, hm⟩
    obtain rfl := hm.out
    have HB3 := Lib.hid (HB2.out.trans (hb3.mono HB2.out.size))
    clear hm hb3 HP2
    go_wp2_with fail
    refine (alive_c w3).mono ?_
    rintro e w7 ⟨b7, rfl, rfl, hv7⟩
    obtain rfl : b7 = true := hv7.out.2 trivial
    clear hv7
    go_wp2
    go_ret
    exact ⟨rfl, HB3.out⟩
end Go.Proofs.Ytbcjhiponbfbnaa.fnDeriveCount
