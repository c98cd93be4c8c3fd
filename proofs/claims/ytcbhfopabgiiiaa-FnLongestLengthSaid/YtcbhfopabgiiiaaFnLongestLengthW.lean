/- FnLongestLength answers true: the walk. -/
import Derived.Test.YtcbhfopabgiiiaaFin
import Derived.Test.YtcbhfopabgiiiaaGG
import Derived.Test.YtcbhfopabgiiiaaGL
import Derived.Test.YtcbhfopabgiiiaaGK
import Derived.Test.YtcbhfopabgiiiaaGM
import Derived.Test.YtcbhfopabgiiiaaGN
import Derived.Deep.RegionHeld3
set_option linter.unusedSimpArgs false
set_option linter.unusedVariables false
set_option linter.unusedSectionVars false
namespace Go.Proofs.Ytcbhfopabgiiiaa.fnLongestLength
open Go.RowKit
set_option maxRecDepth 100000
theorem fieldN (a b : Value) (w : World) : (Instr.field 26 (.agg #[a, b]) 0).run Try.prog w = .ok a w := by
  simp [Instr.field, asAgg, Go.part, run_underlying Try.underlying26, go_sem]
theorem cnt_len {D : DfaD} {k : Nat} : 0 < cnt D k 0 ↔ hasLen (lgD D) k :=
  ⟨fun h => by obtain ⟨u, h1, h2⟩ := cnt_word h; exact ⟨u, h1, h2⟩, fun ⟨u, h1, h2⟩ => by subst h1; exact cnt_pos h2⟩
theorem pump_two {nx : Nat → Nat → Nat} {en : Nat → Bool} {s0 n : Nat} (h0 : s0 < n) (hs : ∀ s, s < n → ∀ c, c < 3 → nx s c < n) : ∀ m, n ≤ m → hasLen (lg nx en s0) m → ∃ k, n ≤ k ∧ k < 2 * n ∧ hasLen (lg nx en s0) k := by
  intro m
  induction m using Nat.strongRecOn with
  | ind m ih =>
    intro hm h
    rcases Nat.lt_or_ge m (2 * n) with h1 | h1
    · exact ⟨m, hm, h1, h⟩
    · obtain ⟨w, hw, hl⟩ := h
      obtain ⟨x, y, z, rfl, hy, hxy, he⟩ := pump h0 hs w (by omega)
      simp only [List.length_append] at hw
      refine ih (x.length + z.length) (by omega) (by omega) ⟨x ++ z, by simp, ?_⟩
      rw [lg_go] at hl ⊢
      rw [go_append, he] at hl
      rw [go_append]
      exact hl
theorem lng_is {D : DfaD} (hD : okD D) : Lng (lgD D) (llV D) := by
  rw [llV_pos hD]
  have h := lng_ref D hD
  have e := Lng_eq h
  rwa [e] at h
theorem ll_short {D : DfaD} (hD : okD D) {m : Nat} (hm : hasLen (lgD D) m) (hk : ∀ k, hasLen (lgD D) k → k ≤ m) : m < (canon (lgD D)).1.length := by
  have hM := canon_ok hD
  rw [← canon_lg hD] at hm hk
  rcases Nat.lt_or_ge m (canon (lgD D)).1.length with h | h
  · exact h
  · obtain ⟨k, h1, h2⟩ := pump_up (nx := dn (canon (lgD D))) (en := de (canon (lgD D))) hM.1.1 (fun s hs c hc => dn_lt hM hs hc) h hm (m + 1)
    have := hk k h2
    omega
theorem ll_some {D : DfaD} (hD : okD D) (hu : unb (lgD D)) : ∃ k, (canon (lgD D)).1.length ≤ k ∧ k < 2 * (canon (lgD D)).1.length ∧ hasLen (lgD D) k := by
  have hM := canon_ok hD
  obtain ⟨m, h1, h2⟩ := hu (canon (lgD D)).1.length
  rw [← canon_lg hD] at h2
  obtain ⟨k, h3, h4, h5⟩ := pump_two (nx := dn (canon (lgD D))) (en := de (canon (lgD D))) hM.1.1 (fun s hs c hc => dn_lt hM hs hc) m h1 h2
  exact ⟨k, h3, h4, by rw [← canon_lg hD]; exact h5⟩
set_option maxHeartbeats 4000000 in
theorem walk (w : World) (v : Value) (bs : List UInt8) (h : Bytes (fun _ => True) w v bs) :
    Calls Try.prog 3 #[v] w (Yes w) := by
  obtain ⟨a, cap, rfl, hn⟩ := h.shape
  have H := Lib.hid h; clear h
  by_cases hl : 1048576 < bs.length
  · go_enter Try.func3, Try.ntmps3
    go_wp2
    go_ret
    exact ⟨rfl, Below.refl _ _⟩
  · go_enter Try.func3, Try.ntmps3
    go_wp2_with fail
    refine (DrawLongestLength_c _ _ _ H.out).mono ?_
    rintro e w1 ⟨D, v1, v2, rfl, hb1, hd1⟩
    clear H hn hl
    obtain ⟨aD, cD, bD, dD, rfl, rfl, hnD, hmD⟩ := (hd1.out).shapes
    obtain ⟨W1, hW1, HN, XD⟩ := boxed hb1 (hd1.out)
    have HB := HN; clear HN
    have HW := Lib.hid hW1; clear hW1
    obtain ⟨r, hr⟩ : ∃ x, x = llV D := ⟨_, rfl⟩
    replace hr := Lib.hid hr
    have zD0 := XD.out.c0
    have zD1 := XD.out.c1
    rw [HW.out] at zD0 zD1
    go_wp2_with fail
    rw [← HW.out]; clear HW
    clear zD0 zD1
    refine ((LongestLength_c (.slice aD D.1.length cD) (.slice bD D.2.length dD) D W1 XD.out.r) ).mono ?_
    rintro e w2 ⟨rfl, hb⟩
    rw [← hr.out]
    replace XD := Lib.hid (XD.out.stay hb)
    replace HB := Lib.hid (belUp HB.out (hb))
    clear hb
    have zD0 := XD.out.c0
    have zD1 := XD.out.c1
    go_wp2_with fail
    clear zD0 zD1
    refine ((sLongestLength_c (.slice aD D.1.length cD) (.slice bD D.2.length dD) D w2 XD.out.r) ).mono ?_
    rintro e w3 ⟨rfl, hb⟩
    rw [← hr.out]
    replace XD := Lib.hid (XD.out.stay hb)
    replace HB := Lib.hid (belUp HB.out (hb))
    clear hb
    have hrr : (r != r) = false := by simp
    by_cases hok : okD D
    · have hy := Lib.hid hok
      rcases lng_is hok with ⟨e, hno⟩ | ⟨e, hun⟩ | ⟨m, e, hm, hmx⟩
      · have hf : foB D = false := by rw [(fo_yes hok).2]; exact pb_false hno
        rw [← hr.out] at e
        subst e
        clear hrr hok
        have zD0 := XD.out.c0
        have zD1 := XD.out.c1
        go_wp2_with fail
        clear zD0 zD1
        refine (FirstOf_c (.slice aD D.1.length cD) (.slice bD D.2.length dD) D w3 XD.out.r).mono ?_
        rintro e w4 ⟨rfl, hb⟩
        replace XD := Lib.hid (XD.out.stay hb)
        replace HB := Lib.hid (belUp HB.out (hb))
        clear hb
        rw [hf]
        go_wp2
        go_ret
        exact ⟨rfl, HB.out⟩
      · skip
        rw [← hr.out] at e
        subst e
        clear hrr hok
        have zD0 := XD.out.c0
        have zD1 := XD.out.c1
        go_wp2_with fail
        clear zD0 zD1
        refine (FirstOf_c (.slice aD D.1.length cD) (.slice bD D.2.length dD) D w3 XD.out.r).mono ?_
        rintro e w4 ⟨rfl, hb⟩
        replace XD := Lib.hid (XD.out.stay hb)
        replace HB := Lib.hid (belUp HB.out (hb))
        clear hb
        have zD0 := XD.out.c0
        have zD1 := XD.out.c1
        go_wp2_with fail
        clear zD0 zD1
        refine (Minimize_c (.slice aD D.1.length cD) (.slice bD D.2.length dD) D w4 XD.out.r).mono ?_
        rintro e w5 ⟨x1, x2, rfl, hb, hx⟩
        rw [orNo_pos hy.out] at hx
        obtain ⟨aM, cM, bM, dM, rfl, rfl, _, _⟩ := hx.out.rd.shapes
        replace XD := Lib.hid (XD.out.stay hb)
        replace HB := Lib.hid (belUp HB.out (hb))
        clear hb hx
        have hn40 := (canon_ok hy.out).1
        have hfl := fun w => fieldN (.slice aM (canon (lgD D)).1.length cM) (.slice bM (canon (lgD D)).2.length dM) w
        have hsome := ll_some hy.out hun
        generalize (canon (lgD D)).1.length = n at *
        have hnI : (n : Int) ≤ 40 := by omega
        replace hsome := Lib.hid hsome
        clear hun
        go_wp2_with fail
        go_loopw [8, 9] (fun a i wr => ∃ (k m : Nat), n ≤ k ∧ k ≤ 2 * n ∧ a = .int .i64 m ∧ i = .int .i64 k ∧ m ≤ 205891132094649 * k ∧ Hid (∀ j, n ≤ j → j < k → hasLen (lgD D) j → 0 < m) ∧ Hid (Below w5.heap.size w5 wr)) (fun _ i _ => 2 * n - (intOf i).toNat)
        case atStart => exact ⟨n, 0, by omega, by omega, rfl, rfl, by omega, Lib.hid (fun j h1 h2 => by omega), Lib.hid (Below.refl _ _)⟩
        case round =>
          obtain ⟨k, m, hk1, hk2, rfl, rfl, hmk, hall, hbr⟩ := hrel
          replace XD := Lib.hid (XD.out.stay hbr.out)
          replace HB := Lib.hid (belUp HB.out (hbr.out))
          by_cases hlt : k < 2 * n
          · have hltI : (k : Int) < 2 * (n : Int) := by omega
            by_cases h30 : k ≤ 30
            · have h30I : (k : Int) ≤ 30 := by omega
              have hcb := cnt_bd D h30 0
              have hcl := Lib.hid (cnt_len (D := D) (k := k))
              have hcw : Hid (cwv D (k : Int) = ((cnt D k 0 : Nat) : Int)) := cwv_yes hy.out (by omega)
              generalize cnt D k 0 = c at *
              have zD0 := XD.out.c0
              have zD1 := XD.out.c1
              go_wp2_with fail
              clear zD0 zD1
              refine (CountWords_c (.slice aD D.1.length cD) (.slice bD D.2.length dD) D k wr XD.out.r).mono ?_
              rintro e wa ⟨rfl, hb⟩
              rw [hcw.out]
              have hbr3 := Lib.hid (belUp hbr.out hb)
              clear hb
              have hmc : -9223372036854775808 ≤ (m : Int) + (c : Int) ∧ (m : Int) + (c : Int) ≤ 9223372036854775807 := by omega
              go_wp2
              go_roundw
              case rel => exact ⟨k + 1, m + c, by omega, by omega, by go_num, by go_num, by omega, Lib.hid (fun j h1 h2 h3 => by
                rcases Nat.lt_or_ge j k with h | h
                · have := hall.out j h1 h h3; omega
                · obtain rfl : j = k := by omega
                  have := hcl.out.2 h3; omega), hbr3⟩
              case measure => simp [intOf]; omega
            · have h30I : (30 : Int) < (k : Int) := by omega
              have h30d : decide ((k : Int) ≤ 30) = false := by simp; omega
              have hend : Hid (0 < m ∨ 30 < 2 * n) := by
                rcases Nat.lt_or_ge 30 (2 * n) with h | h
                · exact .inr h
                · obtain ⟨j, h1, h2, h3⟩ := hsome.out
                  exact .inl (hall.out j h1 (by omega) h3)
              rcases hend.out with hm0 | h2n
              · have hm0I : (0 : Int) < (m : Int) := by omega
                go_wp2
                go_ret
                exact ⟨rfl, HB.out⟩
              · have h2nI : (30 : Int) < 2 * (n : Int) := by omega
                by_cases hm0 : 0 < m
                · have hm0I : (0 : Int) < (m : Int) := by omega
                  go_wp2
                  go_ret
                  exact ⟨rfl, HB.out⟩
                · obtain rfl : m = 0 := by omega
                  go_wp2
                  go_ret
                  exact ⟨rfl, HB.out⟩
          · have hltI : 2 * (n : Int) ≤ (k : Int) := by omega
            have hltd : decide ((k : Int) < 2 * (n : Int)) = false := by simp; omega
            have hend : Hid (0 < m ∨ 30 < 2 * n) := by
              rcases Nat.lt_or_ge 30 (2 * n) with h | h
              · exact .inr h
              · obtain ⟨j, h1, h2, h3⟩ := hsome.out
                exact .inl (hall.out j h1 (by omega) h3)
            rcases hend.out with hm0 | h2n
            · have hm0I : (0 : Int) < (m : Int) := by omega
              go_wp2
              go_ret
              exact ⟨rfl, HB.out⟩
            · have h2nI : (30 : Int) < 2 * (n : Int) := by omega
              by_cases hm0 : 0 < m
              · have hm0I : (0 : Int) < (m : Int) := by omega
                go_wp2
                go_ret
                exact ⟨rfl, HB.out⟩
              · obtain rfl : m = 0 := by omega
                go_wp2
                go_ret
                exact ⟨rfl, HB.out⟩
      · have e1 : ((m : Int) == -1) = false := by simp
        have e2 : ((m : Int) == -2) = false := by simp
        have e3 : ((m : Int) == -3) = false := by simp
        have hsh := ll_short hok hm hmx
        rw [← hr.out] at e
        subst e
        clear hrr hok
        have zD0 := XD.out.c0
        have zD1 := XD.out.c1
        go_wp2_with fail
        clear zD0 zD1
        refine (FirstOf_c (.slice aD D.1.length cD) (.slice bD D.2.length dD) D w3 XD.out.r).mono ?_
        rintro e w4 ⟨rfl, hb⟩
        replace XD := Lib.hid (XD.out.stay hb)
        replace HB := Lib.hid (belUp HB.out (hb))
        clear hb
        have zD0 := XD.out.c0
        have zD1 := XD.out.c1
        go_wp2_with fail
        clear zD0 zD1
        refine (Minimize_c (.slice aD D.1.length cD) (.slice bD D.2.length dD) D w4 XD.out.r).mono ?_
        rintro e w5 ⟨x1, x2, rfl, hb, hx⟩
        rw [orNo_pos hy.out] at hx
        obtain ⟨aM, cM, bM, dM, rfl, rfl, _, _⟩ := hx.out.rd.shapes
        replace XD := Lib.hid (XD.out.stay hb)
        replace HB := Lib.hid (belUp HB.out (hb))
        clear hb hx
        have hn40 := (canon_ok hy.out).1
        have hfl := fun w => fieldN (.slice aM (canon (lgD D)).1.length cM) (.slice bM (canon (lgD D)).2.length dM) w
        generalize (canon (lgD D)).1.length = n at *
        have hmnI : (m : Int) < (n : Int) := by omega
        have hnI : (n : Int) ≤ 40 := by omega
        by_cases h30 : 30 ≤ m
        · have h30I : (30 : Int) ≤ (m : Int) := by omega
          go_wp2
          go_ret
          exact ⟨rfl, HB.out⟩
        · have h30I : (m : Int) < 30 := by omega
          have h30d : decide ((30 : Int) ≤ (m : Int)) = false := by simp; omega
          have hc1 := cnt_len.2 hm
          have hc2 : cnt D (m + 1) 0 = 0 := by
            rcases Nat.eq_zero_or_pos (cnt D (m + 1) 0) with h | h
            · exact h
            · have := hmx _ (cnt_len.1 h); omega
          have hcw : Hid (cwv D (m : Int) = ((cnt D m 0 : Nat) : Int)) := cwv_yes hy.out (by omega)
          have hcw2 : Hid (cwv D ((m : Int) + 1) = 0) := by
            rw [cwv_yes hy.out (by omega), show ((m : Int) + 1).toNat = m + 1 by omega, hc2]; rfl
          clear hc2
          generalize cnt D m 0 = c at *
          have hc1I : (0 : Int) < (c : Int) := by omega
          have zD0 := XD.out.c0
          have zD1 := XD.out.c1
          go_wp2_with fail
          clear zD0 zD1
          refine (CountWords_c (.slice aD D.1.length cD) (.slice bD D.2.length dD) D m _ XD.out.r).mono ?_
          rintro e wa ⟨rfl, hb⟩
          rw [hcw.out]
          replace XD := Lib.hid (XD.out.stay hb)
          replace HB := Lib.hid (belUp HB.out (hb))
          clear hb
          have zD0 := XD.out.c0
          have zD1 := XD.out.c1
          go_wp2_with fail
          clear zD0 zD1
          refine (CountWords_c (.slice aD D.1.length cD) (.slice bD D.2.length dD) D ((m : Int) + 1) _ XD.out.r).mono ?_
          rintro e wb ⟨rfl, hb⟩
          rw [hcw2.out]
          replace XD := Lib.hid (XD.out.stay hb)
          replace HB := Lib.hid (belUp HB.out (hb))
          clear hb
          go_wp2
          go_ret
          exact ⟨rfl, HB.out⟩
    · have e : r = -3 := by rw [hr.out]; exact llV_neg hok
      subst e
      clear hrr
      have zD0 := XD.out.c0
      have zD1 := XD.out.c1
      go_wp2_with fail
      clear zD0 zD1
      refine (sDfaValid_c (.slice aD D.1.length cD) (.slice bD D.2.length dD) D w3 XD.out.r).mono ?_
      rintro e w4 ⟨okd, rfl, hb, hokd⟩
      replace XD := Lib.hid (XD.out.stay hb)
      replace HB := Lib.hid (belUp HB.out (hb))
      clear hb
      cases okd
      · skip
        go_wp2_with fail
        refine (alive_c _).mono ?_
        rintro e w9 ⟨b9, rfl, rfl, hb9⟩
        obtain rfl : b9 = true := hb9.out.2 trivial
        go_wp2
        go_ret
        exact ⟨rfl, HB.out⟩
      · exact absurd (hbT hokd) hok
end Go.Proofs.Ytcbhfopabgiiiaa.fnLongestLength
