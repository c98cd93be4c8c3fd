/- FnWithinCounts answers true: the walk. -/
import Derived.Test.YtebcnamfpajneaaDr3
import Derived.Test.YtebcnamfpajneaaGG
import Derived.Test.YtebcnamfpajneaaGI
import Derived.Test.YtebcnamfpajneaaFwr
import Derived.Test.YtebcnamfpajneaaGM
import Derived.Deep.RegionHeld3
set_option linter.unusedSimpArgs false
set_option linter.unusedVariables false
set_option linter.unusedSectionVars false
namespace Go.Proofs.Ytebcnamfpajneaa.fnWithinCounts
open Go.RowKit
set_option maxRecDepth 100000
theorem cnt_within {A B : DfaD} : ∀ (n s t : Nat), (∀ w, lg (dn A) (de A) s w = true → lg (dn B) (de B) t w = true) → cnt A n s ≤ cnt B n t := by
  intro n
  induction n with
  | zero =>
    intro s t h
    have h0 : de A s = true → de B t = true := h []
    unfold cnt
    by_cases hd : de A s = true
    · rw [if_pos hd, if_pos (h0 hd)]; exact Nat.le_refl _
    · rw [if_neg hd]; exact Nat.zero_le _
  | succ n ih =>
    intro s t h
    have h0 := ih (dn A s 0) (dn B t 0) (fun w hw => h (0 :: w) hw)
    have h1 := ih (dn A s 1) (dn B t 1) (fun w hw => h (1 :: w) hw)
    have h2 := ih (dn A s 2) (dn B t 2) (fun w hw => h (2 :: w) hw)
    show cnt A n (dn A s 0) + cnt A n (dn A s 1) + cnt A n (dn A s 2) ≤ cnt B n (dn B t 0) + cnt B n (dn B t 1) + cnt B n (dn B t 2)
    omega
theorem law {A B : DfaD} (hA : okD A) (hB : okD B) (h : prB gLess A B = false) (n : Nat) : cnt A n 0 ≤ cnt B n 0 := by
  refine cnt_within n 0 0 fun w hw => ?_
  rw [(pr_yes hA hB).2] at h
  have hn : ¬ hasW (lg (pn A B) (pe gLess A B) (0, 0)) := fun hh => by have := pb_true hh; unfold fwB at h; rw [h] at this; cases this
  cases hb : lg (dn B) (de B) 0 w
  · exact absurd ⟨w, by rw [lg_pair]; show gLess (lg (dn A) (de A) 0 w) (lg (dn B) (de B) 0 w) = true; rw [hw, hb]; rfl⟩ hn
  · rfl
set_option maxHeartbeats 2000000 in
theorem walk (w : World) (v : Value) (bs : List UInt8) (h : Bytes (fun _ => True) w v bs) :
    Calls Try.prog 10 #[v] w (Yes w) := by
  obtain ⟨a, cap, rfl, hn⟩ := h.shape
  have H := Lib.hid h; clear h
  by_cases hl : 1048576 < bs.length
  · go_enter Try.func10, Try.ntmps10
    go_wp2
    go_ret
    exact ⟨rfl, Below.refl _ _⟩
  · go_enter Try.func10, Try.ntmps10
    go_wp2_with fail
    refine (DrawFirstExtra_c _ _ _ H.out).mono ?_
    rintro e w1 ⟨A, B, v1, v2, u1, u2, rfl, hb1, hd1, hd2⟩
    clear H hn hl
    obtain ⟨aA, cA, bA, dA, rfl, rfl, hnA, hmA⟩ := hd1.out.shapes
    obtain ⟨aB, cB, bB, dB, rfl, rfl, hnB, hmB⟩ := hd2.out.shapes
    obtain ⟨V1, hV1, HV1, XA⟩ := boxed hb1 hd1.out
    obtain ⟨W1, hW1, HW1, XB⟩ := boxed (belAlloc w1 (.cells #[.slice aA A.1.length cA, .slice bA A.2.length dA] 26)) (hd2.out.stay (kpB (belAlloc w1 _)))
    rw [← hV1] at hW1 XB
    replace XA := Lib.hid (XA.out.stay (show Below V1.heap.size V1 W1 by rw [hW1]; exact belAlloc _ _))
    have HB := Lib.hid (belUp HV1.out (show Below V1.heap.size V1 W1 by rw [hW1]; exact belAlloc _ _))
    have HW : Hid (W1 = (w1.alloc (.cells #[.slice aA A.1.length cA, .slice bA A.2.length dA] 26)).alloc (.cells #[.slice aB B.1.length cB, .slice bB B.2.length dB] 26)) := Lib.hid (by rw [hW1, hV1])
    have HV : Hid (V1.heap.size = w1.heap.size + 1) := by rw [hV1]; simp [Hid]
    rw [HV.out] at XB
    clear hW1 HW1 hV1 HV1 HV V1 hb1 hd1 hd2
    obtain ⟨s, hs⟩ : ∃ x, x = prV gLess A B := ⟨_, rfl⟩
    replace hs := Lib.hid hs
    obtain ⟨q, hq⟩ : ∃ x, x = prB gLess A B := ⟨_, rfl⟩
    replace hq := Lib.hid hq
    have zA0 := XA.out.c0
    have zA1 := XA.out.c1
    have zB0 := XB.out.c0
    have zB1 := XB.out.c1
    rw [HW.out] at zA0 zA1 zB0 zB1
    go_wp2_with fail
    rw [← HW.out]; clear HW
    clear zA0 zA1 zB0 zB1
    refine ((FirstExtra_c (.slice aA A.1.length cA) (.slice bA A.2.length dA) (.slice aB B.1.length cB) (.slice bB B.2.length dB) A B W1 XA.out.r XB.out.r) ).mono ?_
    rintro e w2 ⟨rfl, hb⟩
    rw [← hs.out, ← hq.out]
    replace XA := Lib.hid (XA.out.stay hb)
    replace XB := Lib.hid (XB.out.stay hb)
    replace HB := Lib.hid (belUp HB.out (hb))
    clear hb
    have zA0 := XA.out.c0
    have zA1 := XA.out.c1
    have zB0 := XB.out.c0
    have zB1 := XB.out.c1
    go_wp2_with fail
    clear zA0 zA1 zB0 zB1
    refine ((sFirstExtra_c (.slice aA A.1.length cA) (.slice bA A.2.length dA) (.slice aB B.1.length cB) (.slice bB B.2.length dB) A B w2 XA.out.r XB.out.r) ).mono ?_
    rintro e w3 ⟨rfl, hb⟩
    rw [← hs.out, ← hq.out]
    replace XA := Lib.hid (XA.out.stay hb)
    replace XB := Lib.hid (XB.out.stay hb)
    replace HB := Lib.hid (belUp HB.out (hb))
    clear hb
    have hbn := bneSelf q
    go_wp2_with fail
    go_loopw [9] (fun i wr => ∃ k : Nat, k ≤ 13 ∧ i = .int .i64 k ∧ Hid (Below w3.heap.size w3 wr)) (fun i _ => 13 - (intOf i).toNat)
    case atStart => exact ⟨0, by omega, rfl, Lib.hid (Below.refl _ _)⟩
    case round =>
      obtain ⟨k, hk, rfl, hbr⟩ := hrel
      have XA0 := XA; have XB0 := XB; have HB0 := HB
      replace XA := Lib.hid (XA.out.stay hbr.out)
      replace XB := Lib.hid (XB.out.stay hbr.out)
      replace HB := Lib.hid (belUp HB.out (hbr.out))
      by_cases hk13 : k = 13
      · subst hk13
        go_wp2_with fail
        refine (alive_c _).mono ?_
        rintro e w9 ⟨b9, rfl, rfl, hb9⟩
        obtain rfl : b9 = true := hb9.out.2 trivial
        go_wp2
        go_ret
        exact ⟨rfl, HB.out⟩
      · have hkI : (k : Int) ≤ 12 := by omega
        cases q
        case true =>
          go_wp2_with fail
          refine (alive_c _).mono ?_
          rintro e w9 ⟨b9, rfl, rfl, hb9⟩
          obtain rfl : b9 = true := hb9.out.2 trivial
          go_wp2
          go_ret
          exact ⟨rfl, HB.out⟩
        case false =>
          have zA0 := XA.out.c0
          have zA1 := XA.out.c1
          go_wp2_with fail
          clear zA0 zA1
          refine (sDfaValid_c (.slice aA A.1.length cA) (.slice bA A.2.length dA) A wr XA.out.r).mono ?_
          rintro e w4 ⟨oka, rfl, hb, hoka⟩
          have hbA := Lib.hid hb
          replace XA := Lib.hid (XA.out.stay hb)
          replace XB := Lib.hid (XB.out.stay hb)
          replace HB := Lib.hid (belUp HB.out (hb))
          clear hb
          cases oka
          · skip
            go_wp2_with fail
            refine (alive_c _).mono ?_
            rintro e w9 ⟨b9, rfl, rfl, hb9⟩
            obtain rfl : b9 = true := hb9.out.2 trivial
            go_wp2
            go_ret
            exact ⟨rfl, HB.out⟩
          · have hyA := Lib.hid (hbT hoka); clear hoka
            have zB0 := XB.out.c0
            have zB1 := XB.out.c1
            go_wp2_with fail
            clear zB0 zB1
            refine (sDfaValid_c (.slice aB B.1.length cB) (.slice bB B.2.length dB) B w4 XB.out.r).mono ?_
            rintro e w5 ⟨okb, rfl, hb, hokb⟩
            have hbB := Lib.hid hb
            replace XA := Lib.hid (XA.out.stay hb)
            replace XB := Lib.hid (XB.out.stay hb)
            replace HB := Lib.hid (belUp HB.out (hb))
            clear hb
            cases okb
            · skip
              go_wp2_with fail
              refine (alive_c _).mono ?_
              rintro e w9 ⟨b9, rfl, rfl, hb9⟩
              obtain rfl : b9 = true := hb9.out.2 trivial
              go_wp2
              go_ret
              exact ⟨rfl, HB.out⟩
            · have hyB := Lib.hid (hbT hokb); clear hokb
              have hle := Lib.hid (law hyA.out hyB.out hq.out.symm k)
              have hcA : cwv A (k : Int) = ((cnt A k 0 : Nat) : Int) := cwv_yes hyA.out (by omega)
              have hcB : cwv B (k : Int) = ((cnt B k 0 : Nat) : Int) := cwv_yes hyB.out (by omega)
              replace hcA := Lib.hid hcA
              replace hcB := Lib.hid hcB
              generalize cnt A k 0 = x at *
              generalize cnt B k 0 = y at *
              have hxy : (x : Int) ≤ (y : Int) := by have := hle.out; omega
              have zA0 := XA.out.c0
              have zA1 := XA.out.c1
              have zB0 := XB.out.c0
              have zB1 := XB.out.c1
              go_wp2_with fail
              clear zA0 zA1 zB0 zB1
              have hS : Hid (∀ w', Below w5.heap.size w5 w' → w'.cell? ⟨w1.heap.size, 0, none⟩ = some (.slice aA A.1.length cA) ∧ w'.cell? ⟨w1.heap.size, 1, none⟩ = some (.slice bA A.2.length dA) ∧ w'.cell? ⟨w1.heap.size + 1, 0, none⟩ = some (.slice aB B.1.length cB) ∧ w'.cell? ⟨w1.heap.size + 1, 1, none⟩ = some (.slice bB B.2.length dB)) := fun w' hb => ⟨(XA.out.stay hb).c0, (XA.out.stay hb).c1, (XB.out.stay hb).c0, (XB.out.stay hb).c1⟩
              have hb0 := (Below.refl w5.heap.size w5).drew
              go_region_held3 (fun w' => w'.cell? ⟨w1.heap.size, 0, none⟩ = some (.slice aA A.1.length cA) ∧ w'.cell? ⟨w1.heap.size, 1, none⟩ = some (.slice bA A.2.length dA) ∧ w'.cell? ⟨w1.heap.size + 1, 0, none⟩ = some (.slice aB B.1.length cB) ∧ w'.cell? ⟨w1.heap.size + 1, 1, none⟩ = some (.slice bB B.2.length dB))
                (exact hS.out _ (by assumption))
                (first
                  | (go_at_call 42; (with_reducible refine atArgs #[.agg #[.slice aA A.1.length cA, .slice bA A.2.length dA], .int .i64 k] ?_); refine (CountWords_c (.slice aA A.1.length cA) (.slice bA A.2.length dA) A k _ (XA.out.stay (by first | assumption | exact belUp (by assumption) (belAlloc _ _))).r).mono ?_; rintro e p5 ⟨rfl, hb5⟩; have hc0 := belUp (w := w5) (by first | assumption | exact belUp (by assumption) (belAlloc _ _)) hb5; rw [hcA.out])
                  | (go_at_call 42; (with_reducible refine atArgs #[.agg #[.slice aB B.1.length cB, .slice bB B.2.length dB], .int .i64 k] ?_); refine (CountWords_c (.slice aB B.1.length cB) (.slice bB B.2.length dB) B k _ (XB.out.stay (by first | assumption | exact belUp (by assumption) (belAlloc _ _))).r).mono ?_; rintro e p6 ⟨rfl, hb6⟩; have hc1 := belUp (w := w5) (by first | assumption | exact belUp (by assumption) (belAlloc _ _)) hb6; rw [hcB.out]))
              all_goals (
                go_wp2
                go_roundw
                case rel => exact ⟨k + 1, by omega, by go_num, Lib.hid (belUp hbr.out (belUp hbA.out (belUp hbB.out hc1)))⟩
                case measure => simp [intOf]; omega)
end Go.Proofs.Ytebcnamfpajneaa.fnWithinCounts
