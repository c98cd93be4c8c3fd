/- FnApartParts answers true: the walk. -/
import Derived.Test.YtebcnamfpajneaaDr3
import Derived.Test.YtebcnamfpajneaaGG
import Derived.Test.YtebcnamfpajneaaGI
import Derived.Test.YtebcnamfpajneaaPq1
import Derived.Test.YtebcnamfpajneaaPq3
import Derived.Deep.RegionHeld3
set_option linter.unusedSimpArgs false
set_option linter.unusedVariables false
set_option linter.unusedSectionVars false
namespace Go.Proofs.Ytebcnamfpajneaa.fnApartParts
open Go.RowKit
set_option maxRecDepth 100000
set_option maxHeartbeats 2000000 in
theorem walk (w : World) (v : Value) (bs : List UInt8) (h : Bytes (fun _ => True) w v bs) :
    Calls Try.prog 11 #[v] w (Yes w) := by
  obtain ⟨a, cap, rfl, hn⟩ := h.shape
  have H := Lib.hid h; clear h
  by_cases hl : 1048576 < bs.length
  · go_enter Try.func11, Try.ntmps11
    go_wp2
    go_ret
    exact ⟨rfl, Below.refl _ _⟩
  · go_enter Try.func11, Try.ntmps11
    go_wp2_with fail
    refine (DrawDfaApart_c _ _ _ H.out).mono ?_
    rintro e w1 ⟨A, B, v1, v2, u1, u2, rfl, hb1, hd1, hd2⟩
    clear H hn hl
    obtain ⟨aA, cA, bA, dA, rfl, rfl, hnA, hmA⟩ := hd1.out.shapes
    obtain ⟨aB, cB, bB, dB, rfl, rfl, hnB, hmB⟩ := hd2.out.shapes
    obtain ⟨V1, hV1, HV1, XA⟩ := boxed hb1 hd1.out
    obtain ⟨W1, hW1, HW1, XB⟩ := boxed (belAlloc w1 (.cells #[.slice aA A.1.length cA, .slice bA A.2.length dA] 26)) (hd2.out.stay (kpB (belAlloc w1 _)))
    rw [← hV1] at hW1 XB
    replace XA := Lib.hid (XA.out.stay (show Below V1.heap.size V1 W1 by rw [hW1]; exact belAlloc _ _))
    have HB := Lib.hid (belUp HV1.out (show Below V1.heap.size V1 W1 by rw [hW1]; exact belAlloc _ _))
    have HW : Hid (W1 = (w1.alloc (.cells #[.slice aA A.1.length cA, .slice bA A.2.length dA] 26)).alloc (.cells #[.slice aB B.1.length cB, .slice bB B.2.length dB] 26)) := Lib.hid (by rw [hW1, hV1])
    have HV : Hid (V1.heap.size = w1.heap.size + 1) := by rw [hV1]; simp [Hid]
    rw [HV.out] at XB
    clear hW1 HW1 hV1 HV1 HV V1 hb1 hd1 hd2
    have zA0 := XA.out.c0
    have zA1 := XA.out.c1
    have zB0 := XB.out.c0
    have zB1 := XB.out.c1
    rw [HW.out] at zA0 zA1 zB0 zB1
    go_wp2_with fail
    rw [← HW.out]; clear HW
    clear zA0 zA1 zB0 zB1
    refine (DfaApart_c (.slice aA A.1.length cA) (.slice bA A.2.length dA) (.slice aB B.1.length cB) (.slice bB B.2.length dB) A B W1 XA.out.r XB.out.r).mono ?_
    rintro e w2 ⟨x1, x2, ok, rfl, hb, hok, hx⟩
    obtain ⟨X, hX⟩ : ∃ X, X = prD gApart A B := ⟨_, rfl⟩
    rw [← hX] at hx
    replace hX := Lib.hid hX
    obtain ⟨aX, cX, bX, dX, rfl, rfl, hnX, hmX⟩ := (hx.out.rd).shapes
    obtain ⟨W2, hW2, HN, XX⟩ := boxed hb (hx.out.rd)
    replace XA := Lib.hid (XA.out.stay HN.out)
    replace XB := Lib.hid (XB.out.stay HN.out)
    replace HB := Lib.hid (belUp HB.out HN.out); clear HN
    have HW := Lib.hid hW2; clear hW2
    clear hx hb
    have zA0 := XA.out.c0
    have zA1 := XA.out.c1
    have zB0 := XB.out.c0
    have zB1 := XB.out.c1
    rw [HW.out] at zA0 zA1 zB0 zB1
    go_wp2_with fail
    rw [← HW.out]; clear HW
    clear zA0 zA1 zB0 zB1
    refine (sDfaApart_c (.slice aA A.1.length cA) (.slice bA A.2.length dA) (.slice aB B.1.length cB) (.slice bB B.2.length dB) A B W2 XA.out.r XB.out.r).mono ?_
    rintro e w3 ⟨x1, x2, fine, rfl, hb, hfine, hx⟩
    obtain ⟨Z, hZ⟩ : ∃ X, X = prD gApart A B := ⟨_, rfl⟩
    rw [← hZ] at hx
    replace hZ := Lib.hid hZ
    obtain ⟨aZ, cZ, bZ, dZ, rfl, rfl, hnZ, hmZ⟩ := (hx.out.rd).shapes
    obtain ⟨W3, hW3, HN, XZ⟩ := boxed hb (hx.out.rd)
    replace XA := Lib.hid (XA.out.stay HN.out)
    replace XB := Lib.hid (XB.out.stay HN.out)
    replace XX := Lib.hid (XX.out.stay HN.out)
    replace HB := Lib.hid (belUp HB.out HN.out); clear HN
    have HW := Lib.hid hW3; clear hW3
    clear hx hb
    obtain rfl : fine = ok := boolEq hfine hok
    clear hfine
    have zX0 := XX.out.c0
    have zX1 := XX.out.c1
    have zZ0 := XZ.out.c0
    have zZ1 := XZ.out.c1
    rw [HW.out] at zX0 zX1 zZ0 zZ1
    go_wp2_with fail
    rw [← HW.out]; clear HW
    clear zX0 zX1 zZ0 zZ1
    refine (sameDfa_c _ _ _ _ X Z W3 XX.out.r XZ.out.r).mono ?_
    rintro e w4 ⟨bs4, rfl, hb, hp⟩
    obtain rfl : bs4 = true := hp.out.2 (by rw [hX.out, hZ.out])
    clear hp
    replace XA := Lib.hid (XA.out.stay hb)
    replace XB := Lib.hid (XB.out.stay hb)
    replace XX := Lib.hid (XX.out.stay hb)
    replace XZ := Lib.hid (XZ.out.stay hb)
    replace HB := Lib.hid (belUp HB.out (hb))
    clear hb
    have hbn := bneSelf fine
    have zA0 := XA.out.c0
    have zA1 := XA.out.c1
    have zB0 := XB.out.c0
    have zB1 := XB.out.c1
    go_wp2_with fail
    clear zA0 zA1 zB0 zB1
    refine (DfaLess_c (.slice aA A.1.length cA) (.slice bA A.2.length dA) (.slice aB B.1.length cB) (.slice bB B.2.length dB) A B w4 XA.out.r XB.out.r).mono ?_
    rintro e w5 ⟨x1, x2, ok3, rfl, hb, hok3, hx⟩
    obtain ⟨C, hC⟩ : ∃ X, X = prD gLess A B := ⟨_, rfl⟩
    rw [← hC] at hx
    replace hC := Lib.hid hC
    obtain ⟨aC, cC, bC, dC, rfl, rfl, hnC, hmC⟩ := (hx.out.rd).shapes
    obtain ⟨W5, hW5, HN, XC⟩ := boxed hb (hx.out.rd)
    replace XA := Lib.hid (XA.out.stay HN.out)
    replace XB := Lib.hid (XB.out.stay HN.out)
    replace XX := Lib.hid (XX.out.stay HN.out)
    replace XZ := Lib.hid (XZ.out.stay HN.out)
    replace HB := Lib.hid (belUp HB.out HN.out); clear HN
    have HW := Lib.hid hW5; clear hW5
    clear hx hb
    have zB0 := XB.out.c0
    have zB1 := XB.out.c1
    have zA0 := XA.out.c0
    have zA1 := XA.out.c1
    rw [HW.out] at zB0 zB1 zA0 zA1
    go_wp2_with fail
    rw [← HW.out]; clear HW
    clear zB0 zB1 zA0 zA1
    refine (DfaLess_c (.slice aB B.1.length cB) (.slice bB B.2.length dB) (.slice aA A.1.length cA) (.slice bA A.2.length dA) B A W5 XB.out.r XA.out.r).mono ?_
    rintro e w6 ⟨x1, x2, ok4, rfl, hb, hok4, hx⟩
    obtain ⟨E, hE⟩ : ∃ X, X = prD gLess B A := ⟨_, rfl⟩
    rw [← hE] at hx
    replace hE := Lib.hid hE
    obtain ⟨aE, cE, bE, dE, rfl, rfl, hnE, hmE⟩ := (hx.out.rd).shapes
    obtain ⟨W6, hW6, HN, XE⟩ := boxed hb (hx.out.rd)
    replace XA := Lib.hid (XA.out.stay HN.out)
    replace XB := Lib.hid (XB.out.stay HN.out)
    replace XX := Lib.hid (XX.out.stay HN.out)
    replace XZ := Lib.hid (XZ.out.stay HN.out)
    replace XC := Lib.hid (XC.out.stay HN.out)
    replace HB := Lib.hid (belUp HB.out HN.out); clear HN
    have HW := Lib.hid hW6; clear hW6
    clear hx hb
    clear hok3 hok4
    have zC0 := XC.out.c0
    have zC1 := XC.out.c1
    have zE0 := XE.out.c0
    have zE1 := XE.out.c1
    rw [HW.out] at zC0 zC1 zE0 zE1
    go_wp2_with fail
    rw [← HW.out]; clear HW
    clear zC0 zC1 zE0 zE1
    refine (DfaEither_c (.slice aC C.1.length cC) (.slice bC C.2.length dC) (.slice aE E.1.length cE) (.slice bE E.2.length dE) C E W6 XC.out.r XE.out.r).mono ?_
    rintro e w7 ⟨x1, x2, good, rfl, hb, hgood, hx⟩
    obtain ⟨Y, hY⟩ : ∃ X, X = prD gEither C E := ⟨_, rfl⟩
    rw [← hY] at hx
    replace hY := Lib.hid hY
    obtain ⟨aY, cY, bY, dY, rfl, rfl, hnY, hmY⟩ := (hx.out.rd).shapes
    obtain ⟨W7, hW7, HN, XY⟩ := boxed hb (hx.out.rd)
    replace XA := Lib.hid (XA.out.stay HN.out)
    replace XB := Lib.hid (XB.out.stay HN.out)
    replace XX := Lib.hid (XX.out.stay HN.out)
    replace XZ := Lib.hid (XZ.out.stay HN.out)
    replace XC := Lib.hid (XC.out.stay HN.out)
    replace XE := Lib.hid (XE.out.stay HN.out)
    replace HB := Lib.hid (belUp HB.out HN.out); clear HN
    have HW := Lib.hid hW7; clear hW7
    clear hx hb
    cases fine
    · skip
      go_wp2_with fail
      rw [← HW.out]; clear HW
      refine (alive_c _).mono ?_
      rintro e w9 ⟨b9, rfl, rfl, hb9⟩
      obtain rfl : b9 = true := hb9.out.2 trivial
      go_wp2
      go_ret
      exact ⟨rfl, HB.out⟩
    · cases good
      · skip
        go_wp2_with fail
        rw [← HW.out]; clear HW
        refine (alive_c _).mono ?_
        rintro e w9 ⟨b9, rfl, rfl, hb9⟩
        obtain rfl : b9 = true := hb9.out.2 trivial
        go_wp2
        go_ret
        exact ⟨rfl, HB.out⟩
      · have hp1 := Lib.hid (hbT hok)
        have hp2 := Lib.hid (hbT hgood)
        have zX0 := XX.out.c0
        have zX1 := XX.out.c1
        have zY0 := XY.out.c0
        have zY1 := XY.out.c1
        rw [HW.out] at zX0 zX1 zY0 zY1
        go_wp2_with fail
        rw [← HW.out]; clear HW
        clear zX0 zX1 zY0 zY1
        refine (sameDfa_c _ _ _ _ X Y W7 XX.out.r XY.out.r).mono ?_
        rintro e w8 ⟨bs8, rfl, hb, hp⟩
        obtain rfl : bs8 = true := hp.out.2 (by have h2 := hp2.out; rw [hC.out, hE.out] at h2; rw [hX.out, hY.out, hC.out, hE.out]; exact law_apart hp1.out h2)
        clear hp
        replace XA := Lib.hid (XA.out.stay hb)
        replace XB := Lib.hid (XB.out.stay hb)
        replace XX := Lib.hid (XX.out.stay hb)
        replace XZ := Lib.hid (XZ.out.stay hb)
        replace XC := Lib.hid (XC.out.stay hb)
        replace XE := Lib.hid (XE.out.stay hb)
        replace XY := Lib.hid (XY.out.stay hb)
        replace HB := Lib.hid (belUp HB.out (hb))
        clear hb
        go_wp2_with fail
        refine (alive_c _).mono ?_
        rintro e w9 ⟨b9, rfl, rfl, hb9⟩
        obtain rfl : b9 = true := hb9.out.2 trivial
        go_wp2
        go_ret
        exact ⟨rfl, HB.out⟩
end Go.Proofs.Ytebcnamfpajneaa.fnApartParts
