/- FnBothSame answers true: the walk. -/
import Derived.Test.YtebcnamfpajneaaDrd
import Derived.Test.YtebcnamfpajneaaGG
import Derived.Test.YtebcnamfpajneaaGI
import Derived.Test.YtebcnamfpajneaaGL
import Derived.Deep.RegionHeld3
set_option linter.unusedSimpArgs false
set_option linter.unusedVariables false
set_option linter.unusedSectionVars false
namespace Go.Proofs.Ytebcnamfpajneaa.fnBothSame
open Go.RowKit
set_option maxRecDepth 100000
theorem pP_self {D : DfaD} (h : okD D) : prP D D := ⟨h, h, fun ⟨k, hk⟩ => by
  have e : (rnd (dn D) 0 k).map (fun s => (s, s)) = rnd (pn D D) (0, 0) k := rnd_map (nx := dn D) (ny := pn D D) (h := fun s => (s, s)) (P := fun _ => True) (fun s t _ _ e => (Prod.mk.inj e).1) (fun _ _ => ⟨trivial, trivial, trivial⟩) (fun s _ => ⟨rfl, rfl, rfl⟩) (s0 := 0) trivial k
  have hl := rnd_len_le (nx := dn D) h.1.1 (dn_lt3 h) k
  rw [← e, List.length_map] at hk
  have := h.1.2
  omega⟩
theorem self_eq (g : Bool → Bool → Bool) (hg : ∀ x, g x x = x) (D : DfaD) : prD g D D = orNo (okD D) (canon (lgD D)) := by
  by_cases h : okD D
  · rw [prD_eq g (pP_self h), orNo_pos h]
    congr 1
    funext w
    exact hg _
  · rw [prD_no g (fun hp => h hp.1), orNo_neg h]
theorem self_two (D : DfaD) : prD gLess D D = prD gApart D D := by
  by_cases h : okD D
  · rw [prD_eq gLess (pP_self h), prD_eq gApart (pP_self h)]
    congr 1
    funext w
    show gLess (lgD D w) (lgD D w) = gApart (lgD D w) (lgD D w)
    cases lgD D w <;> rfl
  · rw [prD_no _ (fun hp => h hp.1), prD_no _ (fun hp => h hp.1)]
theorem self_ll {D : DfaD} (h : okD D) : llV (prD gLess D D) = -2 := by
  rw [llV_pos (prD_ok gLess (pP_self h)), prD_lg gLess (pP_self h)]
  unfold lngL
  rw [if_neg]
  rintro ⟨w, hw⟩
  have : gLess (lgD D w) (lgD D w) = true := hw
  cases hx : lgD D w <;> rw [hx] at this <;> cases this
set_option maxHeartbeats 2000000 in
theorem walk (w : World) (v : Value) (bs : List UInt8) (h : Bytes (fun _ => True) w v bs) :
    Calls Try.prog 12 #[v] w (Yes w) := by
  obtain ⟨a, cap, rfl, hn⟩ := h.shape
  have H := Lib.hid h; clear h
  by_cases hl : 1048576 < bs.length
  · go_enter Try.func12, Try.ntmps12
    go_wp2
    go_ret
    exact ⟨rfl, Below.refl _ _⟩
  · go_enter Try.func12, Try.ntmps12
    go_wp2_with fail
    refine (DrawMinimize_c _ _ _ H.out).mono ?_
    rintro e w1 ⟨D, v1, v2, rfl, hb1, hd1⟩
    clear H hn hl
    obtain ⟨aD, cD, bD, dD, rfl, rfl, hnD, hmD⟩ := (hd1.out).shapes
    obtain ⟨W1, hW1, HN, XD⟩ := boxed hb1 (hd1.out)
    have HB := HN; clear HN
    have HW := Lib.hid hW1; clear hW1
    have zD0 := XD.out.c0
    have zD1 := XD.out.c1
    rw [HW.out] at zD0 zD1
    go_wp2_with fail
    rw [← HW.out]; clear HW
    clear zD0 zD1
    refine (Minimize_c (.slice aD D.1.length cD) (.slice bD D.2.length dD) D W1 XD.out.r).mono ?_
    rintro e w2 ⟨x1, x2, rfl, hb, hx⟩
    obtain ⟨M, hM⟩ : ∃ X, X = orNo (okD D) (canon (lgD D)) := ⟨_, rfl⟩
    rw [← hM] at hx
    replace hM := Lib.hid hM
    obtain ⟨aM, cM, bM, dM, rfl, rfl, hnM, hmM⟩ := (hx.out.rd).shapes
    obtain ⟨W2, hW2, HN, XM⟩ := boxed hb (hx.out.rd)
    replace XD := Lib.hid (XD.out.stay HN.out)
    replace HB := Lib.hid (belUp HB.out HN.out); clear HN
    have HW := Lib.hid hW2; clear hW2
    clear hx hb
    have zD0 := XD.out.c0
    have zD1 := XD.out.c1
    have zM0 := XM.out.c0
    have zM1 := XM.out.c1
    rw [HW.out] at zD0 zD1 zM0 zM1
    go_wp2_with fail
    rw [← HW.out]; clear HW
    clear zD0 zD1 zM0 zM1

    have hS : Hid (∀ w', Below W2.heap.size W2 w' → w'.cell? ⟨w2.heap.size, 0, none⟩ = some (.slice aM M.1.length cM) ∧ w'.cell? ⟨w2.heap.size, 1, none⟩ = some (.slice bM M.2.length dM) ∧ w'.cell? ⟨w1.heap.size, 0, none⟩ = some (.slice aD D.1.length cD) ∧ w'.cell? ⟨w1.heap.size, 1, none⟩ = some (.slice bD D.2.length dD)) := fun w' hb => ⟨(XM.out.stay hb).c0, (XM.out.stay hb).c1, (XD.out.stay hb).c0, (XD.out.stay hb).c1⟩
    have hb0 := (Below.refl W2.heap.size W2).drew
    go_region_held3 (fun w' => w'.cell? ⟨w2.heap.size, 0, none⟩ = some (.slice aM M.1.length cM) ∧ w'.cell? ⟨w2.heap.size, 1, none⟩ = some (.slice bM M.2.length dM) ∧ w'.cell? ⟨w1.heap.size, 0, none⟩ = some (.slice aD D.1.length cD) ∧ w'.cell? ⟨w1.heap.size, 1, none⟩ = some (.slice bD D.2.length dD))
      (exact hS.out _ (by assumption))
      (first
        | (go_at_call 49; refine ((sMinimize_c (.slice aD D.1.length cD) (.slice bD D.2.length dD) D _ (XD.out.stay (by assumption)).r)).mono ?_; rintro e w3x ⟨y1, y2, rfl, hb3, hy3⟩; have hc0 := belUp (w := W2) (by first | assumption | exact belUp (by assumption) (belAlloc _ _)) hb3)
        | (go_at_call 25; refine (sameDfa_c (.slice aM M.1.length cM) (.slice bM M.2.length dM) y1 y2 M (orNo (okD D) (canon (lgD D))) _ (XM.out.stay (by assumption)).r hy3.out.rd).mono ?_; rintro e W2x ⟨b, rfl, hb4, hp4⟩; have hc1 := belUp (w := W2) (by first | assumption | exact belUp (by assumption) (belAlloc _ _)) hb4))
    obtain rfl : b = true := hp4.out.2 hM.out
    replace XD := Lib.hid (XD.out.stay hc1)
    replace XM := Lib.hid (XM.out.stay hc1)
    replace HB := Lib.hid (belUp HB.out (hc1))
    clear hp4 hb4 hb3 hy3 hc0 hc1 hb0 hS
    have zD0 := XD.out.c0
    have zD1 := XD.out.c1
    go_wp2_with fail
    clear zD0 zD1
    refine (DfaBoth_c (.slice aD D.1.length cD) (.slice bD D.2.length dD) (.slice aD D.1.length cD) (.slice bD D.2.length dD) D D W2x XD.out.r XD.out.r).mono ?_
    rintro e w3 ⟨x1, x2, ok1, rfl, hb, hok1, hx⟩
    obtain ⟨A, hA⟩ : ∃ X, X = prD gBoth D D := ⟨_, rfl⟩
    rw [← hA] at hx
    replace hA := Lib.hid hA
    obtain ⟨aA, cA, bA, dA, rfl, rfl, hnA, hmA⟩ := (hx.out.rd).shapes
    obtain ⟨W3, hW3, HN, XA⟩ := boxed hb (hx.out.rd)
    replace XD := Lib.hid (XD.out.stay HN.out)
    replace XM := Lib.hid (XM.out.stay HN.out)
    replace HB := Lib.hid (belUp HB.out HN.out); clear HN
    have HW := Lib.hid hW3; clear hW3
    clear hx hb
    have zD0 := XD.out.c0
    have zD1 := XD.out.c1
    rw [HW.out] at zD0 zD1
    go_wp2_with fail
    rw [← HW.out]; clear HW
    clear zD0 zD1
    refine (DfaEither_c (.slice aD D.1.length cD) (.slice bD D.2.length dD) (.slice aD D.1.length cD) (.slice bD D.2.length dD) D D W3 XD.out.r XD.out.r).mono ?_
    rintro e w4 ⟨x1, x2, ok2, rfl, hb, hok2, hx⟩
    obtain ⟨B, hB⟩ : ∃ X, X = prD gEither D D := ⟨_, rfl⟩
    rw [← hB] at hx
    replace hB := Lib.hid hB
    obtain ⟨aB, cB, bB, dB, rfl, rfl, hnB, hmB⟩ := (hx.out.rd).shapes
    obtain ⟨W4, hW4, HN, XB⟩ := boxed hb (hx.out.rd)
    replace XD := Lib.hid (XD.out.stay HN.out)
    replace XM := Lib.hid (XM.out.stay HN.out)
    replace XA := Lib.hid (XA.out.stay HN.out)
    replace HB := Lib.hid (belUp HB.out HN.out); clear HN
    have HW := Lib.hid hW4; clear hW4
    clear hx hb
    have zD0 := XD.out.c0
    have zD1 := XD.out.c1
    rw [HW.out] at zD0 zD1
    go_wp2_with fail
    rw [← HW.out]; clear HW
    clear zD0 zD1
    refine (DfaLess_c (.slice aD D.1.length cD) (.slice bD D.2.length dD) (.slice aD D.1.length cD) (.slice bD D.2.length dD) D D W4 XD.out.r XD.out.r).mono ?_
    rintro e w5 ⟨x1, x2, ok3, rfl, hb, hok3, hx⟩
    obtain ⟨C, hC⟩ : ∃ X, X = prD gLess D D := ⟨_, rfl⟩
    rw [← hC] at hx
    replace hC := Lib.hid hC
    obtain ⟨aC, cC, bC, dC, rfl, rfl, hnC, hmC⟩ := (hx.out.rd).shapes
    obtain ⟨W5, hW5, HN, XC⟩ := boxed hb (hx.out.rd)
    replace XD := Lib.hid (XD.out.stay HN.out)
    replace XM := Lib.hid (XM.out.stay HN.out)
    replace XA := Lib.hid (XA.out.stay HN.out)
    replace XB := Lib.hid (XB.out.stay HN.out)
    replace HB := Lib.hid (belUp HB.out HN.out); clear HN
    have HW := Lib.hid hW5; clear hW5
    clear hx hb
    have zD0 := XD.out.c0
    have zD1 := XD.out.c1
    rw [HW.out] at zD0 zD1
    go_wp2_with fail
    rw [← HW.out]; clear HW
    clear zD0 zD1
    refine (DfaApart_c (.slice aD D.1.length cD) (.slice bD D.2.length dD) (.slice aD D.1.length cD) (.slice bD D.2.length dD) D D W5 XD.out.r XD.out.r).mono ?_
    rintro e w6 ⟨x1, x2, ok4, rfl, hb, hok4, hx⟩
    obtain ⟨E, hE⟩ : ∃ X, X = prD gApart D D := ⟨_, rfl⟩
    rw [← hE] at hx
    replace hE := Lib.hid hE
    obtain ⟨aE, cE, bE, dE, rfl, rfl, hnE, hmE⟩ := (hx.out.rd).shapes
    obtain ⟨W6, hW6, HN, XE⟩ := boxed hb (hx.out.rd)
    replace XD := Lib.hid (XD.out.stay HN.out)
    replace XM := Lib.hid (XM.out.stay HN.out)
    replace XA := Lib.hid (XA.out.stay HN.out)
    replace XB := Lib.hid (XB.out.stay HN.out)
    replace XC := Lib.hid (XC.out.stay HN.out)
    replace HB := Lib.hid (belUp HB.out HN.out); clear HN
    have HW := Lib.hid hW6; clear hW6
    clear hx hb
    clear hok1 hok2 hok3 hok4
    have zA0 := XA.out.c0
    have zA1 := XA.out.c1
    have zM0 := XM.out.c0
    have zM1 := XM.out.c1
    rw [HW.out] at zA0 zA1 zM0 zM1
    go_wp2_with fail
    rw [← HW.out]; clear HW
    clear zA0 zA1 zM0 zM1
    refine (sameDfa_c _ _ _ _ A M W6 XA.out.r XM.out.r).mono ?_
    rintro e w7 ⟨bs7, rfl, hb, hp⟩
    obtain rfl : bs7 = true := hp.out.2 (by rw [hA.out, hM.out]; exact self_eq gBoth (fun x => by cases x <;> rfl) D)
    clear hp
    replace XD := Lib.hid (XD.out.stay hb)
    replace XM := Lib.hid (XM.out.stay hb)
    replace XA := Lib.hid (XA.out.stay hb)
    replace XB := Lib.hid (XB.out.stay hb)
    replace XC := Lib.hid (XC.out.stay hb)
    replace XE := Lib.hid (XE.out.stay hb)
    replace HB := Lib.hid (belUp HB.out (hb))
    clear hb
    have zB0 := XB.out.c0
    have zB1 := XB.out.c1
    have zM0 := XM.out.c0
    have zM1 := XM.out.c1
    go_wp2_with fail
    clear zB0 zB1 zM0 zM1
    refine (sameDfa_c _ _ _ _ B M w7 XB.out.r XM.out.r).mono ?_
    rintro e w8 ⟨bs8, rfl, hb, hp⟩
    obtain rfl : bs8 = true := hp.out.2 (by rw [hB.out, hM.out]; exact self_eq gEither (fun x => by cases x <;> rfl) D)
    clear hp
    replace XD := Lib.hid (XD.out.stay hb)
    replace XM := Lib.hid (XM.out.stay hb)
    replace XA := Lib.hid (XA.out.stay hb)
    replace XB := Lib.hid (XB.out.stay hb)
    replace XC := Lib.hid (XC.out.stay hb)
    replace XE := Lib.hid (XE.out.stay hb)
    replace HB := Lib.hid (belUp HB.out (hb))
    clear hb
    have zC0 := XC.out.c0
    have zC1 := XC.out.c1
    have zE0 := XE.out.c0
    have zE1 := XE.out.c1
    go_wp2_with fail
    clear zC0 zC1 zE0 zE1
    refine (sameDfa_c _ _ _ _ C E w8 XC.out.r XE.out.r).mono ?_
    rintro e w9 ⟨bs9, rfl, hb, hp⟩
    obtain rfl : bs9 = true := hp.out.2 (by rw [hC.out, hE.out]; exact self_two D)
    clear hp
    replace XD := Lib.hid (XD.out.stay hb)
    replace XM := Lib.hid (XM.out.stay hb)
    replace XA := Lib.hid (XA.out.stay hb)
    replace XB := Lib.hid (XB.out.stay hb)
    replace XC := Lib.hid (XC.out.stay hb)
    replace XE := Lib.hid (XE.out.stay hb)
    replace HB := Lib.hid (belUp HB.out (hb))
    clear hb
    have zD0 := XD.out.c0
    have zD1 := XD.out.c1
    go_wp2_with fail
    clear zD0 zD1
    refine (sDfaValid_c (.slice aD D.1.length cD) (.slice bD D.2.length dD) D w9 XD.out.r).mono ?_
    rintro e w10 ⟨okd, rfl, hb, hokd⟩
    replace XD := Lib.hid (XD.out.stay hb)
    replace XM := Lib.hid (XM.out.stay hb)
    replace XA := Lib.hid (XA.out.stay hb)
    replace XB := Lib.hid (XB.out.stay hb)
    replace XC := Lib.hid (XC.out.stay hb)
    replace XE := Lib.hid (XE.out.stay hb)
    replace HB := Lib.hid (belUp HB.out (hb))
    clear hb
    cases okd
    · skip
      go_wp2_with fail
      refine (alive_c _).mono ?_
      rintro e w9 ⟨b9, rfl, rfl, hb9⟩
      obtain rfl : b9 = true := hb9.out.2 trivial
      go_wp2
      go_ret
      exact ⟨rfl, HB.out⟩
    · have hyes := Lib.hid (hbT hokd)
      have zC0 := XC.out.c0
      have zC1 := XC.out.c1
      go_wp2_with fail
      clear zC0 zC1
      refine ((LongestLength_c (.slice aC C.1.length cC) (.slice bC C.2.length dC) C w10 XC.out.r) ).mono ?_
      rintro e w11 ⟨rfl, hb⟩
      replace XD := Lib.hid (XD.out.stay hb)
      replace XM := Lib.hid (XM.out.stay hb)
      replace XA := Lib.hid (XA.out.stay hb)
      replace XB := Lib.hid (XB.out.stay hb)
      replace XC := Lib.hid (XC.out.stay hb)
      replace XE := Lib.hid (XE.out.stay hb)
      replace HB := Lib.hid (belUp HB.out (hb))
      clear hb
      have hll : llV C = -2 := by rw [hC.out]; exact self_ll hyes.out
      rw [hll]
      go_wp2_with fail
      refine (alive_c _).mono ?_
      rintro e w9 ⟨b9, rfl, rfl, hb9⟩
      obtain rfl : b9 = true := hb9.out.2 trivial
      go_wp2
      go_ret
      exact ⟨rfl, HB.out⟩
end Go.Proofs.Ytebcnamfpajneaa.fnBothSame
