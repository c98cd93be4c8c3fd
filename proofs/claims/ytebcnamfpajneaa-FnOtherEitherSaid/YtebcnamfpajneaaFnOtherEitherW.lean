/- FnOtherEither answers true: the walk. -/
import Derived.Test.YtebcnamfpajneaaDr3
import Derived.Test.YtebcnamfpajneaaGG
import Derived.Test.YtebcnamfpajneaaGI
import Derived.Test.YtebcnamfpajneaaPq1
import Derived.Test.YtebcnamfpajneaaOth
import Derived.Deep.RegionHeld3
set_option linter.unusedSimpArgs false
set_option linter.unusedVariables false
set_option linter.unusedSectionVars false
namespace Go.Proofs.Ytebcnamfpajneaa.fnOtherEither
open Go.RowKit
set_option maxRecDepth 100000
theorem oth_lg (D : DfaD) (h : okD D) : lgD (othD D) = fun w => !lgD D w := by
  have key : ∀ (w : List (Fin 3)) (s : Nat), s < D.1.length → lg (dn (othD D)) (de (othD D)) s w = !lg (dn D) (de D) s w := by
    intro w
    induction w with
    | nil =>
      intro s hs
      show de (othD D) s = !de D s
      unfold de othD
      simp only [List.getD_eq_getElem?_getD, List.getElem?_map]
      rw [List.getElem?_eq_getElem (by rw [h.2.1]; exact hs)]
      rfl
    | cons c w ih => intro s hs; exact ih _ (dn_lt h hs c.isLt)
  funext w
  exact key w 0 h.1.1
theorem oD_ok {D : DfaD} (h : okD D) : okD (orNo (okD D) (canon (lgD (othD D)))) := by rw [orNo_pos h]; exact canon_ok (oth_ok h)
theorem oD_lg {D : DfaD} (h : okD D) : lgD (orNo (okD D) (canon (lgD (othD D)))) = fun w => !lgD D w := by
  rw [orNo_pos h, canon_lgD (oth_ok h), oth_lg D h]
theorem law_less {A B : DfaD} (h : prP A B) (h2 : prP A (orNo (okD B) (canon (lgD (othD B))))) : prD gLess A B = prD gBoth A (orNo (okD B) (canon (lgD (othD B)))) := by
  rw [prD_eq _ h, prD_eq _ h2]
  congr 1
  funext w
  show gLess (lgD A w) (lgD B w) = gBoth (lgD A w) (lgD (orNo (okD B) (canon (lgD (othD B)))) w)
  rw [oD_lg h.2.1]
  rfl
theorem law_other {A B : DfaD} (h : prP A B) (h2 : prP (orNo (okD A) (canon (lgD (othD A)))) (orNo (okD B) (canon (lgD (othD B))))) :
    orNo (okD (prD gEither A B)) (canon (lgD (othD (prD gEither A B)))) = prD gBoth (orNo (okD A) (canon (lgD (othD A)))) (orNo (okD B) (canon (lgD (othD B)))) := by
  rw [orNo_pos (prD_ok gEither h), prD_eq _ h2, oth_lg _ (prD_ok gEither h), prD_lg gEither h]
  congr 1
  funext w
  show (!gEither (lgD A w) (lgD B w)) = gBoth (lgD (orNo (okD A) (canon (lgD (othD A)))) w) (lgD (orNo (okD B) (canon (lgD (othD B)))) w)
  rw [oD_lg h.1, oD_lg h.2.1]
  show (!gEither (lgD A w) (lgD B w)) = gBoth (!lgD A w) (!lgD B w)
  cases lgD A w <;> cases lgD B w <;> rfl
theorem qZero {P : Program} {f : FuncId} {args : Array Value} {w : World} {n : Nat} {v : Value} (h : Calls P f args (w.drewN n) fun e w' => e = .returned v ∧ w' = w.drewN n) :
    Calls P f args (w.drewN n) fun e w'' => e = .returned v ∧ ∃ m, w'' = w.drewN m := h.mono fun _ _ ⟨he, hm⟩ => ⟨he, n, hm⟩
theorem aliveQ (w : World) : Calls Try.prog 18 #[] w (fun e w' => e = .returned (.bool true) ∧ w' = w) := (alive_c w).mono fun e w' ⟨b, he, hw, hb⟩ => by
  obtain rfl := hb.out.2 trivial
  exact ⟨he, hw.symm⟩
set_option maxHeartbeats 40000000 in
theorem walk (w : World) (v : Value) (bs : List UInt8) (h : Bytes (fun _ => True) w v bs) :
    Calls Try.prog 14 #[v] w (Yes w) := by
  obtain ⟨a, cap, rfl, hn⟩ := h.shape
  have H := Lib.hid h; clear h
  by_cases hl : 1048576 < bs.length
  · go_enter Try.func14, Try.ntmps14
    go_wp2
    go_ret
    exact ⟨rfl, Below.refl _ _⟩
  · go_enter Try.func14, Try.ntmps14
    go_wp2_with fail
    refine (DrawDfaEither_c _ _ _ H.out).mono ?_
    rintro e w1 ⟨A, B, v1, v2, u1, u2, rfl, hb1, hd1, hd2⟩
    clear H hn hl
    obtain ⟨aA, cA, bA, dA, rfl, rfl, hnA, hmA⟩ := hd1.out.shapes
    obtain ⟨aB, cB, bB, dB, rfl, rfl, hnB, hmB⟩ := hd2.out.shapes
    obtain ⟨V1, hV1, HV1, XA⟩ := boxed hb1 hd1.out
    obtain ⟨W1, hW1, HW1, XB⟩ := boxed (belAlloc w1 (.cells #[.slice aA A.1.length cA, .slice bA A.2.length dA] 26)) (hd2.out.stay (kpB (belAlloc w1 _)))
    rw [← hV1] at hW1 XB
    replace XA := Lib.hid (XA.out.stay (show Below V1.heap.size V1 W1 by rw [hW1]; exact belAlloc _ _))
    have HB := Lib.hid (belUp HV1.out (show Below V1.heap.size V1 W1 by rw [hW1]; exact belAlloc _ _))
    have HW : Hid (W1 = (w1.alloc (.cells #[.slice aA A.1.length cA, .slice bA A.2.length dA] 26)).alloc (.cells #[.slice aB B.1.length cB, .slice bB B.2.length dB] 26)) := Lib.hid (by rw [hW1, hV1])
    have HV : Hid (V1.heap.size = w1.heap.size + 1) := by rw [hV1]; simp [Hid]
    rw [HV.out] at XB
    clear hW1 HW1 hV1 HV1 HV V1 hb1 hd1 hd2
    have zA0 := XA.out.c0
    have zA1 := XA.out.c1
    have zB0 := XB.out.c0
    have zB1 := XB.out.c1
    rw [HW.out] at zA0 zA1 zB0 zB1
    go_wp2_with fail
    rw [← HW.out]; clear HW
    clear zA0 zA1 zB0 zB1
    refine (DfaEither_c (.slice aA A.1.length cA) (.slice bA A.2.length dA) (.slice aB B.1.length cB) (.slice bB B.2.length dB) A B W1 XA.out.r XB.out.r).mono ?_
    rintro e w2 ⟨x1, x2, ok, rfl, hb, hok, hx⟩
    obtain ⟨X, hX⟩ : ∃ X, X = prD gEither A B := ⟨_, rfl⟩
    rw [← hX] at hx
    replace hX := Lib.hid hX
    obtain ⟨aX, cX, bX, dX, rfl, rfl, hnX, hmX⟩ := (hx.out.rd).shapes
    obtain ⟨W2, hW2, HN, XX⟩ := boxed hb (hx.out.rd)
    replace XA := Lib.hid (XA.out.stay HN.out)
    replace XB := Lib.hid (XB.out.stay HN.out)
    replace HB := Lib.hid (belUp HB.out HN.out); clear HN
    have HW := Lib.hid hW2; clear hW2
    clear hx hb
    have zA0 := XA.out.c0
    have zA1 := XA.out.c1
    have zB0 := XB.out.c0
    have zB1 := XB.out.c1
    rw [HW.out] at zA0 zA1 zB0 zB1
    go_wp2_with fail
    rw [← HW.out]; clear HW
    clear zA0 zA1 zB0 zB1
    refine (sDfaEither_c (.slice aA A.1.length cA) (.slice bA A.2.length dA) (.slice aB B.1.length cB) (.slice bB B.2.length dB) A B W2 XA.out.r XB.out.r).mono ?_
    rintro e w3 ⟨x1, x2, fine, rfl, hb, hfine, hx⟩
    obtain ⟨Z, hZ⟩ : ∃ X, X = prD gEither A B := ⟨_, rfl⟩
    rw [← hZ] at hx
    replace hZ := Lib.hid hZ
    obtain ⟨aZ, cZ, bZ, dZ, rfl, rfl, hnZ, hmZ⟩ := (hx.out.rd).shapes
    obtain ⟨W3, hW3, HN, XZ⟩ := boxed hb (hx.out.rd)
    replace XA := Lib.hid (XA.out.stay HN.out)
    replace XB := Lib.hid (XB.out.stay HN.out)
    replace XX := Lib.hid (XX.out.stay HN.out)
    replace HB := Lib.hid (belUp HB.out HN.out); clear HN
    have HW := Lib.hid hW3; clear hW3
    clear hx hb
    obtain rfl : fine = ok := boolEq hfine hok
    clear hfine
    have zX0 := XX.out.c0
    have zX1 := XX.out.c1
    have zZ0 := XZ.out.c0
    have zZ1 := XZ.out.c1
    rw [HW.out] at zX0 zX1 zZ0 zZ1
    go_wp2_with fail
    rw [← HW.out]; clear HW
    clear zX0 zX1 zZ0 zZ1
    refine (sameDfa_c _ _ _ _ X Z W3 XX.out.r XZ.out.r).mono ?_
    rintro e w4 ⟨bs4, rfl, hb, hp⟩
    obtain rfl : bs4 = true := hp.out.2 (by rw [hX.out, hZ.out])
    clear hp
    replace XA := Lib.hid (XA.out.stay hb)
    replace XB := Lib.hid (XB.out.stay hb)
    replace XX := Lib.hid (XX.out.stay hb)
    replace XZ := Lib.hid (XZ.out.stay hb)
    replace HB := Lib.hid (belUp HB.out (hb))
    clear hb
    have hbn := bneSelf fine
    obtain ⟨O, hO⟩ : ∃ O, O = orNo (okD A) (canon (lgD (othD A))) := ⟨_, rfl⟩
    replace hO := Lib.hid hO
    obtain ⟨Q, hQ⟩ : ∃ O, O = orNo (okD B) (canon (lgD (othD B))) := ⟨_, rfl⟩
    replace hQ := Lib.hid hQ
    obtain ⟨Y, hY⟩ : ∃ Y, Y = prD gBoth O Q := ⟨_, rfl⟩
    replace hY := Lib.hid hY
    have zA0 := XA.out.c0
    have zA1 := XA.out.c1
    have zB0 := XB.out.c0
    have zB1 := XB.out.c1
    go_wp2_with fail
    clear zA0 zA1 zB0 zB1
    have hS : Hid (∀ w', Below w4.heap.size w4 w' → w'.cell? ⟨w1.heap.size, 0, none⟩ = some (.slice aA A.1.length cA) ∧ w'.cell? ⟨w1.heap.size, 1, none⟩ = some (.slice bA A.2.length dA) ∧ w'.cell? ⟨w1.heap.size + 1, 0, none⟩ = some (.slice aB B.1.length cB) ∧ w'.cell? ⟨w1.heap.size + 1, 1, none⟩ = some (.slice bB B.2.length dB)) := fun w' hb => ⟨(XA.out.stay hb).c0, (XA.out.stay hb).c1, (XB.out.stay hb).c0, (XB.out.stay hb).c1⟩
    have hb0 := (Below.refl w4.heap.size w4).drew
    go_region_held3 (fun w' => w'.cell? ⟨w1.heap.size, 0, none⟩ = some (.slice aA A.1.length cA) ∧ w'.cell? ⟨w1.heap.size, 1, none⟩ = some (.slice bA A.2.length dA) ∧ w'.cell? ⟨w1.heap.size + 1, 0, none⟩ = some (.slice aB B.1.length cB) ∧ w'.cell? ⟨w1.heap.size + 1, 1, none⟩ = some (.slice bB B.2.length dB))
      (first | exact hS.out _ (by assumption) | exact hS.out _ (belUp (by assumption) (belAlloc _ _)) | exact hS.out _ (((belUp (by assumption) (belAlloc _ _)).setCell (by first | exact Nat.le_refl _ | exact Below.size (by assumption) | (simp; omega)) _).setCell (by first | exact Nat.le_refl _ | exact Below.size (by assumption) | (simp; omega)) _) | exact hS.out _ ((Below.setCell (by assumption) (by first | exact Nat.le_refl _ | exact Below.size (by assumption) | (simp; omega)) _).setCell (by first | exact Nat.le_refl _ | exact Below.size (by assumption) | (simp; omega)) _))
      (first
        | (go_at_call 54; (with_reducible refine atArgs #[.agg #[.slice aA A.1.length cA, .slice bA A.2.length dA]] ?_); refine (DfaOther_c (.slice aA A.1.length cA) (.slice bA A.2.length dA) A _ (XA.out.stay (by first | assumption | exact belUp (by assumption) (belAlloc _ _))).r).mono ?_; rintro e w5 ⟨y1, y2, rfl, hb5, hy5⟩; have hc0 := belUp (w := w4) (by first | assumption | exact belUp (by assumption) (belAlloc _ _)) hb5; rw [← hO.out] at hy5; (first | have khb5 := Lib.hid (blkBel hb5 khb6.out) | have khb5 := Lib.hid (blkBel hb5 (blkNew _ _ rfl)) | skip))
        | (go_at_call 54; (with_reducible refine atArgs #[.agg #[.slice aB B.1.length cB, .slice bB B.2.length dB]] ?_); refine (DfaOther_c (.slice aB B.1.length cB) (.slice bB B.2.length dB) B _ (XB.out.stay (by first | assumption | exact belUp (by assumption) (belAlloc _ _))).r).mono ?_; rintro e w6 ⟨z1, z2, rfl, hb6, hy6⟩; have hc1 := belUp (w := w4) (by first | assumption | exact belUp (by assumption) (belAlloc _ _)) hb6; rw [← hQ.out] at hy6; (first | have khb6 := Lib.hid (blkBel hb6 khb5.out) | have khb6 := Lib.hid (blkBel hb6 (blkNew _ _ rfl)) | skip))
        | (go_at_call 50; refine (DfaBoth_c y1 y2 z1 z2 O Q _ (by first | (with_reducible exact hy5.out.rd) | exact hy5.out.rd.stay (kpB (belAlloc _ _)) | exact hy5.out.rd.stay (kpB (by assumption)) | exact hy5.out.rd.stay (kpB (belUp (by assumption) (belAlloc _ _))) | exact hy5.out.rd.stay (kpB (belUp (belAlloc _ _) (by assumption)))) (by first | (with_reducible exact hy6.out.rd) | exact hy6.out.rd.stay (kpB (belAlloc _ _)) | exact hy6.out.rd.stay (kpB (by assumption)) | exact hy6.out.rd.stay (kpB (belUp (by assumption) (belAlloc _ _))) | exact hy6.out.rd.stay (kpB (belUp (belAlloc _ _) (by assumption))))).mono ?_; rintro e w7 ⟨u1, u2, good, rfl, hb7, hgood, hz7⟩; have hc2 := belUp (w := w4) (by first | assumption | exact belUp (by assumption) (belAlloc _ _)) hb7; rw [← hY.out] at hz7; obtain ⟨aY, cY, bY, dY, rfl, rfl, _, _⟩ := hz7.out.rd.shapes; (first | have khb7 := Lib.hid (blkBel hb7 khb6.out) | have khb7 := Lib.hid (blkBel hb7 khb5.out) | have khb7 := Lib.hid (blkBel hb7 (blkNew _ _ rfl)) | skip); (first | (have kq := blk2 khb7.out; obtain ⟨q0, q1, q2, q3⟩ := kq) | skip)))
    all_goals clear hS
    all_goals (
      first
        | (have kq := boxedSet hc2 (by first | exact Nat.le_refl _ | exact Below.size (by assumption) | (simp; omega)) khb7.out hz7.out.rd (by intro i hi he; subst he; have s0 := hb5.size; have s1 := hb6.size; have s2 := hb7.size; have hi1 := hi.1; simp only [drewSz, drewNSz, World.size_alloc] at s0 s1 s2 hi1; omega); obtain ⟨Wn, hWn, HN, XY⟩ := kq)
        | obtain ⟨Wn, hWn, HN, XY⟩ := boxed hc2 hz7.out.rd
      replace XA := Lib.hid (XA.out.stay HN.out)
      replace XB := Lib.hid (XB.out.stay HN.out)
      replace XX := Lib.hid (XX.out.stay HN.out)
      replace XZ := Lib.hid (XZ.out.stay HN.out)
      replace HB := Lib.hid (belUp HB.out HN.out); clear HN
      obtain ⟨Bn, hBn, XYb⟩ := XY.out.named
      replace XY := XYb
      rw [← hWn, ← hBn]
      clear hWn hBn XYb
      clear hc0 hc1 hc2 hb5 hb6 hb7 hy5 hy6 hz7
      have hgd := Lib.hid hgood
      by_cases hfg : fine = true ∧ good = true
      case neg =>
        cases fine <;> cases good
        case true.true => exact absurd ⟨rfl, rfl⟩ hfg
        all_goals (
          clear hb0
          have zX0 := XX.out.c0
          have zX1 := XX.out.c1
          have zY0 := XY.out.c0
          have zY1 := XY.out.c1
          go_wp2_with fail
          go_quiet ((go_at_call 18; exact qZero (aliveQ _)))
          go_wp2
          go_ret
          exact ⟨rfl, belDrewN HB.out _⟩)
      obtain ⟨rfl, rfl⟩ := hfg
      have hp1 := Lib.hid (hbT hok)
      have hp2 := Lib.hid (hbT hgood)
      have zX0 := XX.out.c0
      have zX1 := XX.out.c1
      have zY0 := XY.out.c0
      have zY1 := XY.out.c1
      go_wp2_with fail
      clear zX0 zX1 zY0 zY1
      clear hb0
      have hS : Hid (∀ w', Below Wn.heap.size Wn w' → w'.cell? ⟨w2.heap.size, 0, none⟩ = some (.slice aX X.1.length cX) ∧ w'.cell? ⟨w2.heap.size, 1, none⟩ = some (.slice bX X.2.length dX) ∧ w'.cell? ⟨Bn, 0, none⟩ = some (.slice aY Y.1.length cY) ∧ w'.cell? ⟨Bn, 1, none⟩ = some (.slice bY Y.2.length dY)) := fun w' hb => ⟨(XX.out.stay hb).c0, (XX.out.stay hb).c1, (XY.out.stay hb).c0, (XY.out.stay hb).c1⟩
      have hb0 := (Below.refl Wn.heap.size Wn).drew
      go_region_held3 (fun w' => w'.cell? ⟨w2.heap.size, 0, none⟩ = some (.slice aX X.1.length cX) ∧ w'.cell? ⟨w2.heap.size, 1, none⟩ = some (.slice bX X.2.length dX) ∧ w'.cell? ⟨Bn, 0, none⟩ = some (.slice aY Y.1.length cY) ∧ w'.cell? ⟨Bn, 1, none⟩ = some (.slice bY Y.2.length dY))
        (exact hS.out _ (by assumption))
        (first
          | (go_at_call 54; (with_reducible refine atArgs #[.agg #[.slice aX X.1.length cX, .slice bX X.2.length dX]] ?_); refine (DfaOther_c (.slice aX X.1.length cX) (.slice bX X.2.length dX) X _ (XX.out.stay (by first | assumption | exact belUp (by assumption) (belAlloc _ _))).r).mono ?_; rintro e wa ⟨y1, y2, rfl, hba, hya⟩; have hc0 := belUp (w := Wn) (by first | assumption | exact belUp (by assumption) (belAlloc _ _)) hba)
          | (go_at_call 25; refine (sameDfa_c y1 y2 (.slice aY Y.1.length cY) (.slice bY Y.2.length dY) (orNo (okD X) (canon (lgD (othD X)))) Y _ (by first | (with_reducible exact hya.out.rd) | exact hya.out.rd.stay (kpB (belAlloc _ _)) | exact hya.out.rd.stay (kpB (by assumption)) | exact hya.out.rd.stay (kpB (belUp (by assumption) (belAlloc _ _))) | exact hya.out.rd.stay (kpB (belUp (belAlloc _ _) (by assumption)))) (XY.out.stay (by first | assumption | exact belUp (by assumption) (belAlloc _ _))).r).mono ?_; rintro e wb ⟨bb, rfl, hbb, hpb⟩; have hc1 := belUp (w := Wn) (by first | assumption | exact belUp (by assumption) (belAlloc _ _)) hbb; obtain rfl : bb = true := hpb.out.2 (by rw [hX.out, hY.out, hO.out, hQ.out]; exact law_other hp1.out (by have h := hp2.out; rwa [hO.out, hQ.out] at h)))
          | (go_at_call 18; refine (alive_c _).mono ?_; rintro e w9 ⟨b9, rfl, hw9, hp9⟩; have hc2 := belUp (w := Wn) (by first | assumption | exact belUp (by assumption) (belAlloc _ _)) (Below.refl _ _); obtain rfl : b9 = true := hp9.out.2 trivial; subst hw9))
      go_wp2
      go_ret
      exact ⟨rfl, belUp HB.out hc2⟩)
end Go.Proofs.Ytebcnamfpajneaa.fnOtherEither
