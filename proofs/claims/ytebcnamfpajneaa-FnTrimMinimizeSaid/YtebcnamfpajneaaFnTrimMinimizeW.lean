/- FnTrimMinimize answers true: the walk. -/
import Derived.Test.YtebcnamfpajneaaDrd
import Derived.Test.YtebcnamfpajneaaGG
import Derived.Test.YtebcnamfpajneaaGI
import Derived.Deep.RegionHeld3
set_option linter.unusedSimpArgs false
set_option linter.unusedVariables false
set_option linter.unusedSectionVars false
namespace Go.Proofs.Ytebcnamfpajneaa.fnTrimMinimize
open Go.RowKit
set_option maxRecDepth 100000
theorem law (D : DfaD) : orNo (okD (orNo (okD D) (trimD D))) (canon (lgD (orNo (okD D) (trimD D)))) = orNo (okD D) (canon (lgD D)) := by
  by_cases h : okD D
  · rw [orNo_pos h, orNo_pos h, orNo_pos (trim_ok h), trim_lg h]
  · rw [orNo_neg h, orNo_neg h, orNo_neg not_ok_nil]
set_option maxHeartbeats 2000000 in
theorem walk (w : World) (v : Value) (bs : List UInt8) (h : Bytes (fun _ => True) w v bs) :
    Calls Try.prog 6 #[v] w (Yes w) := by
  obtain ⟨a, cap, rfl, hn⟩ := h.shape
  have H := Lib.hid h; clear h
  by_cases hl : 1048576 < bs.length
  · go_enter Try.func6, Try.ntmps6
    go_wp2
    go_ret
    exact ⟨rfl, Below.refl _ _⟩
  · go_enter Try.func6, Try.ntmps6
    go_wp2_with fail
    refine (DrawDfaTrim_c _ _ _ H.out).mono ?_
    rintro e w1 ⟨D, v1, v2, rfl, hb1, hd1⟩
    clear H hn hl
    obtain ⟨aD, cD, bD, dD, rfl, rfl, hnD, hmD⟩ := (hd1.out).shapes
    obtain ⟨W1, hW1, HN, XD⟩ := boxed hb1 (hd1.out)
    have HB := HN; clear HN
    have HW := Lib.hid hW1; clear hW1
    have zD0 := XD.out.c0
    have zD1 := XD.out.c1
    rw [HW.out] at zD0 zD1
    go_wp2_with fail
    rw [← HW.out]; clear HW
    clear zD0 zD1
    refine (iDfaTrim_c (.slice aD D.1.length cD) (.slice bD D.2.length dD) D W1 XD.out.r).mono ?_
    rintro e w2 ⟨x1, x2, rfl, hb, hx⟩
    obtain ⟨X, hX⟩ : ∃ X, X = orNo (okD D) (trimD D) := ⟨_, rfl⟩
    rw [← hX] at hx
    replace hX := Lib.hid hX
    obtain ⟨aX, cX, bX, dX, rfl, rfl, hnX, hmX⟩ := (hx.out.rd).shapes
    obtain ⟨W2, hW2, HN, XX⟩ := boxed hb (hx.out.rd)
    replace XD := Lib.hid (XD.out.stay HN.out)
    replace HB := Lib.hid (belUp HB.out HN.out); clear HN
    have HW := Lib.hid hW2; clear hW2
    clear hx hb
    have zD0 := XD.out.c0
    have zD1 := XD.out.c1
    have zX0 := XX.out.c0
    have zX1 := XX.out.c1
    rw [HW.out] at zD0 zD1 zX0 zX1
    go_wp2_with fail
    rw [← HW.out]; clear HW
    clear zD0 zD1 zX0 zX1

    have hS : Hid (∀ w', Below W2.heap.size W2 w' → w'.cell? ⟨w2.heap.size, 0, none⟩ = some (.slice aX X.1.length cX) ∧ w'.cell? ⟨w2.heap.size, 1, none⟩ = some (.slice bX X.2.length dX) ∧ w'.cell? ⟨w1.heap.size, 0, none⟩ = some (.slice aD D.1.length cD) ∧ w'.cell? ⟨w1.heap.size, 1, none⟩ = some (.slice bD D.2.length dD)) := fun w' hb => ⟨(XX.out.stay hb).c0, (XX.out.stay hb).c1, (XD.out.stay hb).c0, (XD.out.stay hb).c1⟩
    have hb0 := (Below.refl W2.heap.size W2).drew
    go_region_held3 (fun w' => w'.cell? ⟨w2.heap.size, 0, none⟩ = some (.slice aX X.1.length cX) ∧ w'.cell? ⟨w2.heap.size, 1, none⟩ = some (.slice bX X.2.length dX) ∧ w'.cell? ⟨w1.heap.size, 0, none⟩ = some (.slice aD D.1.length cD) ∧ w'.cell? ⟨w1.heap.size, 1, none⟩ = some (.slice bD D.2.length dD))
      (exact hS.out _ (by assumption))
      (first
        | (go_at_call 26; refine ((DfaTrim_c (.slice aD D.1.length cD) (.slice bD D.2.length dD) D _ (XD.out.stay (by assumption)).r)).mono ?_; rintro e w3x ⟨y1, y2, rfl, hb3, hy3⟩; have hc0 := belUp (w := W2) (by first | assumption | exact belUp (by assumption) (belAlloc _ _)) hb3)
        | (go_at_call 25; refine (sameDfa_c (.slice aX X.1.length cX) (.slice bX X.2.length dX) y1 y2 X (orNo (okD D) (trimD D)) _ (XX.out.stay (by assumption)).r hy3.out.rd).mono ?_; rintro e W2x ⟨b, rfl, hb4, hp4⟩; have hc1 := belUp (w := W2) (by first | assumption | exact belUp (by assumption) (belAlloc _ _)) hb4))
    obtain rfl : b = true := hp4.out.2 hX.out
    replace XD := Lib.hid (XD.out.stay hc1)
    replace XX := Lib.hid (XX.out.stay hc1)
    replace HB := Lib.hid (belUp HB.out (hc1))
    clear hp4 hb4 hb3 hy3 hc0 hc1 hb0 hS
    have zD0 := XD.out.c0
    have zD1 := XD.out.c1
    have zX0 := XX.out.c0
    have zX1 := XX.out.c1
    go_wp2_with fail
    clear zD0 zD1 zX0 zX1
    have hS : Hid (∀ w', Below W2x.heap.size W2x w' → w'.cell? ⟨w1.heap.size, 0, none⟩ = some (.slice aD D.1.length cD) ∧ w'.cell? ⟨w1.heap.size, 1, none⟩ = some (.slice bD D.2.length dD) ∧ w'.cell? ⟨w2.heap.size, 0, none⟩ = some (.slice aX X.1.length cX) ∧ w'.cell? ⟨w2.heap.size, 1, none⟩ = some (.slice bX X.2.length dX)) := fun w' hb => ⟨(XD.out.stay hb).c0, (XD.out.stay hb).c1, (XX.out.stay hb).c0, (XX.out.stay hb).c1⟩
    have hb0 := (Below.refl W2x.heap.size W2x).drew
    go_region_held3 (fun w' => w'.cell? ⟨w1.heap.size, 0, none⟩ = some (.slice aD D.1.length cD) ∧ w'.cell? ⟨w1.heap.size, 1, none⟩ = some (.slice bD D.2.length dD) ∧ w'.cell? ⟨w2.heap.size, 0, none⟩ = some (.slice aX X.1.length cX) ∧ w'.cell? ⟨w2.heap.size, 1, none⟩ = some (.slice bX X.2.length dX))
      (exact hS.out _ (by assumption))
      (first
        | (go_at_call 28; (with_reducible refine atArgs #[.agg #[.slice aD D.1.length cD, .slice bD D.2.length dD]] ?_); refine ((Minimize_c (.slice aD D.1.length cD) (.slice bD D.2.length dD) D _ (XD.out.stay (by assumption)).r)).mono ?_; rintro e w5 ⟨y1, y2, rfl, hb5, hy5⟩; have hc0 := belUp (w := W2x) (by first | assumption | exact belUp (by assumption) (belAlloc _ _)) hb5)
        | (go_at_call 28; (with_reducible refine atArgs #[.agg #[.slice aX X.1.length cX, .slice bX X.2.length dX]] ?_); refine ((Minimize_c (.slice aX X.1.length cX) (.slice bX X.2.length dX) X _ (XX.out.stay (by assumption)).r)).mono ?_; rintro e w6 ⟨z1, z2, rfl, hb6, hy6⟩; have hc1 := belUp (w := W2x) (by first | assumption | exact belUp (by assumption) (belAlloc _ _)) hb6)
        | (go_at_call 25; refine (sameDfa_c z1 z2 y1 y2 (orNo (okD X) (canon (lgD X))) (orNo (okD D) (canon (lgD D))) _ (by (first | exact hy6.out.rd | exact hy6.out.rd.stay (kpB (by assumption)))) (by (first | exact hy5.out.rd | exact hy5.out.rd.stay (kpB (by assumption))))).mono ?_; rintro e w7 ⟨b7, rfl, hb7, hp7⟩; have hc2 := belUp (w := W2x) (by first | assumption | exact belUp (by assumption) (belAlloc _ _)) hb7; obtain rfl : b7 = true := hp7.out.2 (by rw [hX.out]; exact law D))
        | (go_at_call 18; refine (alive_c _).mono ?_; rintro e w8 ⟨b8, rfl, hw8, hp8⟩; have hc3 := belUp (w := W2x) (by first | assumption | exact belUp (by assumption) (belAlloc _ _)) (Below.refl _ _); obtain rfl : b8 = true := hp8.out.2 trivial; subst hw8))
    all_goals (
      go_wp2
      go_ret
      exact ⟨rfl, belUp HB.out hc3⟩)
end Go.Proofs.Ytebcnamfpajneaa.fnTrimMinimize
