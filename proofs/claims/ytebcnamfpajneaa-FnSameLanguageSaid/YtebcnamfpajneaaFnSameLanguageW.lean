/- FnSameLanguage answers true: the walk. -/
import Derived.Test.YtebcnamfpajneaaDr3
import Derived.Test.YtebcnamfpajneaaGG
import Derived.Test.YtebcnamfpajneaaGI
import Derived.Test.YtebcnamfpajneaaFwr
import Derived.Deep.RegionHeld3
set_option linter.unusedSimpArgs false
set_option linter.unusedVariables false
set_option linter.unusedSectionVars false
namespace Go.Proofs.Ytebcnamfpajneaa.fnSameLanguage
open Go.RowKit
set_option maxRecDepth 100000
theorem sm_iff {A B : DfaD} : smB A B = true ↔ okD A ∧ okD B ∧ lgD A = lgD B := by
  by_cases h : okD A ∧ okD B
  · rw [smB_yes h.1 h.2]
    constructor
    · intro hx
      have hn : ¬ hasW (lg (pn A B) (pe gApart A B) (0, 0)) := fun hw => by
        have := pb_true hw
        unfold fwB at hx
        rw [this] at hx
        cases hx
      refine ⟨h.1, h.2, funext fun w => ?_⟩
      cases e1 : lgD A w <;> cases e2 : lgD B w
      · rfl
      · exact absurd ⟨w, by rw [lg_pair]; show gApart (lgD A w) (lgD B w) = true; rw [e1, e2]; rfl⟩ hn
      · exact absurd ⟨w, by rw [lg_pair]; show gApart (lgD A w) (lgD B w) = true; rw [e1, e2]; rfl⟩ hn
      · rfl
    · rintro ⟨_, _, e⟩
      have hn : ¬ hasW (lg (pn A B) (pe gApart A B) (0, 0)) := by
        rintro ⟨w, hw⟩
        rw [lg_pair] at hw
        have hw' : gApart (lgD A w) (lgD B w) = true := hw
        rw [e] at hw'
        cases hq : lgD B w <;> rw [hq] at hw' <;> cases hw'
      unfold fwB
      rw [pb_false hn]
      rfl
  · rw [smB_no h]
    exact ⟨nofun, fun hh => absurd ⟨hh.1, hh.2.1⟩ h⟩
theorem sm_comm (A B : DfaD) : smB A B = smB B A := Bool.eq_iff_iff.2 (sm_iff.trans ((⟨fun h => ⟨h.2.1, h.1, h.2.2.symm⟩, fun h => ⟨h.2.1, h.1, h.2.2.symm⟩⟩ : (okD A ∧ okD B ∧ lgD A = lgD B) ↔ (okD B ∧ okD A ∧ lgD B = lgD A)).trans sm_iff.symm))
theorem sm_self {A : DfaD} (h : okD A) : smB A A = true := sm_iff.2 ⟨h, h, rfl⟩
theorem min_iff {A B : DfaD} (hA : okD A) (hB : okD B) : (orNo (okD A) (canon (lgD A)) = orNo (okD B) (canon (lgD B))) ↔ smB A B = true := by
  rw [orNo_pos hA, orNo_pos hB, sm_iff]
  constructor
  · intro h
    refine ⟨hA, hB, ?_⟩
    rw [← canon_lgD hA, h, canon_lgD hB]
  · rintro ⟨_, _, e⟩
    rw [e]
set_option maxHeartbeats 2000000 in
theorem walk (w : World) (v : Value) (bs : List UInt8) (h : Bytes (fun _ => True) w v bs) :
    Calls Try.prog 9 #[v] w (Yes w) := by
  obtain ⟨a, cap, rfl, hn⟩ := h.shape
  have H := Lib.hid h; clear h
  by_cases hl : 1048576 < bs.length
  · go_enter Try.func9, Try.ntmps9
    go_wp2
    go_ret
    exact ⟨rfl, Below.refl _ _⟩
  · go_enter Try.func9, Try.ntmps9
    go_wp2_with fail
    refine (DrawSameLanguage_c _ _ _ H.out).mono ?_
    rintro e w1 ⟨A, B, v1, v2, u1, u2, rfl, hb1, hd1, hd2⟩
    clear H hn hl
    obtain ⟨aA, cA, bA, dA, rfl, rfl, hnA, hmA⟩ := hd1.out.shapes
    obtain ⟨aB, cB, bB, dB, rfl, rfl, hnB, hmB⟩ := hd2.out.shapes
    obtain ⟨V1, hV1, HV1, XA⟩ := boxed hb1 hd1.out
    obtain ⟨W1, hW1, HW1, XB⟩ := boxed (belAlloc w1 (.cells #[.slice aA A.1.length cA, .slice bA A.2.length dA] 26)) (hd2.out.stay (kpB (belAlloc w1 _)))
    rw [← hV1] at hW1 XB
    replace XA := Lib.hid (XA.out.stay (show Below V1.heap.size V1 W1 by rw [hW1]; exact belAlloc _ _))
    have HB := Lib.hid (belUp HV1.out (show Below V1.heap.size V1 W1 by rw [hW1]; exact belAlloc _ _))
    have HW : Hid (W1 = (w1.alloc (.cells #[.slice aA A.1.length cA, .slice bA A.2.length dA] 26)).alloc (.cells #[.slice aB B.1.length cB, .slice bB B.2.length dB] 26)) := Lib.hid (by rw [hW1, hV1])
    have HV : Hid (V1.heap.size = w1.heap.size + 1) := by rw [hV1]; simp [Hid]
    rw [HV.out] at XB
    clear hW1 HW1 hV1 HV1 HV V1 hb1 hd1 hd2
    obtain ⟨s, hs⟩ : ∃ x, x = smB A B := ⟨_, rfl⟩
    replace hs := Lib.hid hs
    have zA0 := XA.out.c0
    have zA1 := XA.out.c1
    have zB0 := XB.out.c0
    have zB1 := XB.out.c1
    rw [HW.out] at zA0 zA1 zB0 zB1
    go_wp2_with fail
    rw [← HW.out]; clear HW
    clear zA0 zA1 zB0 zB1
    refine ((SameLanguage_c (.slice aA A.1.length cA) (.slice bA A.2.length dA) (.slice aB B.1.length cB) (.slice bB B.2.length dB) A B W1 XA.out.r XB.out.r) ).mono ?_
    rintro e w2 ⟨rfl, hb⟩
    rw [← hs.out]
    replace XA := Lib.hid (XA.out.stay hb)
    replace XB := Lib.hid (XB.out.stay hb)
    replace HB := Lib.hid (belUp HB.out (hb))
    clear hb
    have zA0 := XA.out.c0
    have zA1 := XA.out.c1
    have zB0 := XB.out.c0
    have zB1 := XB.out.c1
    go_wp2_with fail
    clear zA0 zA1 zB0 zB1
    refine ((sSameLanguage_c (.slice aA A.1.length cA) (.slice bA A.2.length dA) (.slice aB B.1.length cB) (.slice bB B.2.length dB) A B w2 XA.out.r XB.out.r) ).mono ?_
    rintro e w3 ⟨rfl, hb⟩
    rw [← hs.out]
    replace XA := Lib.hid (XA.out.stay hb)
    replace XB := Lib.hid (XB.out.stay hb)
    replace HB := Lib.hid (belUp HB.out (hb))
    clear hb
    have hbn := bneSelf s
    have zB0 := XB.out.c0
    have zB1 := XB.out.c1
    have zA0 := XA.out.c0
    have zA1 := XA.out.c1
    go_wp2_with fail
    clear zB0 zB1 zA0 zA1
    refine ((SameLanguage_c (.slice aB B.1.length cB) (.slice bB B.2.length dB) (.slice aA A.1.length cA) (.slice bA A.2.length dA) B A w3 XB.out.r XA.out.r) ).mono ?_
    rintro e w4 ⟨rfl, hb⟩
    rw [sm_comm B A, ← hs.out]
    replace XA := Lib.hid (XA.out.stay hb)
    replace XB := Lib.hid (XB.out.stay hb)
    replace HB := Lib.hid (belUp HB.out (hb))
    clear hb
    have zA0 := XA.out.c0
    have zA1 := XA.out.c1
    go_wp2_with fail
    clear zA0 zA1
    refine (sDfaValid_c (.slice aA A.1.length cA) (.slice bA A.2.length dA) A w4 XA.out.r).mono ?_
    rintro e w5 ⟨oka, rfl, hb, hoka⟩
    replace XA := Lib.hid (XA.out.stay hb)
    replace XB := Lib.hid (XB.out.stay hb)
    replace HB := Lib.hid (belUp HB.out (hb))
    clear hb
    cases oka
    · have hsf : s = false := by rw [hs.out]; exact smB_no (fun h => hbF hoka h.1)
      subst hsf
      go_wp2_with fail
      refine (alive_c _).mono ?_
      rintro e w9 ⟨b9, rfl, rfl, hb9⟩
      obtain rfl : b9 = true := hb9.out.2 trivial
      go_wp2
      go_ret
      exact ⟨rfl, HB.out⟩
    · have hyA := Lib.hid (hbT hoka); clear hoka
      have zB0 := XB.out.c0
      have zB1 := XB.out.c1
      go_wp2_with fail
      clear zB0 zB1
      refine (sDfaValid_c (.slice aB B.1.length cB) (.slice bB B.2.length dB) B w5 XB.out.r).mono ?_
      rintro e w6 ⟨okb, rfl, hb, hokb⟩
      replace XA := Lib.hid (XA.out.stay hb)
      replace XB := Lib.hid (XB.out.stay hb)
      replace HB := Lib.hid (belUp HB.out (hb))
      clear hb
      cases okb
      · have hsf : s = false := by rw [hs.out]; exact smB_no (fun h => hbF hokb h.2)
        subst hsf
        go_wp2_with fail
        refine (alive_c _).mono ?_
        rintro e w9 ⟨b9, rfl, rfl, hb9⟩
        obtain rfl : b9 = true := hb9.out.2 trivial
        go_wp2
        go_ret
        exact ⟨rfl, HB.out⟩
      · have hyB := Lib.hid (hbT hokb); clear hokb
        have hse : (s == s) = true := by cases s <;> rfl
        have zA0 := XA.out.c0
        have zA1 := XA.out.c1
        have zB0 := XB.out.c0
        have zB1 := XB.out.c1
        go_wp2_with fail
        clear zA0 zA1 zB0 zB1
        have hS : Hid (∀ w', Below w6.heap.size w6 w' → w'.cell? ⟨w1.heap.size, 0, none⟩ = some (.slice aA A.1.length cA) ∧ w'.cell? ⟨w1.heap.size, 1, none⟩ = some (.slice bA A.2.length dA) ∧ w'.cell? ⟨w1.heap.size + 1, 0, none⟩ = some (.slice aB B.1.length cB) ∧ w'.cell? ⟨w1.heap.size + 1, 1, none⟩ = some (.slice bB B.2.length dB)) := fun w' hb => ⟨(XA.out.stay hb).c0, (XA.out.stay hb).c1, (XB.out.stay hb).c0, (XB.out.stay hb).c1⟩
        have hb0 := (Below.refl w6.heap.size w6).drew
        go_region_held3 (fun w' => w'.cell? ⟨w1.heap.size, 0, none⟩ = some (.slice aA A.1.length cA) ∧ w'.cell? ⟨w1.heap.size, 1, none⟩ = some (.slice bA A.2.length dA) ∧ w'.cell? ⟨w1.heap.size + 1, 0, none⟩ = some (.slice aB B.1.length cB) ∧ w'.cell? ⟨w1.heap.size + 1, 1, none⟩ = some (.slice bB B.2.length dB))
          (exact hS.out _ (by assumption))
          (first
            | (go_at_call 28; (with_reducible refine atArgs #[.agg #[.slice aA A.1.length cA, .slice bA A.2.length dA]] ?_); refine ((Minimize_c (.slice aA A.1.length cA) (.slice bA A.2.length dA) A _ (XA.out.stay (by assumption)).r)).mono ?_; rintro e p5 ⟨y1, y2, rfl, hb5, hy5⟩; have hc0 := belUp (w := w6) (by first | assumption | exact belUp (by assumption) (belAlloc _ _)) hb5)
            | (go_at_call 28; (with_reducible refine atArgs #[.agg #[.slice aB B.1.length cB, .slice bB B.2.length dB]] ?_); refine ((Minimize_c (.slice aB B.1.length cB) (.slice bB B.2.length dB) B _ (XB.out.stay (by assumption)).r)).mono ?_; rintro e p6 ⟨z1, z2, rfl, hb6, hy6⟩; have hc1 := belUp (w := w6) (by first | assumption | exact belUp (by assumption) (belAlloc _ _)) hb6)
            | (go_at_call 25; refine (sameDfa_c y1 y2 z1 z2 (orNo (okD A) (canon (lgD A))) (orNo (okD B) (canon (lgD B))) _ (by first | (with_reducible exact hy5.out.rd) | exact hy5.out.rd.stay (kpB (belAlloc _ _)) | exact hy5.out.rd.stay (kpB (by assumption)) | exact hy5.out.rd.stay (kpB (belUp (by assumption) (belAlloc _ _))) | exact hy5.out.rd.stay (kpB (belUp (belAlloc _ _) (by assumption)))) (by first | (with_reducible exact hy6.out.rd) | exact hy6.out.rd.stay (kpB (belAlloc _ _)) | exact hy6.out.rd.stay (kpB (by assumption)) | exact hy6.out.rd.stay (kpB (belUp (by assumption) (belAlloc _ _))) | exact hy6.out.rd.stay (kpB (belUp (belAlloc _ _) (by assumption))))).mono ?_; rintro e p7 ⟨b7, rfl, hb7, hp7⟩; have hc2 := belUp (w := w6) (by first | assumption | exact belUp (by assumption) (belAlloc _ _)) hb7; obtain rfl : b7 = s := Bool.eq_iff_iff.2 (hp7.out.trans (by rw [hs.out]; exact min_iff hyA.out hyB.out)))
            | (go_at_call 27; refine ((SameLanguage_c (.slice aA A.1.length cA) (.slice bA A.2.length dA) (.slice aA A.1.length cA) (.slice bA A.2.length dA) A A _ (XA.out.stay (by assumption)).r (XA.out.stay (by assumption)).r)).mono ?_; rintro e p8 ⟨rfl, hb8⟩; have hc3 := belUp (w := w6) (by first | assumption | exact belUp (by assumption) (belAlloc _ _)) hb8; rw [sm_self hyA.out]))
        all_goals (
          go_wp2
          go_ret
          exact ⟨rfl, belUp HB.out hc3⟩)
end Go.Proofs.Ytebcnamfpajneaa.fnSameLanguage
