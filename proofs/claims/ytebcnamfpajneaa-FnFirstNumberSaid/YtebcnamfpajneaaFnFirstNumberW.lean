/- FnFirstNumber answers true: the walk. -/
import Derived.Test.YtebcnamfpajneaaDrd
import Derived.Test.YtebcnamfpajneaaGG
import Derived.Test.YtebcnamfpajneaaGN
import Derived.Test.YtebcnamfpajneaaFwr
import Derived.Deep.RegionHeld3
set_option linter.unusedSimpArgs false
set_option linter.unusedVariables false
set_option linter.unusedSectionVars false
namespace Go.Proofs.Ytebcnamfpajneaa.fnFirstNumber
open Go.RowKit
set_option maxRecDepth 100000
set_option maxHeartbeats 2000000 in
theorem walk (w : World) (v : Value) (bs : List UInt8) (h : Bytes (fun _ => True) w v bs) :
    Calls Try.prog 8 #[v] w (Yes w) := by
  obtain ⟨a, cap, rfl, hn⟩ := h.shape
  have H := Lib.hid h; clear h
  by_cases hl : 1048576 < bs.length
  · go_enter Try.func8, Try.ntmps8
    go_wp2
    go_ret
    exact ⟨rfl, Below.refl _ _⟩
  · go_enter Try.func8, Try.ntmps8
    go_wp2_with fail
    refine (DrawFirstOf_c _ _ _ H.out).mono ?_
    rintro e w1 ⟨D, v1, v2, rfl, hb1, hd1⟩
    clear H hn hl
    obtain ⟨aD, cD, bD, dD, rfl, rfl, hnD, hmD⟩ := (hd1.out).shapes
    obtain ⟨W1, hW1, HN, XD⟩ := boxed hb1 (hd1.out)
    have HB := HN; clear HN
    have HW := Lib.hid hW1; clear hW1
    obtain ⟨s, hs⟩ : ∃ x, x = foV D := ⟨_, rfl⟩
    replace hs := Lib.hid hs
    obtain ⟨q, hq⟩ : ∃ x, x = foB D := ⟨_, rfl⟩
    replace hq := Lib.hid hq
    have zD0 := XD.out.c0
    have zD1 := XD.out.c1
    rw [HW.out] at zD0 zD1
    go_wp2_with fail
    rw [← HW.out]; clear HW
    clear zD0 zD1
    refine ((FirstOf_c (.slice aD D.1.length cD) (.slice bD D.2.length dD) D W1 XD.out.r) ).mono ?_
    rintro e w2 ⟨rfl, hb⟩
    rw [← hs.out, ← hq.out]
    replace XD := Lib.hid (XD.out.stay hb)
    replace HB := Lib.hid (belUp HB.out (hb))
    clear hb
    have zD0 := XD.out.c0
    have zD1 := XD.out.c1
    go_wp2_with fail
    clear zD0 zD1
    refine ((sFirstOf_c (.slice aD D.1.length cD) (.slice bD D.2.length dD) D w2 XD.out.r) ).mono ?_
    rintro e w3 ⟨rfl, hb⟩
    rw [← hs.out, ← hq.out]
    replace XD := Lib.hid (XD.out.stay hb)
    replace HB := Lib.hid (belUp HB.out (hb))
    clear hb
    have hbn := bneSelf q
    by_cases h30 : s.size ≤ 30
    · have hx1 : wnV D 0 = s := by rw [hs.out]; exact (first_number D (by rw [← hs.out]; exact h30)).1
      have hx2 : wnB D 0 = q := by rw [hq.out]; exact (first_number D (by rw [← hs.out]; exact h30)).2
      have Hx1 := Lib.hid hx1; have Hx2 := Lib.hid hx2; clear hx1 hx2
      have zD0 := XD.out.c0
      have zD1 := XD.out.c1
      go_wp2_with fail
      clear zD0 zD1
      refine ((WordNumber_c (.slice aD D.1.length cD) (.slice bD D.2.length dD) D 0 w3 XD.out.r) (by decide)).mono ?_
      rintro e w4 ⟨rfl, hb⟩
      rw [Hx1.out, Hx2.out]
      replace XD := Lib.hid (XD.out.stay hb)
      replace HB := Lib.hid (belUp HB.out (hb))
      clear hb
      have hbe : (q == q) = true := by simp
      go_wp2_with fail
      refine (alive_c _).mono ?_
      rintro e w9 ⟨b9, rfl, rfl, hb9⟩
      obtain rfl : b9 = true := hb9.out.2 trivial
      go_wp2
      go_ret
      exact ⟨rfl, HB.out⟩
    · skip
      obtain ⟨x, hx⟩ : ∃ x, x = wnV D 0 := ⟨_, rfl⟩
      replace hx := Lib.hid hx
      obtain ⟨f, hf⟩ : ∃ x, x = wnB D 0 := ⟨_, rfl⟩
      replace hf := Lib.hid hf
      have zD0 := XD.out.c0
      have zD1 := XD.out.c1
      go_wp2_with fail
      clear zD0 zD1
      refine ((WordNumber_c (.slice aD D.1.length cD) (.slice bD D.2.length dD) D 0 w3 XD.out.r) (by decide)).mono ?_
      rintro e w4 ⟨rfl, hb⟩
      rw [← hx.out, ← hf.out]
      replace XD := Lib.hid (XD.out.stay hb)
      replace HB := Lib.hid (belUp HB.out (hb))
      clear hb
      go_wp2_with fail
      refine (alive_c _).mono ?_
      rintro e w9 ⟨b9, rfl, rfl, hb9⟩
      obtain rfl : b9 = true := hb9.out.2 trivial
      go_wp2
      go_ret
      exact ⟨rfl, HB.out⟩
end Go.Proofs.Ytebcnamfpajneaa.fnFirstNumber
