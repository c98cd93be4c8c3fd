/- FnExactPatternsValid answers true: the walk. -/
import Derived.Test.YthdbgpdidolmaaaScn
namespace Go.Proofs.Ythdbgpdidolmaaa.fnExactPatternsValid
open Go.RowKit
set_option maxRecDepth 100000
set_option maxHeartbeats 2000000 in
theorem walk (w : World) (v0 : Value) (L0 : List DfaD) (h0 : DfaS (fun _ => True) w v0 L0) : Calls Try.prog 3 #[v0] w (Yes w) := by
  obtain ⟨a, cap, rfl, hn⟩ := h0.shape
  have H := Lib.hid h0; clear h0
  go_enter Try.func3, Try.ntmps3
  go_wp2_with fail
  refine (szDfaS_c _ L0 _ _ H.out (by omega) (by omega)).mono ?_
  rintro e w1 ⟨m0, rfl, hb1, hm⟩
  have HB1 := Lib.hid hb1; clear hb1
  rcases hm.out with rfl | ⟨hm0, hm1, hsml⟩
  · clear hm
    go_wp2
    go_ret
    exact ⟨rfl, HB1.out⟩
  have HSM := Lib.hid hsml; clear hsml hm
  go_wp2_with fail
  refine (toDfaS_c _ L0 _ (H.out.stay (kpB HB1.out)) HSM.out).mono ?_
  rintro e w2 ⟨v2, rfl, hb2, hd2⟩
  have HB2 := Lib.hid (HB1.out.trans (hb2.mono HB1.out.size)); clear hb2
  go_wp2_with fail
  refine (sPatternsValid_c _ L0 _ hd2.out).mono ?_
  rintro e w3 ⟨b3, rfl, hb3, h3⟩
  have HB3 := Lib.hid (HB2.out.trans (hb3.mono HB2.out.size)); clear hb3 hd2
  go_wp2_with fail
  refine (toDfaS_c _ L0 _ (H.out.stay (kpB HB3.out)) HSM.out).mono ?_
  rintro e w4 ⟨v4, rfl, hb4, hd4⟩
  have HB4 := Lib.hid (HB3.out.trans (hb4.mono HB3.out.size)); clear hb4
  go_wp2_with fail
  refine (PatternsValid_c _ L0 _ hd4.out).mono ?_
  rintro e w5 ⟨b5, rfl, hb5, h5⟩
  have HB5 := Lib.hid (HB4.out.trans (hb5.mono HB4.out.size))
  have HX := Lib.hid (hd4.out.stay (kpB hb5)); clear hb5 hd4
  obtain rfl := boolEq h5 h3
  clear h5 h3
  have hbz := bneSelf b5
  go_wp2_with fail
  refine (toDfaS_c _ L0 _ (H.out.stay (kpB HB5.out)) HSM.out).mono ?_
  rintro e w6 ⟨v6, rfl, hb6, hd6⟩
  have HB6 := Lib.hid (HB5.out.trans (hb6.mono HB5.out.size))
  have HX6 := Lib.hid (HX.out.stay (kpB hb6)); clear hb6
  go_wp2_with fail
  refine (eqDfaS_c _ _ L0 _ HX6.out hd6.out).mono ?_
  rintro e w7 ⟨bq, rfl, hb7, hq⟩
  cases bq
  · exact (hbF hq trivial).elim
  clear hq
  have HB7 := HB6.out.trans (hb7.mono HB6.out.size)
  go_wp2
  go_ret
  exact ⟨rfl, HB7⟩
end Go.Proofs.Ythdbgpdidolmaaa.fnExactPatternsValid
