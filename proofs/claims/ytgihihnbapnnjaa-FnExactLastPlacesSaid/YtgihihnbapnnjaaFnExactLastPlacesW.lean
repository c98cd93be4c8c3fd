/- FnExactLastPlaces answers true: the walk. -/
import Derived.Deep.RegionHeld3
import Derived.Test.YtgihihnbapnnjaaLae
import Derived.Test.YtgihihnbapnnjaaLpl
import Derived.Test.YtgihihnbapnnjaaEdg
import Derived.Test.YtgihihnbapnnjaaGC
import Derived.Test.YtgihihnbapnnjaaNfp
set_option linter.unusedSimpArgs false
set_option linter.unusedVariables false
set_option linter.unusedSectionVars false
namespace Go.Proofs.Ytgihihnbapnnjaa.fnExactLastPlaces
open Go.RowKit
set_option maxRecDepth 100000

set_option maxHeartbeats 2000000 in
theorem walk (w : World) (v0 : Value) (D0 : List (Int × Int)) (h0 : Pairs (fun _ => True) w v0 D0) :
    Calls Try.prog 11 #[v0] w (Yes w) := by
  obtain ⟨a0, c0, rfl, hn0⟩ := h0.shape
  have H0 := Lib.hid h0; clear h0
  have HB0 : Hid (Below w.heap.size w w) := Below.refl _ _
  go_enter Try.func11, Try.ntmps11
  have HB : Hid (Below w.heap.size w w) := Below.refl _ _
  go_wp2_with fail
  refine (szPartS_c _ D0 _ _ (H0.out.stay (kpB HB.out)) (by omega) (by omega)).mono ?_
  rintro e w1 ⟨m0, rfl, hb, hm⟩
  replace HB := Lib.hid (HB.out.trans (hb.mono HB.out.size))
  clear hb
  rcases hm.out with rfl | ⟨hm0_0, hm1_0, hsml0⟩
  · clear hm
    go_wp2
    go_ret
    exact ⟨rfl, HB0.out.trans (HB.out.mono HB0.out.size)⟩
  have HSM0 := Lib.hid hsml0; clear hsml0 hm
  have HSmall := Lib.hid (show _ from (show (lpw D0).length ≤ 1000000000000 by have := lpw_len D0; omega))
  obtain ⟨Q, hQ⟩ : ∃ Q : List Int, Hid (lpw D0 = Q) := ⟨_, rfl⟩
  rw [hQ.out] at HSmall
  have hqs := HSmall.out
  obtain ⟨q, hql⟩ : ∃ q : Nat, q = Q.length := ⟨_, rfl⟩
  rw [← hql] at hqs
  have Hql := Lib.hid hql; clear hql
  go_wp2_with fail
  refine (toPartS_c _ D0 _ (H0.out.stay (kpB HB.out)) HSM0.out).mono ?_
  rintro e w2 ⟨yn0, rfl, hb, hd⟩
  replace HB := Lib.hid (HB.out.trans (hb.mono HB.out.size))
  have hzcy0 := hb.size; clear hb
  have HXy0 : Hid (Pairs (fun _ => True) w2 yn0 D0) := hd.out.fl.mono (fun _ _ => trivial); clear hd
  obtain ⟨ay0, cy0, rfl, _⟩ := HXy0.out.shape
  go_wp2_with fail
  refine (sLastPlaces_w _ D0 _ HXy0.out HSM0.out).mono ?_
  rintro e w3 ⟨vw, rfl, hb, hvw⟩
  rw [hQ.out] at hvw
  have hzvw := hb.size
  replace HB := Lib.hid (HB.out.trans (hb.mono HB.out.size))
  replace HXy0 := Lib.hid (HXy0.out.stay (kpB hb))
  clear hb
  have Hvw := Lib.hid hvw.out; clear hvw
  rw [← Hql.out] at Hvw
  obtain ⟨avw, cvw, rfl, _⟩ := Hvw.out.shape
  clear HXy0
  have HB3 : Hid (Below w3.heap.size w3 w3) := Below.refl _ _
  have HW3 := Lib.hid ((Fl.inHeap Hvw.out.fl).mono (T := (· < w3.heap.size)) (fun b h => h.2)); clear Hvw
  go_wp2_with fail
  have hWl0 := HB.out.size
  have h3l0 := HB3.out.size
  refine (toPartS_c _ D0 _ (H0.out.stay (kpB HB.out)) HSM0.out).mono ?_
  rintro e w4 ⟨xn0, rfl, hb, hd⟩
  replace HB := Lib.hid (HB.out.trans (hb.mono HB.out.size))
  replace HB3 := Lib.hid (HB3.out.trans (hb.mono HB3.out.size))
  have hzx0 := hb.size; clear hb
  have HXx0 : Hid (FlW (fun b => w3.heap.size ≤ b ∧ b < w4.heap.size) w4 xn0 D0.length (cells2 D0)) := madeR hd.out; clear hd
  obtain ⟨ax0, cx0, rfl, _⟩ := HXx0.out.shape
  go_wp2_with fail
  have hWg := HB.out.size
  have h3g := HB3.out.size
  refine (LastPlaces_w _ D0 _ HXx0.out.fl).mono ?_
  rintro e w5 ⟨vg, rfl, hb, hvg⟩
  rw [hQ.out] at hvg
  have hzvg := hb.size
  replace HB := Lib.hid (HB.out.trans (hb.mono HB.out.size))
  replace HB3 := Lib.hid (HB3.out.trans (hb.mono HB3.out.size))
  replace HXx0 := Lib.hid (HXx0.out.stay (ksB hb))
  clear hb
  have Hvg := Lib.hid hvg.out; clear hvg
  rw [← Hql.out] at Hvg
  obtain ⟨avg, cvg, rfl, _⟩ := Hvg.out.shape
  go_wp2_with fail
  refine (eqIntS_c _ _ Q _ (by have := Hvg.out.fl; unfold Ints; rw [← Hql.out]; exact this) (by have := (HW3.out.stay (kpL HB3.out)); unfold Ints; rw [← Hql.out]; exact this)).mono ?_
  rintro e w6 ⟨bq, rfl, hb, hq0⟩
  cases bq
  · exact (hbF hq0 trivial).elim
  clear hq0
  replace HB := Lib.hid (HB.out.trans (hb.mono HB.out.size))
  replace HB3 := Lib.hid (HB3.out.trans (hb.mono HB3.out.size))
  replace HXx0 := Lib.hid (HXx0.out.stay (ksB hb))
  replace Hvg := Lib.hid (Hvg.out.stay (ksB hb))
  clear hb
  go_wp2_with fail
  refine (toPartS_c _ D0 _ (H0.out.stay (kpB HB.out)) HSM0.out).mono ?_
  rintro e w7 ⟨tn0, rfl, hb, hd⟩
  replace HB := Lib.hid (HB.out.trans (hb.mono HB.out.size))
  replace HB3 := Lib.hid (HB3.out.trans (hb.mono HB3.out.size))
  replace HXx0 := Lib.hid (HXx0.out.stay (ksB hb))
  replace Hvg := Lib.hid (Hvg.out.stay (ksB hb))
  clear hb
  have HXt0 : Hid (Pairs (fun _ => True) w7 tn0 D0) := hd.out.fl.mono (fun _ _ => trivial); clear hd
  obtain ⟨at0, ct0, rfl, _⟩ := HXt0.out.shape
  go_wp2_with fail
  refine (eqPartS_c _ _ D0 _ HXx0.out.fl HXt0.out).mono ?_
  rintro e w8 ⟨bq, rfl, hb, hq0⟩
  cases bq
  · exact (hbF hq0 trivial).elim
  clear hq0 HXt0
  replace HB := Lib.hid (HB.out.trans (hb.mono HB.out.size))
  replace HB3 := Lib.hid (HB3.out.trans (hb.mono HB3.out.size))
  replace HXx0 := Lib.hid (HXx0.out.stay (ksB hb))
  replace Hvg := Lib.hid (Hvg.out.stay (ksB hb))
  clear hb
  have htt0 := HSM0.out
  go_wp2_with fail
  refine (markPartS_f _ D0.length _ (1) _ HXx0.out (by rw [length_cells2]) (by omega) (by have := HSM0.out; omega)).mono ?_
  rintro e w9 ⟨rfl, hF, hM⟩
  clear hM
  clear HXx0
  replace HB := Lib.hid (HB.out.trans (hF.out.low (B := w.heap.size) (fun b h => by have := h.1; omega) HB.out.size))
  replace HB3 := Lib.hid (HB3.out.trans (hF.out.low (B := w3.heap.size) (fun b h => by have := h.1; omega) HB3.out.size))
  replace Hvg := Lib.hid (Hvg.out.stay (hF.out.ks.mono fun b h1 h2 => by have := h1; have := h2.2; omega))
  clear hF
  obtain ⟨k0, hk0⟩ : ∃ k : Int, k = 1 + 2 * D0.length := ⟨_, rfl⟩
  rw [← hk0]
  have hk00 : 1 ≤ k0 := by omega
  have hk10 : k0 ≤ 1099512676400 := by omega
  clear hk0
  go_wp2_with fail
  refine (eqIntS_c _ _ Q _ (by have := Hvg.out.fl; unfold Ints; rw [← Hql.out]; exact this) (by have := (HW3.out.stay (kpL HB3.out)); unfold Ints; rw [← Hql.out]; exact this)).mono ?_
  rintro e w10 ⟨bq, rfl, hb, hq0⟩
  cases bq
  · exact (hbF hq0 trivial).elim
  clear hq0
  replace HB := Lib.hid (HB.out.trans (hb.mono HB.out.size))
  replace HB3 := Lib.hid (HB3.out.trans (hb.mono HB3.out.size))
  replace Hvg := Lib.hid (Hvg.out.stay (ksB hb))
  clear hb
  go_wp2_with fail
  refine (markIntS_f _ q _ 1 _ Hvg.out (by rw [List.length_map]; exact Hql.out.symm) (by omega) (by omega)).mono ?_
  rintro e w11 ⟨rfl, hF, hM⟩
  clear Hvg
  replace HB := Lib.hid (HB.out.trans (hF.out.low (B := w.heap.size) (fun b h => by have h0 := h; omega) HB.out.size))
  replace HB3 := Lib.hid (HB3.out.trans (hF.out.low (B := w3.heap.size) (fun b h => by have h0 := h; omega) HB3.out.size))
  have HM := Lib.hid hM.out; clear hM hF
  obtain ⟨kr, hkr⟩ : ∃ k : Int, k = 1 + (q : Int) := ⟨_, rfl⟩
  have hkr0 : 0 ≤ kr := by omega
  have hkr1 : kr ≤ 4000000000000 := by omega
  rw [← hkr]
  have hne := bneS kr
  go_wp2_with fail
  refine (heldIntS_c _ q 1 _ (FlW.fl HM.out) (by omega) (by omega)).mono ?_
  rintro e w' ⟨rfl, rfl⟩
  rw [← hkr]
  go_wp2_with fail
  refine (toPartS_c _ D0 _ (H0.out.stay (kpB HB.out)) HSM0.out).mono ?_
  rintro e w12 ⟨zn0, rfl, hb, hd⟩
  replace HB := Lib.hid (HB.out.trans (hb.mono HB.out.size))
  replace HB3 := Lib.hid (HB3.out.trans (hb.mono HB3.out.size))
  replace HM := Lib.hid (HM.out.stay (ksB hb))
  have hzcz0 := hb.size; clear hb
  have HXz0 : Hid (Pairs (fun _ => True) w12 zn0 D0) := hd.out.fl.mono (fun _ _ => trivial); clear hd
  obtain ⟨az0, cz0, rfl, _⟩ := HXz0.out.shape
  go_wp2_with fail
  refine (LastPlaces_w _ D0 _ HXz0.out).mono ?_
  rintro e w13 ⟨vh, rfl, hb, hvh⟩
  rw [hQ.out] at hvh
  have hzvh := hb.size
  replace HB := Lib.hid (HB.out.trans (hb.mono HB.out.size))
  replace HB3 := Lib.hid (HB3.out.trans (hb.mono HB3.out.size))
  replace HM := Lib.hid (HM.out.stay (ksB hb))
  replace HXz0 := Lib.hid (HXz0.out.stay (kpB hb))
  clear hb
  have Hvh := Lib.hid hvh.out; clear hvh
  rw [← Hql.out] at Hvh
  obtain ⟨avh, cvh, rfl, _⟩ := Hvh.out.shape
  clear HXz0
  go_wp2_with fail
  refine (eqIntS_c _ _ Q _ (by have := Hvh.out.fl; unfold Ints; rw [← Hql.out]; exact this) (by have := (HW3.out.stay (kpL HB3.out)); unfold Ints; rw [← Hql.out]; exact this)).mono ?_
  rintro e w14 ⟨bq, rfl, hb, hq0⟩
  cases bq
  · exact (hbF hq0 trivial).elim
  clear hq0
  replace HB := Lib.hid (HB.out.trans (hb.mono HB.out.size))
  replace HB3 := Lib.hid (HB3.out.trans (hb.mono HB3.out.size))
  replace HM := Lib.hid (HM.out.stay (ksB hb))
  replace Hvh := Lib.hid (Hvh.out.stay (ksB hb))
  clear hb
  clear Hvh
  go_wp2_with fail
  refine (heldIntS_c _ q 1 _ (FlW.fl HM.out) (by omega) (by omega)).mono ?_
  rintro e w' ⟨rfl, rfl⟩
  rw [← hkr]
  have hfin := HB0.out.trans (HB.out.mono HB0.out.size)
  go_wp2
  go_ret
  exact ⟨rfl, hfin⟩
end Go.Proofs.Ytgihihnbapnnjaa.fnExactLastPlaces
