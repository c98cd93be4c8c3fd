/- FnExactTokens answers true: the walk. -/
import Derived.Test.YthdbgpdidolmaaaTks
import Derived.Test.YthdbgpdidolmaaaScw
namespace Go.Proofs.Ythdbgpdidolmaaa.fnExactTokens
open Go.RowKit
set_option maxRecDepth 100000
set_option maxHeartbeats 4000000 in
theorem walk (w : World) (v0 : Value) (L0 : List DfaD) (h0 : DfaS (fun _ => True) w v0 L0) (s1 : ByteArray) (hs1 : s1.size ≤ maxLen) :
    Calls Try.prog 14 #[v0, .string s1] w (Yes w) := by
  obtain ⟨a, cap, rfl, hn⟩ := h0.shape
  have H := Lib.hid h0; clear h0
  have hsz : s1.size ≤ 9223372036854775807 := by unfold maxLen at hs1; exact hs1
  have HS := Lib.hid hs1; clear hs1
  by_cases h20 : s1.size ≤ 1048576
  rotate_left
  · go_enter Try.func14, Try.ntmps14
    go_wp2
    go_ret
    exact ⟨rfl, Below.refl _ _⟩
  have HL := Lib.hid (tks_len L0 s1)
  obtain ⟨⟨Q, r⟩, hq⟩ : ∃ q, q = tks L0 s1 := ⟨_, rfl⟩
  rw [← hq] at HL
  have HQ := Lib.hid hq; clear hq
  obtain ⟨q, hql⟩ : ∃ q : Nat, q = Q.length := ⟨_, rfl⟩
  have hq30 : q ≤ 30 := by rw [hql]; exact HL.out
  have Hql := Lib.hid hql; clear hql HL
  have hner := bneS r
  go_enter Try.func14, Try.ntmps14
  go_wp2_with fail
  refine (szDfaS_t _ L0 _ _ H.out (by omega) (by omega)).mono ?_
  rintro e w1 ⟨m0, rfl, hb1, hm⟩
  have HB := Lib.hid hb1; clear hb1
  rcases hm.out with rfl | ⟨hm0, hm1⟩
  · clear hm
    go_wp2
    go_ret
    exact ⟨rfl, HB.out⟩
  have hszL : L0.length + totD L0 ≤ 1048576 := by omega
  have HSZ := Lib.hid hszL
  have HSM := Lib.hid (szDS_small hszL); clear hszL hm1 hm
  go_wp2_with fail
  refine (toDfaS_c _ L0 _ (H.out.stay (kpB HB.out)) HSM.out).mono ?_
  rintro e w2 ⟨v2, rfl, hb2, hd2⟩
  replace HB := Lib.hid (HB.out.trans (hb2.mono HB.out.size)); clear hb2
  go_wp2_with fail
  refine (sTokens_c _ L0 s1 _ hd2.out HS.out).mono ?_
  rw [← HQ.out]
  rintro e w3 ⟨vw, rfl, hb3, hvw⟩
  replace HB := Lib.hid (HB.out.trans (hb3.mono HB.out.size)); clear hb3 hd2
  have Hvw : Hid (FlW (w2.heap.size ≤ ·) w3 vw Q.length (cells3 Q)) := ownFl hvw.out; clear hvw
  rw [← Hql.out] at Hvw
  obtain ⟨avw, cvw, rfl, _⟩ := Hvw.out.shape
  have HB3 : Hid (Below w3.heap.size w3 w3) := Below.refl _ _
  have HW3 := Lib.hid ((Fl.inHeap Hvw.out.fl).mono (T := (· < w3.heap.size)) (fun b h => h.2)); clear Hvw
  go_wp2_with fail
  have hz3 := HB.out.size
  refine (toDfaS_f _ L0 _ (H.out.stay (kpB HB.out)) HSM.out).mono ?_
  rintro e w4 ⟨vx, rfl, hb, hd⟩
  replace HB := Lib.hid (HB.out.trans (hb.mono HB.out.size))
  replace HB3 := Lib.hid (HB3.out.trans (hb.mono HB3.out.size)); 
  have hz4 := hb.size; clear hb
  have HX := Lib.hid hd.out; clear hd
  obtain ⟨ax, cx, rfl, _⟩ := HX.out.rd.shape
  go_wp2_with fail
  refine (Tokens_c _ L0 s1 _ HX.out.rd HS.out).mono ?_
  rw [← HQ.out]
  rintro e w5 ⟨vg, rfl, hb, hvg⟩
  replace HB := Lib.hid (HB.out.trans (hb.mono HB.out.size))
  replace HB3 := Lib.hid (HB3.out.trans (hb.mono HB3.out.size))
  replace HX := Lib.hid (HX.out.stay ((ksB hb).mono fun b h => trivial))
  have hz5 := hb.size; clear hb
  have Hvg : Hid (FlW (w4.heap.size ≤ ·) w5 vg Q.length (cells3 Q)) := ownFl hvg.out; clear hvg
  rw [← Hql.out] at Hvg
  obtain ⟨avg, cvg, rfl, _⟩ := Hvg.out.shape
  go_wp2_with fail
  refine (eqTokenS_c _ _ Q _ (by have := Hvg.out.fl; unfold Trips; rw [← Hql.out]; exact this) (by have := (HW3.out.stay (kpL HB3.out)); unfold Trips; rw [← Hql.out]; exact this)).mono ?_
  rintro e w6 ⟨bq, rfl, hb, hq0⟩
  cases bq
  · exact (hbF hq0 trivial).elim
  clear hq0
  replace HB := Lib.hid (HB.out.trans (hb.mono HB.out.size))
  replace HB3 := Lib.hid (HB3.out.trans (hb.mono HB3.out.size))
  replace HX := Lib.hid (HX.out.stay ((ksB hb).mono fun b h => trivial))
  replace Hvg := Lib.hid (Hvg.out.stay (ksB hb))
  have hz6 := hb.size; clear hb
  go_wp2_with fail
  refine (toDfaS_c _ L0 _ (H.out.stay (kpB HB.out)) HSM.out).mono ?_
  rintro e w7 ⟨v7, rfl, hb, hd7⟩
  replace HB := Lib.hid (HB.out.trans (hb.mono HB.out.size))
  replace HB3 := Lib.hid (HB3.out.trans (hb.mono HB3.out.size))
  replace HX := Lib.hid (HX.out.stay ((ksB hb).mono fun b h => trivial))
  replace Hvg := Lib.hid (Hvg.out.stay (ksB hb))
  have hz7 := hb.size; clear hb
  go_wp2_with fail
  refine (eqDfaS_c _ _ L0 _ HX.out.rd hd7.out).mono ?_
  rintro e w8 ⟨bq, rfl, hb, hq0⟩
  cases bq
  · exact (hbF hq0 trivial).elim
  clear hq0 hd7
  replace HB := Lib.hid (HB.out.trans (hb.mono HB.out.size))
  replace HB3 := Lib.hid (HB3.out.trans (hb.mono HB3.out.size))
  replace HX := Lib.hid (HX.out.stay ((ksB hb).mono fun b h => trivial))
  replace Hvg := Lib.hid (Hvg.out.stay (ksB hb))
  have hz8 := hb.size; clear hb
  go_wp2_with fail
  refine (markDfaS_f _ L0 1 _ HX.out (by omega) HSZ.out).mono ?_
  rintro e w9 ⟨mk, rfl, hmk0, hmk1, hF⟩
  clear HX
  replace HB := Lib.hid (HB.out.trans (hF.out.low (B := w.heap.size) (fun b h => by have := h.1; omega) HB.out.size))
  replace HB3 := Lib.hid (HB3.out.trans (hF.out.low (B := w3.heap.size) (fun b h => h.1) HB3.out.size))
  replace Hvg := Lib.hid (Hvg.out.stay (hF.out.ks.mono fun b h1 h2 => by have := h1; have := h2.2; omega))
  clear hF
  go_wp2_with fail
  refine (eqTokenS_c _ _ Q _ (by have := Hvg.out.fl; unfold Trips; rw [← Hql.out]; exact this) (by have := (HW3.out.stay (kpL HB3.out)); unfold Trips; rw [← Hql.out]; exact this)).mono ?_
  rintro e w10 ⟨bq, rfl, hb, hq0⟩
  cases bq
  · exact (hbF hq0 trivial).elim
  clear hq0
  replace HB := Lib.hid (HB.out.trans (hb.mono HB.out.size))
  replace HB3 := Lib.hid (HB3.out.trans (hb.mono HB3.out.size))
  replace Hvg := Lib.hid (Hvg.out.stay (ksB hb))
  clear hb
  go_wp2_with fail
  refine (markTokenS_f _ q _ 1 _ Hvg.out (by rw [length_cells3, ← Hql.out]) (by omega) (by omega)).mono ?_
  rintro e w11 ⟨rfl, hF, hM⟩
  clear Hvg
  replace HB := Lib.hid (HB.out.trans (hF.out.low (B := w.heap.size) (fun b h => by have h0 := h; omega) HB.out.size))
  replace HB3 := Lib.hid (HB3.out.trans (hF.out.low (B := w3.heap.size) (fun b h => by have h0 := h; omega) HB3.out.size))
  have HM := Lib.hid hM.out; clear hM hF
  obtain ⟨kr, hkr⟩ : ∃ k : Int, k = 1 + 3 * (q : Int) := ⟨_, rfl⟩
  have hkr0 : 0 ≤ kr := by omega
  have hkr1 : kr ≤ 4000000000000 := by omega
  rw [← hkr]
  have hne := bneS kr
  go_wp2_with fail
  refine (heldTokenS_c _ q 1 _ (FlW.fl HM.out) (by omega) (by omega)).mono ?_
  rintro e w' ⟨rfl, rfl⟩
  rw [← hkr]
  go_wp2_with fail
  refine (toDfaS_c _ L0 _ (H.out.stay (kpB HB.out)) HSM.out).mono ?_
  rintro e w12 ⟨v12, rfl, hb, hd12⟩
  replace HB := Lib.hid (HB.out.trans (hb.mono HB.out.size))
  replace HB3 := Lib.hid (HB3.out.trans (hb.mono HB3.out.size))
  replace HM := Lib.hid (HM.out.stay (ksB hb))
  clear hb
  go_wp2_with fail
  refine (Tokens_c _ L0 s1 _ hd12.out HS.out).mono ?_
  rw [← HQ.out]
  rintro e w13 ⟨vh, rfl, hb, hvh⟩
  replace HB := Lib.hid (HB.out.trans (hb.mono HB.out.size))
  replace HB3 := Lib.hid (HB3.out.trans (hb.mono HB3.out.size))
  replace HM := Lib.hid (HM.out.stay (ksB hb))
  clear hb hd12
  have Hvh : Hid (FlW (w12.heap.size ≤ ·) w13 vh Q.length (cells3 Q)) := ownFl hvh.out; clear hvh
  rw [← Hql.out] at Hvh
  obtain ⟨avh, cvh, rfl, _⟩ := Hvh.out.shape
  go_wp2_with fail
  refine (eqTokenS_c _ _ Q _ (by have := Hvh.out.fl; unfold Trips; rw [← Hql.out]; exact this) (by have := (HW3.out.stay (kpL HB3.out)); unfold Trips; rw [← Hql.out]; exact this)).mono ?_
  rintro e w14 ⟨bq, rfl, hb, hq0⟩
  cases bq
  · exact (hbF hq0 trivial).elim
  clear hq0
  replace HB := Lib.hid (HB.out.trans (hb.mono HB.out.size))
  replace HM := Lib.hid (HM.out.stay (ksB hb))
  clear hb Hvh
  go_wp2_with fail
  refine (heldTokenS_c _ q 1 _ (FlW.fl HM.out) (by omega) (by omega)).mono ?_
  rintro e w' ⟨rfl, rfl⟩
  rw [← hkr]
  go_wp2
  go_ret
  exact ⟨rfl, HB.out⟩
end Go.Proofs.Ythdbgpdidolmaaa.fnExactTokens
