/- FnExactPositionNfa answers true: the walk. -/
import Derived.Test.YtnjddneelkdmoaaPim
import Derived.Test.YtnjddneelkdmoaaSpi
import Derived.Test.YtnjddneelkdmoaaGC
import Derived.Test.YtnjddneelkdmoaaNfp
import Derived.Test.YtnjddneelkdmoaaLae
import Derived.Deep.RegionHeld3
set_option linter.unusedSimpArgs false
set_option linter.unusedVariables false
set_option linter.unusedSectionVars false
namespace Go.Proofs.Ytnjddneelkdmoaa.fnExactPositionNfa
open Go.RowKit
set_option maxRecDepth 100000

theorem ppSmall (e : List (Int × Int)) : smallW (ppN e) := by
  have hs0 : smallW nfa0 := by unfold smallW nfa0; simp
  unfold ppN
  split
  · rename_i t _
    show smallW (posN t)
    unfold posN
    split
    · exact chkSmall' _
    · exact hs0
  · exact hs0
set_option maxHeartbeats 2000000 in
theorem walk (w : World) (v0 : Value) (D0 : List (Int × Int)) (h0 : Pairs (fun _ => True) w v0 D0) :
    Calls Try.prog 10 #[v0] w (Yes w) := by
  obtain ⟨a0, c0, rfl, hn0⟩ := h0.shape
  have H0 := Lib.hid h0; clear h0
  have HB0 : Hid (Below w.heap.size w w) := Below.refl _ _
  go_enter Try.func10, Try.ntmps10
  have HB : Hid (Below w.heap.size w w) := Below.refl _ _
  go_wp2_with fail
  refine (szPartS_c _ D0 _ _ (H0.out.stay (kpB HB.out)) (by omega) (by omega)).mono ?_
  rintro e w1 ⟨m0, rfl, hb, hm⟩
  replace HB := Lib.hid (HB.out.trans (hb.mono HB.out.size))
  clear hb
  rcases hm.out with rfl | ⟨hm0_0, hm1_0, hsml0⟩
  · clear hm
    go_wp2
    go_ret
    exact ⟨rfl, HB0.out.trans (HB.out.mono HB0.out.size)⟩
  have HSM0 := Lib.hid hsml0; clear hsml0 hm
  skip
  have HSmall : Hid (smallW (ppN D0)) := ppSmall D0
  obtain ⟨q, hq⟩ : ∃ q : NfaD, Hid (ppN D0 = q) := ⟨_, rfl⟩
  rw [hq.out] at HSmall
  obtain ⟨x, hx⟩ : ∃ x, x = q.states := ⟨_, rfl⟩
  have Hx := Lib.hid hx; clear hx
  obtain ⟨zb, hzb⟩ : ∃ b : Bool, Hid (ppB D0 = b) := ⟨_, rfl⟩
  have hneb := bneSelf zb
  go_wp2_with fail
  refine (toPartS_c _ D0 _ (H0.out.stay (kpB HB.out)) HSM0.out).mono ?_
  rintro e w2 ⟨yn0, rfl, hb, hd⟩
  replace HB := Lib.hid (HB.out.trans (hb.mono HB.out.size))
  have hzcy0 := hb.size; clear hb
  have HXy0 : Hid (Pairs (fun _ => True) w2 yn0 D0) := hd.out.fl.mono (fun _ _ => trivial); clear hd
  obtain ⟨ay0, cy0, rfl, _⟩ := HXy0.out.shape
  go_wp2_with fail
  refine (sPositionNfa_c _ D0 _ HXy0.out HSM0.out).mono ?_
  rintro e w3 ⟨vw1, vw2, vw3, rfl, hb, hvw⟩
  rw [hq.out] at hvw ⊢
  rw [← Hx.out]
  rw [hzb.out]
  have hzvw := hb.size
  replace HB := Lib.hid (HB.out.trans (hb.mono HB.out.size))
  replace HXy0 := Lib.hid (HXy0.out.stay (kpB hb))
  clear hb
  have Hvw := Lib.hid hvw.out.e; clear hvw
  obtain ⟨avw, cvw, bvw, dvw, fvw, gvw, rfl, rfl, rfl, _, _, _⟩ := Hvw.out.rd.shapes
  clear HXy0
  have HB3 : Hid (Below w3.heap.size w3 w3) := Below.refl _ _
  have HW3 := Lib.hid ((NfaR.inHeap Hvw.out.rd).mono (T := (· < w3.heap.size)) (fun b h => h.2)); clear Hvw
  obtain ⟨w4, hw4⟩ : ∃ w4, w4 = w3.alloc (.cells #[.int .i64 x, .slice avw q.moves.length cvw, .slice bvw q.firsts.length dvw, .slice fvw q.ends.length gvw] 36) := ⟨_, rfl⟩
  have hbw4 : Below w3.heap.size w3 w4 := by rw [hw4]; exact (Below.refl _ _).alloc (Nat.le_refl _) _
  have KW : Hid (w4.heap[w3.heap.size]? = some (.cells #[.int .i64 x, .slice avw q.moves.length cvw, .slice bvw q.firsts.length dvw, .slice fvw q.ends.length gvw] 36 (0, 0))) := by rw [hw4]; exact blkNew _ _ rfl
  have Hw4 := Lib.hid hw4; clear hw4
  go_wp2_with fail
  rw [← Hw4.out]
  replace HB := Lib.hid (HB.out.trans (hbw4.mono HB.out.size))
  replace HB3 := Lib.hid (HB3.out.trans (hbw4.mono HB3.out.size))
  clear hbw4
  have hWl0 := HB.out.size
  have h3l0 := HB3.out.size
  have hwl0 := (Array.getElem?_eq_some_iff.1 KW.out).1
  refine (toPartS_c _ D0 _ (H0.out.stay (kpB HB.out)) HSM0.out).mono ?_
  rintro e w5 ⟨xn0, rfl, hb, hd⟩
  replace HB := Lib.hid (HB.out.trans (hb.mono HB.out.size))
  replace HB3 := Lib.hid (HB3.out.trans (hb.mono HB3.out.size))
  replace KW := Lib.hid (blkBel hb KW.out)
  have hzx0 := hb.size; clear hb
  have HXx0 : Hid (FlW (fun b => w4.heap.size ≤ b ∧ b < w5.heap.size) w5 xn0 D0.length (cells2 D0)) := madeR hd.out; clear hd
  obtain ⟨ax0, cx0, rfl, _⟩ := HXx0.out.shape
  obtain ⟨KW_0, KW_1, KW_2, KW_3⟩ := blk4 KW.out
  have KW_l : w3.heap.size < w5.heap.size := (Array.getElem?_eq_some_iff.1 KW.out).1
  go_wp2_with fail
  clear KW_0 KW_1 KW_2 KW_3 KW_l
  have hWg := HB.out.size
  have h3g := HB3.out.size
  have hwg := (Array.getElem?_eq_some_iff.1 KW.out).1
  refine (PositionNfa_c _ D0 _ HXx0.out.fl).mono ?_
  rintro e w6 ⟨vg1, vg2, vg3, rfl, hb, hvg⟩
  rw [hq.out] at hvg ⊢
  rw [← Hx.out]
  rw [hzb.out]
  have hzvg := hb.size
  replace HB := Lib.hid (HB.out.trans (hb.mono HB.out.size))
  replace HB3 := Lib.hid (HB3.out.trans (hb.mono HB3.out.size))
  replace KW := Lib.hid (blkBel hb KW.out)
  replace HXx0 := Lib.hid (HXx0.out.stay (ksB hb))
  clear hb
  have Hvg := Lib.hid hvg.out.e; clear hvg
  obtain ⟨avg, cvg, bvg, dvg, fvg, gvg, rfl, rfl, rfl, _, _, _⟩ := Hvg.out.rd.shapes
  obtain ⟨KW_0, KW_1, KW_2, KW_3⟩ := blk4 KW.out
  have KW_l : w3.heap.size < w6.heap.size := (Array.getElem?_eq_some_iff.1 KW.out).1
  obtain ⟨w7, hw7⟩ : ∃ w7, w7 = w6.alloc (.cells #[.int .i64 x, .slice avg q.moves.length cvg, .slice bvg q.firsts.length dvg, .slice fvg q.ends.length gvg] 36) := ⟨_, rfl⟩
  have hbw7 : Below w6.heap.size w6 w7 := by rw [hw7]; exact (Below.refl _ _).alloc (Nat.le_refl _) _
  have KG : Hid (w7.heap[w6.heap.size]? = some (.cells #[.int .i64 x, .slice avg q.moves.length cvg, .slice bvg q.firsts.length dvg, .slice fvg q.ends.length gvg] 36 (0, 0))) := by rw [hw7]; exact blkNew _ _ rfl
  have Hw7 := Lib.hid hw7; clear hw7
  go_wp2_with fail
  rw [← Hw7.out]
  clear KW_0 KW_1 KW_2 KW_3 KW_l
  replace HB := Lib.hid (HB.out.trans (hbw7.mono HB.out.size))
  replace HB3 := Lib.hid (HB3.out.trans (hbw7.mono HB3.out.size))
  replace KW := Lib.hid (blkBel hbw7 KW.out)
  replace HXx0 := Lib.hid (HXx0.out.stay (ksB hbw7))
  replace Hvg := Lib.hid (Hvg.out.stay hbw7.size (ksB hbw7))
  clear hbw7
  refine (eqNfa_e x _ _ _ _ _ _ q _ Hx Hvg.out.rd (HW3.out.stay (kpL HB3.out))).mono ?_
  rintro e w8 ⟨bq, rfl, hb, hq0⟩
  cases bq
  · exact (hbF hq0 trivial).elim
  clear hq0
  replace HB := Lib.hid (HB.out.trans (hb.mono HB.out.size))
  replace HB3 := Lib.hid (HB3.out.trans (hb.mono HB3.out.size))
  replace KW := Lib.hid (blkBel hb KW.out)
  replace HXx0 := Lib.hid (HXx0.out.stay (ksB hb))
  replace Hvg := Lib.hid (Hvg.out.stay hb.size (ksB hb))
  replace KG := Lib.hid (blkBel hb KG.out)
  clear hb
  obtain ⟨KW_0, KW_1, KW_2, KW_3⟩ := blk4 KW.out
  have KW_l : w3.heap.size < w8.heap.size := (Array.getElem?_eq_some_iff.1 KW.out).1
  obtain ⟨KG_0, KG_1, KG_2, KG_3⟩ := blk4 KG.out
  have KG_l : w6.heap.size < w8.heap.size := (Array.getElem?_eq_some_iff.1 KG.out).1
  go_wp2_with fail
  clear KW_0 KW_1 KW_2 KW_3 KW_l KG_0 KG_1 KG_2 KG_3 KG_l
  refine (toPartS_c _ D0 _ (H0.out.stay (kpB HB.out)) HSM0.out).mono ?_
  rintro e w9 ⟨tn0, rfl, hb, hd⟩
  replace HB := Lib.hid (HB.out.trans (hb.mono HB.out.size))
  replace HB3 := Lib.hid (HB3.out.trans (hb.mono HB3.out.size))
  replace KW := Lib.hid (blkBel hb KW.out)
  replace HXx0 := Lib.hid (HXx0.out.stay (ksB hb))
  replace Hvg := Lib.hid (Hvg.out.stay hb.size (ksB hb))
  replace KG := Lib.hid (blkBel hb KG.out)
  clear hb
  have HXt0 : Hid (Pairs (fun _ => True) w9 tn0 D0) := hd.out.fl.mono (fun _ _ => trivial); clear hd
  obtain ⟨at0, ct0, rfl, _⟩ := HXt0.out.shape
  obtain ⟨KW_0, KW_1, KW_2, KW_3⟩ := blk4 KW.out
  have KW_l : w3.heap.size < w9.heap.size := (Array.getElem?_eq_some_iff.1 KW.out).1
  obtain ⟨KG_0, KG_1, KG_2, KG_3⟩ := blk4 KG.out
  have KG_l : w6.heap.size < w9.heap.size := (Array.getElem?_eq_some_iff.1 KG.out).1
  go_wp2_with fail
  clear KW_0 KW_1 KW_2 KW_3 KW_l KG_0 KG_1 KG_2 KG_3 KG_l
  refine (eqPartS_c _ _ D0 _ HXx0.out.fl HXt0.out).mono ?_
  rintro e w10 ⟨bq, rfl, hb, hq0⟩
  cases bq
  · exact (hbF hq0 trivial).elim
  clear hq0 HXt0
  replace HB := Lib.hid (HB.out.trans (hb.mono HB.out.size))
  replace HB3 := Lib.hid (HB3.out.trans (hb.mono HB3.out.size))
  replace KW := Lib.hid (blkBel hb KW.out)
  replace HXx0 := Lib.hid (HXx0.out.stay (ksB hb))
  replace Hvg := Lib.hid (Hvg.out.stay hb.size (ksB hb))
  replace KG := Lib.hid (blkBel hb KG.out)
  clear hb
  obtain ⟨KW_0, KW_1, KW_2, KW_3⟩ := blk4 KW.out
  have KW_l : w3.heap.size < w10.heap.size := (Array.getElem?_eq_some_iff.1 KW.out).1
  obtain ⟨KG_0, KG_1, KG_2, KG_3⟩ := blk4 KG.out
  have KG_l : w6.heap.size < w10.heap.size := (Array.getElem?_eq_some_iff.1 KG.out).1
  have htt0 := HSM0.out
  go_wp2_with fail
  clear KW_0 KW_1 KW_2 KW_3 KW_l KG_0 KG_1 KG_2 KG_3 KG_l
  refine (markPartS_f _ D0.length _ (1) _ HXx0.out (by rw [length_cells2]) (by omega) (by have := HSM0.out; omega)).mono ?_
  rintro e w11 ⟨rfl, hF, hM⟩
  clear hM
  clear HXx0
  replace HB := Lib.hid (HB.out.trans (hF.out.low (B := w.heap.size) (fun b h => by have := h.1; omega) HB.out.size))
  replace HB3 := Lib.hid (HB3.out.trans (hF.out.low (B := w3.heap.size) (fun b h => by have := h.1; omega) HB3.out.size))
  replace KW : Hid (w11.heap[w3.heap.size]? = _) := (hF.out.block _ (Array.getElem?_eq_some_iff.1 KW.out).1 (fun h => by have h1 := h.1; have h2 := h.2; omega)).trans KW.out
  replace Hvg := Lib.hid (Hvg.out.stay hF.out.size (hF.out.ks.mono fun b h1 h2 => by have := h1.1; have := h2.2; omega))
  replace KG : Hid (w11.heap[w6.heap.size]? = _) := (hF.out.block _ (Array.getElem?_eq_some_iff.1 KG.out).1 (fun h => by have h1 := h.1; have h2 := h.2; omega)).trans KG.out
  clear hF
  obtain ⟨KW_0, KW_1, KW_2, KW_3⟩ := blk4 KW.out
  have KW_l : w3.heap.size < w11.heap.size := (Array.getElem?_eq_some_iff.1 KW.out).1
  obtain ⟨KG_0, KG_1, KG_2, KG_3⟩ := blk4 KG.out
  have KG_l : w6.heap.size < w11.heap.size := (Array.getElem?_eq_some_iff.1 KG.out).1
  obtain ⟨k0, hk0⟩ : ∃ k : Int, k = 1 + 2 * D0.length := ⟨_, rfl⟩
  rw [← hk0]
  have hk00 : 1 ≤ k0 := by omega
  have hk10 : k0 ≤ 1099512676400 := by omega
  clear hk0
  go_wp2_with fail
  clear KW_0 KW_1 KW_2 KW_3 KW_l KG_0 KG_1 KG_2 KG_3 KG_l
  refine (eqNfa_e x _ _ _ _ _ _ q _ Hx Hvg.out.rd (HW3.out.stay (kpL HB3.out))).mono ?_
  rintro e w12 ⟨bq, rfl, hb, hq0⟩
  cases bq
  · exact (hbF hq0 trivial).elim
  clear hq0
  replace HB := Lib.hid (HB.out.trans (hb.mono HB.out.size))
  replace HB3 := Lib.hid (HB3.out.trans (hb.mono HB3.out.size))
  replace KW := Lib.hid (blkBel hb KW.out)
  replace Hvg := Lib.hid (Hvg.out.stay hb.size (ksB hb))
  replace KG := Lib.hid (blkBel hb KG.out)
  clear hb
  obtain ⟨KW_0, KW_1, KW_2, KW_3⟩ := blk4 KW.out
  have KW_l : w3.heap.size < w12.heap.size := (Array.getElem?_eq_some_iff.1 KW.out).1
  obtain ⟨KG_0, KG_1, KG_2, KG_3⟩ := blk4 KG.out
  have KG_l : w6.heap.size < w12.heap.size := (Array.getElem?_eq_some_iff.1 KG.out).1
  go_wp2_with fail
  clear KW_0 KW_1 KW_2 KW_3 KW_l KG_0 KG_1 KG_2 KG_3 KG_l
  have hsr : ∀ b : Nat, (w5.heap.size ≤ b ∧ b < w6.heap.size) → b < w12.heap.size := fun b hb => by have := hb.2; have := (Array.getElem?_eq_some_iff.1 KG.out).1; omega
  refine (markNfa_e _ _ _ _ q 1 _ Hvg.out hsr (by omega) HSmall.out).mono ?_
  rintro e w13 ⟨rfl, hF, hM⟩
  clear hsr
  clear Hvg
  replace HB := Lib.hid (HB.out.trans (hF.out.low (B := w.heap.size) (fun b h => by have := h.1; omega) HB.out.size))
  replace HB3 := Lib.hid (HB3.out.trans (hF.out.low (B := w3.heap.size) (fun b h => by have := h.1; omega) HB3.out.size))
  replace KW : Hid (w13.heap[w3.heap.size]? = _) := (hF.out.block _ (Array.getElem?_eq_some_iff.1 KW.out).1 (fun h => by have h1 := h.1; have h2 := h.2; omega)).trans KW.out
  replace KG : Hid (w13.heap[w6.heap.size]? = _) := (hF.out.block _ (Array.getElem?_eq_some_iff.1 KG.out).1 (fun h => by have h1 := h.1; have h2 := h.2; omega)).trans KG.out
  have HM := Lib.hid hM.out; clear hM hF
  obtain ⟨KW_0, KW_1, KW_2, KW_3⟩ := blk4 KW.out
  have KW_l : w3.heap.size < w13.heap.size := (Array.getElem?_eq_some_iff.1 KW.out).1
  obtain ⟨KG_0, KG_1, KG_2, KG_3⟩ := blk4 KG.out
  have KG_l : w6.heap.size < w13.heap.size := (Array.getElem?_eq_some_iff.1 KG.out).1
  have htq := HSmall.out.1; have htq2 := HSmall.out.2.1; have htq3 := HSmall.out.2.2
  obtain ⟨kr, hkr⟩ : ∃ k : Int, k = 1 + 3 * (q.moves.length : Int) + (q.firsts.length : Int) + (q.ends.length : Int) := ⟨_, rfl⟩
  have hkr0 : 0 ≤ kr := by omega
  have hkr1 : kr ≤ 4000000000000 := by omega
  rw [← hkr]
  have hne := bneS kr
  go_wp2_with fail
  clear KW_0 KW_1 KW_2 KW_3 KW_l KG_0 KG_1 KG_2 KG_3 KG_l
  refine (heldNfa_e _ _ _ _ q 1 _ HM.out (by omega) HSmall.out).mono ?_
  rintro e w14 ⟨rfl, hb⟩
  replace HB := Lib.hid (HB.out.trans (hb.mono HB.out.size))
  replace HB3 := Lib.hid (HB3.out.trans (hb.mono HB3.out.size))
  replace KW := Lib.hid (blkBel hb KW.out)
  replace KG := Lib.hid (blkBel hb KG.out)
  replace HM := Lib.hid (HM.out.stay hb)
  clear hb
  rw [← hkr]
  obtain ⟨KW_0, KW_1, KW_2, KW_3⟩ := blk4 KW.out
  have KW_l : w3.heap.size < w14.heap.size := (Array.getElem?_eq_some_iff.1 KW.out).1
  obtain ⟨KG_0, KG_1, KG_2, KG_3⟩ := blk4 KG.out
  have KG_l : w6.heap.size < w14.heap.size := (Array.getElem?_eq_some_iff.1 KG.out).1
  go_wp2_with fail
  clear KW_0 KW_1 KW_2 KW_3 KW_l KG_0 KG_1 KG_2 KG_3 KG_l
  refine (toPartS_c _ D0 _ (H0.out.stay (kpB HB.out)) HSM0.out).mono ?_
  rintro e w15 ⟨zn0, rfl, hb, hd⟩
  replace HB := Lib.hid (HB.out.trans (hb.mono HB.out.size))
  replace HB3 := Lib.hid (HB3.out.trans (hb.mono HB3.out.size))
  replace KW := Lib.hid (blkBel hb KW.out)
  replace KG := Lib.hid (blkBel hb KG.out)
  replace HM := Lib.hid (HM.out.stay hb)
  have hzcz0 := hb.size; clear hb
  have HXz0 : Hid (Pairs (fun _ => True) w15 zn0 D0) := hd.out.fl.mono (fun _ _ => trivial); clear hd
  obtain ⟨az0, cz0, rfl, _⟩ := HXz0.out.shape
  obtain ⟨KW_0, KW_1, KW_2, KW_3⟩ := blk4 KW.out
  have KW_l : w3.heap.size < w15.heap.size := (Array.getElem?_eq_some_iff.1 KW.out).1
  obtain ⟨KG_0, KG_1, KG_2, KG_3⟩ := blk4 KG.out
  have KG_l : w6.heap.size < w15.heap.size := (Array.getElem?_eq_some_iff.1 KG.out).1
  go_wp2_with fail
  clear KW_0 KW_1 KW_2 KW_3 KW_l KG_0 KG_1 KG_2 KG_3 KG_l
  refine (PositionNfa_c _ D0 _ HXz0.out).mono ?_
  rintro e w16 ⟨vh1, vh2, vh3, rfl, hb, hvh⟩
  rw [hq.out] at hvh ⊢
  rw [← Hx.out]
  rw [hzb.out]
  have hzvh := hb.size
  replace HB := Lib.hid (HB.out.trans (hb.mono HB.out.size))
  replace HB3 := Lib.hid (HB3.out.trans (hb.mono HB3.out.size))
  replace KW := Lib.hid (blkBel hb KW.out)
  replace KG := Lib.hid (blkBel hb KG.out)
  replace HM := Lib.hid (HM.out.stay hb)
  replace HXz0 := Lib.hid (HXz0.out.stay (kpB hb))
  clear hb
  have Hvh := Lib.hid hvh.out.e; clear hvh
  obtain ⟨avh, cvh, bvh, dvh, fvh, gvh, rfl, rfl, rfl, _, _, _⟩ := Hvh.out.rd.shapes
  clear HXz0
  obtain ⟨KW_0, KW_1, KW_2, KW_3⟩ := blk4 KW.out
  have KW_l : w3.heap.size < w16.heap.size := (Array.getElem?_eq_some_iff.1 KW.out).1
  obtain ⟨KG_0, KG_1, KG_2, KG_3⟩ := blk4 KG.out
  have KG_l : w6.heap.size < w16.heap.size := (Array.getElem?_eq_some_iff.1 KG.out).1
  obtain ⟨w17, hw17⟩ : ∃ w17, w17 = w16.alloc (.cells #[.int .i64 x, .slice avh q.moves.length cvh, .slice bvh q.firsts.length dvh, .slice fvh q.ends.length gvh] 36) := ⟨_, rfl⟩
  have hbw17 : Below w16.heap.size w16 w17 := by rw [hw17]; exact (Below.refl _ _).alloc (Nat.le_refl _) _
  have KH : Hid (w17.heap[w16.heap.size]? = some (.cells #[.int .i64 x, .slice avh q.moves.length cvh, .slice bvh q.firsts.length dvh, .slice fvh q.ends.length gvh] 36 (0, 0))) := by rw [hw17]; exact blkNew _ _ rfl
  have Hw17 := Lib.hid hw17; clear hw17
  go_wp2_with fail
  rw [← Hw17.out]
  clear KW_0 KW_1 KW_2 KW_3 KW_l KG_0 KG_1 KG_2 KG_3 KG_l
  replace HB := Lib.hid (HB.out.trans (hbw17.mono HB.out.size))
  replace HB3 := Lib.hid (HB3.out.trans (hbw17.mono HB3.out.size))
  replace KW := Lib.hid (blkBel hbw17 KW.out)
  replace KG := Lib.hid (blkBel hbw17 KG.out)
  replace HM := Lib.hid (HM.out.stay hbw17)
  replace Hvh := Lib.hid (Hvh.out.stay hbw17.size (ksB hbw17))
  clear hbw17
  refine (eqNfa_e x _ _ _ _ _ _ q _ Hx Hvh.out.rd (HW3.out.stay (kpL HB3.out))).mono ?_
  rintro e w18 ⟨bq, rfl, hb, hq0⟩
  cases bq
  · exact (hbF hq0 trivial).elim
  clear hq0
  replace HB := Lib.hid (HB.out.trans (hb.mono HB.out.size))
  replace HB3 := Lib.hid (HB3.out.trans (hb.mono HB3.out.size))
  replace KW := Lib.hid (blkBel hb KW.out)
  replace KG := Lib.hid (blkBel hb KG.out)
  replace HM := Lib.hid (HM.out.stay hb)
  replace Hvh := Lib.hid (Hvh.out.stay hb.size (ksB hb))
  replace KH := Lib.hid (blkBel hb KH.out)
  clear hb
  obtain ⟨KW_0, KW_1, KW_2, KW_3⟩ := blk4 KW.out
  have KW_l : w3.heap.size < w18.heap.size := (Array.getElem?_eq_some_iff.1 KW.out).1
  obtain ⟨KG_0, KG_1, KG_2, KG_3⟩ := blk4 KG.out
  have KG_l : w6.heap.size < w18.heap.size := (Array.getElem?_eq_some_iff.1 KG.out).1
  obtain ⟨KH_0, KH_1, KH_2, KH_3⟩ := blk4 KH.out
  have KH_l : w16.heap.size < w18.heap.size := (Array.getElem?_eq_some_iff.1 KH.out).1
  clear Hvh
  go_wp2_with fail
  clear KW_0 KW_1 KW_2 KW_3 KW_l KG_0 KG_1 KG_2 KG_3 KG_l KH_0 KH_1 KH_2 KH_3 KH_l
  refine (heldNfa_e _ _ _ _ q 1 _ HM.out (by omega) HSmall.out).mono ?_
  rintro e w19 ⟨rfl, hb⟩
  replace HB := Lib.hid (HB.out.trans (hb.mono HB.out.size))
  replace HB3 := Lib.hid (HB3.out.trans (hb.mono HB3.out.size))
  replace KW := Lib.hid (blkBel hb KW.out)
  replace KG := Lib.hid (blkBel hb KG.out)
  replace HM := Lib.hid (HM.out.stay hb)
  replace KH := Lib.hid (blkBel hb KH.out)
  clear hb
  rw [← hkr]
  obtain ⟨KW_0, KW_1, KW_2, KW_3⟩ := blk4 KW.out
  have KW_l : w3.heap.size < w19.heap.size := (Array.getElem?_eq_some_iff.1 KW.out).1
  obtain ⟨KG_0, KG_1, KG_2, KG_3⟩ := blk4 KG.out
  have KG_l : w6.heap.size < w19.heap.size := (Array.getElem?_eq_some_iff.1 KG.out).1
  obtain ⟨KH_0, KH_1, KH_2, KH_3⟩ := blk4 KH.out
  have KH_l : w16.heap.size < w19.heap.size := (Array.getElem?_eq_some_iff.1 KH.out).1
  clear KW_0 KW_1 KW_2 KW_3 KW_l KG_0 KG_1 KG_2 KG_3 KG_l KH_0 KH_1 KH_2 KH_3 KH_l
  have hfin := HB0.out.trans (HB.out.mono HB0.out.size)
  go_wp2
  go_ret
  exact ⟨rfl, hfin⟩
end Go.Proofs.Ytnjddneelkdmoaa.fnExactPositionNfa
