/- FnExactNfaStar answers true: the walk. -/
import Derived.Test.YtgihihnbapnnjaaSts
import Derived.Test.YtgihihnbapnnjaaGC
import Derived.Test.YtgihihnbapnnjaaNfp
import Derived.Deep.RegionHeld3
set_option linter.unusedSimpArgs false
set_option linter.unusedVariables false
set_option linter.unusedSectionVars false
namespace Go.Proofs.Ytgihihnbapnnjaa.fnExactNfaStar
open Go.RowKit
set_option maxRecDepth 100000

set_option maxHeartbeats 2000000 in
theorem walk (w : World) (vm0 vn0 ve0 : Value) (D0 : NfaD) (h0 : NfaR (fun _ => True) w vm0 vn0 ve0 D0) :
    Calls Try.prog 6 #[.agg #[.int .i64 D0.states, vm0, vn0, ve0]] w (Yes w) := by
  obtain ⟨a0, c0, b0, d0, f0, g0, rfl, rfl, rfl, hn0, hm0, hl0⟩ := h0.shapes
  obtain ⟨W, hW⟩ : ∃ W, W = w.alloc (.cells #[.int .i64 D0.states, .slice a0 D0.moves.length c0, .slice b0 D0.firsts.length d0, .slice f0 D0.ends.length g0] 42) := ⟨_, rfl⟩
  have HB0 : Hid (Below w.heap.size w W) := by rw [hW]; exact (Below.refl _ _).alloc (Nat.le_refl _) _
  have K0 : Hid (W.heap[w.heap.size]? = some (.cells #[.int .i64 D0.states, .slice a0 D0.moves.length c0, .slice b0 D0.firsts.length d0, .slice f0 D0.ends.length g0] 42 (0, 0))) := by rw [hW]; exact blkNew _ _ (by simp)
  have hWw : w.heap.size + 1 ≤ W.heap.size := by rw [hW]; simp
  have H0 := Lib.hid (h0.stay (kpB HB0.out)); clear h0
  have HW := Lib.hid hW; clear hW
  go_enter Try.func6, Try.ntmps6
  have HB : Hid (Below W.heap.size W W) := Below.refl _ _
  go_wp2_with fail
  rw [← HW.out]
  refine (szNfa_c _ _ _ D0 _ _ (H0.out.stay (kpB HB.out)) (by omega) (by omega)).mono ?_
  rintro e w1 ⟨m0, rfl, hb, hm⟩
  replace HB := Lib.hid (HB.out.trans (hb.mono HB.out.size))
  replace K0 := Lib.hid (blkBel hb K0.out)
  clear hb
  obtain ⟨K0_0, K0_1, K0_2, K0_3⟩ := blk4 K0.out
  have K0_l : w.heap.size < w1.heap.size := (Array.getElem?_eq_some_iff.1 K0.out).1
  rcases hm.out with rfl | ⟨hm0_0, hm1_0, hsml0⟩
  · clear hm
    go_wp2
    go_ret
    exact ⟨rfl, HB0.out.trans (HB.out.mono HB0.out.size)⟩
  have HSM0 := Lib.hid hsml0; clear hsml0 hm
  clear K0_0 K0_1 K0_2 K0_3 K0_l
  obtain ⟨K0_0, K0_1, K0_2, K0_3⟩ := blk4 K0.out
  have K0_l : w.heap.size < w1.heap.size := (Array.getElem?_eq_some_iff.1 K0.out).1
  skip
  have HSmall : Hid (smallW (stN D0)) := stSmall D0
  obtain ⟨q, hq⟩ : ∃ q : NfaD, Hid (stN D0 = q) := ⟨_, rfl⟩
  rw [hq.out] at HSmall
  obtain ⟨x, hx⟩ : ∃ x, x = q.states := ⟨_, rfl⟩
  have Hx := Lib.hid hx; clear hx
  obtain ⟨zb, hzb⟩ : ∃ b : Bool, Hid (stB D0 = b) := ⟨_, rfl⟩
  have hneb := bneSelf zb
  go_wp2_with fail
  clear K0_0 K0_1 K0_2 K0_3 K0_l
  refine (toNfa_c _ _ _ D0 _ (H0.out.stay (kpB HB.out)) HSM0.out).mono ?_
  rintro e w2 ⟨ym0, yn0, ye0, rfl, hb, hd⟩
  replace HB := Lib.hid (HB.out.trans (hb.mono HB.out.size))
  replace K0 := Lib.hid (blkBel hb K0.out)
  have hzcy0 := hb.size; clear hb
  have HXy0 := Lib.hid hd.out.rd; clear hd
  obtain ⟨ay0, cy0, by0, dy0, fy0, gy0, rfl, rfl, rfl, _, _, _⟩ := HXy0.out.shapes
  obtain ⟨K0_0, K0_1, K0_2, K0_3⟩ := blk4 K0.out
  have K0_l : w.heap.size < w2.heap.size := (Array.getElem?_eq_some_iff.1 K0.out).1
  go_wp2_with fail
  clear K0_0 K0_1 K0_2 K0_3 K0_l
  refine (sNfaStar_c _ _ _ D0 _ HXy0.out).mono ?_
  rintro e w3 ⟨vw1, vw2, vw3, rfl, hb, hvw⟩
  rw [hq.out] at hvw ⊢
  rw [← Hx.out]
  rw [hzb.out]
  have hzvw := hb.size
  replace HB := Lib.hid (HB.out.trans (hb.mono HB.out.size))
  replace K0 := Lib.hid (blkBel hb K0.out)
  replace HXy0 := Lib.hid (HXy0.out.stay (kpB hb))
  clear hb
  have Hvw := Lib.hid hvw.out.e; clear hvw
  obtain ⟨avw, cvw, bvw, dvw, fvw, gvw, rfl, rfl, rfl, _, _, _⟩ := Hvw.out.rd.shapes
  clear HXy0
  have HB3 : Hid (Below w3.heap.size w3 w3) := Below.refl _ _
  have HW3 := Lib.hid ((NfaR.inHeap Hvw.out.rd).mono (T := (· < w3.heap.size)) (fun b h => h.2)); clear Hvw
  obtain ⟨K0_0, K0_1, K0_2, K0_3⟩ := blk4 K0.out
  have K0_l : w.heap.size < w3.heap.size := (Array.getElem?_eq_some_iff.1 K0.out).1
  obtain ⟨w4, hw4⟩ : ∃ w4, w4 = w3.alloc (.cells #[.int .i64 x, .slice avw q.moves.length cvw, .slice bvw q.firsts.length dvw, .slice fvw q.ends.length gvw] 46) := ⟨_, rfl⟩
  have hbw4 : Below w3.heap.size w3 w4 := by rw [hw4]; exact (Below.refl _ _).alloc (Nat.le_refl _) _
  have KW : Hid (w4.heap[w3.heap.size]? = some (.cells #[.int .i64 x, .slice avw q.moves.length cvw, .slice bvw q.firsts.length dvw, .slice fvw q.ends.length gvw] 46 (0, 0))) := by rw [hw4]; exact blkNew _ _ rfl
  have Hw4 := Lib.hid hw4; clear hw4
  -- copy 0
  go_wp2_with fail
  rw [← Hw4.out]
  clear K0_0 K0_1 K0_2 K0_3 K0_l
  replace HB := Lib.hid (HB.out.trans (hbw4.mono HB.out.size))
  replace K0 := Lib.hid (blkBel hbw4 K0.out)
  replace HB3 := Lib.hid (HB3.out.trans (hbw4.mono HB3.out.size))
  clear hbw4
  have hWl0 := HB.out.size
  have h3l0 := HB3.out.size
  have hwl0 := (Array.getElem?_eq_some_iff.1 KW.out).1
  refine (toNfa_c _ _ _ D0 _ (H0.out.stay (kpB HB.out)) HSM0.out).mono ?_
  rintro e w5 ⟨xm0, xn0, xe0, rfl, hb, hd⟩
  replace HB := Lib.hid (HB.out.trans (hb.mono HB.out.size))
  replace K0 := Lib.hid (blkBel hb K0.out)
  replace HB3 := Lib.hid (HB3.out.trans (hb.mono HB3.out.size))
  replace KW := Lib.hid (blkBel hb KW.out)
  have hzx0 := hb.size; clear hb
  have HXx0 := Lib.hid hd.out; clear hd
  obtain ⟨ax0, cx0, bx0, dx0, fx0, gx0, rfl, rfl, rfl, _, _, _⟩ := HXx0.out.rd.shapes
  obtain ⟨K0_0, K0_1, K0_2, K0_3⟩ := blk4 K0.out
  have K0_l : w.heap.size < w5.heap.size := (Array.getElem?_eq_some_iff.1 K0.out).1
  obtain ⟨KW_0, KW_1, KW_2, KW_3⟩ := blk4 KW.out
  have KW_l : w3.heap.size < w5.heap.size := (Array.getElem?_eq_some_iff.1 KW.out).1
  obtain ⟨w6, hw6⟩ : ∃ w6, w6 = w5.alloc (.cells #[.int .i64 D0.states, .slice ax0 D0.moves.length cx0, .slice bx0 D0.firsts.length dx0, .slice fx0 D0.ends.length gx0] 46) := ⟨_, rfl⟩
  have hbw6 : Below w5.heap.size w5 w6 := by rw [hw6]; exact (Below.refl _ _).alloc (Nat.le_refl _) _
  have KX0 : Hid (w6.heap[w5.heap.size]? = some (.cells #[.int .i64 D0.states, .slice ax0 D0.moves.length cx0, .slice bx0 D0.firsts.length dx0, .slice fx0 D0.ends.length gx0] 46 (0, 0))) := by rw [hw6]; exact blkNew _ _ rfl
  have Hw6 := Lib.hid hw6; clear hw6
  go_wp2_with fail
  rw [← Hw6.out]
  clear K0_0 K0_1 K0_2 K0_3 K0_l KW_0 KW_1 KW_2 KW_3 KW_l
  replace HB := Lib.hid (HB.out.trans (hbw6.mono HB.out.size))
  replace K0 := Lib.hid (blkBel hbw6 K0.out)
  replace HB3 := Lib.hid (HB3.out.trans (hbw6.mono HB3.out.size))
  replace KW := Lib.hid (blkBel hbw6 KW.out)
  replace HXx0 := Lib.hid (HXx0.out.stay (ksB hbw6))
  clear hbw6
  have hWg := HB.out.size
  have h3g := HB3.out.size
  have hxg0 := (Array.getElem?_eq_some_iff.1 KX0.out).1
  have hwg := (Array.getElem?_eq_some_iff.1 KW.out).1
  refine (NfaStar_c _ _ _ D0 _ HXx0.out.rd).mono ?_
  rintro e w7 ⟨vg1, vg2, vg3, rfl, hb, hvg⟩
  rw [hq.out] at hvg ⊢
  rw [← Hx.out]
  rw [hzb.out]
  have hzvg := hb.size
  replace HB := Lib.hid (HB.out.trans (hb.mono HB.out.size))
  replace K0 := Lib.hid (blkBel hb K0.out)
  replace HB3 := Lib.hid (HB3.out.trans (hb.mono HB3.out.size))
  replace KW := Lib.hid (blkBel hb KW.out)
  replace HXx0 := Lib.hid (HXx0.out.stay (ksB hb))
  replace KX0 := Lib.hid (blkBel hb KX0.out)
  clear hb
  have Hvg := Lib.hid hvg.out.e; clear hvg
  obtain ⟨avg, cvg, bvg, dvg, fvg, gvg, rfl, rfl, rfl, _, _, _⟩ := Hvg.out.rd.shapes
  obtain ⟨K0_0, K0_1, K0_2, K0_3⟩ := blk4 K0.out
  have K0_l : w.heap.size < w7.heap.size := (Array.getElem?_eq_some_iff.1 K0.out).1
  obtain ⟨KW_0, KW_1, KW_2, KW_3⟩ := blk4 KW.out
  have KW_l : w3.heap.size < w7.heap.size := (Array.getElem?_eq_some_iff.1 KW.out).1
  obtain ⟨KX0_0, KX0_1, KX0_2, KX0_3⟩ := blk4 KX0.out
  have KX0_l : w5.heap.size < w7.heap.size := (Array.getElem?_eq_some_iff.1 KX0.out).1
  obtain ⟨w8, hw8⟩ : ∃ w8, w8 = w7.alloc (.cells #[.int .i64 x, .slice avg q.moves.length cvg, .slice bvg q.firsts.length dvg, .slice fvg q.ends.length gvg] 46) := ⟨_, rfl⟩
  have hbw8 : Below w7.heap.size w7 w8 := by rw [hw8]; exact (Below.refl _ _).alloc (Nat.le_refl _) _
  have KG : Hid (w8.heap[w7.heap.size]? = some (.cells #[.int .i64 x, .slice avg q.moves.length cvg, .slice bvg q.firsts.length dvg, .slice fvg q.ends.length gvg] 46 (0, 0))) := by rw [hw8]; exact blkNew _ _ rfl
  have Hw8 := Lib.hid hw8; clear hw8
  go_wp2_with fail
  rw [← Hw8.out]
  clear K0_0 K0_1 K0_2 K0_3 K0_l KW_0 KW_1 KW_2 KW_3 KW_l KX0_0 KX0_1 KX0_2 KX0_3 KX0_l
  replace HB := Lib.hid (HB.out.trans (hbw8.mono HB.out.size))
  replace K0 := Lib.hid (blkBel hbw8 K0.out)
  replace HB3 := Lib.hid (HB3.out.trans (hbw8.mono HB3.out.size))
  replace KW := Lib.hid (blkBel hbw8 KW.out)
  replace HXx0 := Lib.hid (HXx0.out.stay (ksB hbw8))
  replace KX0 := Lib.hid (blkBel hbw8 KX0.out)
  replace Hvg := Lib.hid (Hvg.out.stay hbw8.size (ksB hbw8))
  clear hbw8
  refine (eqNfa_e x _ _ _ _ _ _ q _ Hx Hvg.out.rd (HW3.out.stay (kpL HB3.out))).mono ?_
  rintro e w9 ⟨bq, rfl, hb, hq0⟩
  cases bq
  · exact (hbF hq0 trivial).elim
  clear hq0
  replace HB := Lib.hid (HB.out.trans (hb.mono HB.out.size))
  replace K0 := Lib.hid (blkBel hb K0.out)
  replace HB3 := Lib.hid (HB3.out.trans (hb.mono HB3.out.size))
  replace KW := Lib.hid (blkBel hb KW.out)
  replace HXx0 := Lib.hid (HXx0.out.stay (ksB hb))
  replace KX0 := Lib.hid (blkBel hb KX0.out)
  replace Hvg := Lib.hid (Hvg.out.stay hb.size (ksB hb))
  replace KG := Lib.hid (blkBel hb KG.out)
  clear hb
  obtain ⟨K0_0, K0_1, K0_2, K0_3⟩ := blk4 K0.out
  have K0_l : w.heap.size < w9.heap.size := (Array.getElem?_eq_some_iff.1 K0.out).1
  obtain ⟨KW_0, KW_1, KW_2, KW_3⟩ := blk4 KW.out
  have KW_l : w3.heap.size < w9.heap.size := (Array.getElem?_eq_some_iff.1 KW.out).1
  obtain ⟨KX0_0, KX0_1, KX0_2, KX0_3⟩ := blk4 KX0.out
  have KX0_l : w5.heap.size < w9.heap.size := (Array.getElem?_eq_some_iff.1 KX0.out).1
  obtain ⟨KG_0, KG_1, KG_2, KG_3⟩ := blk4 KG.out
  have KG_l : w7.heap.size < w9.heap.size := (Array.getElem?_eq_some_iff.1 KG.out).1
  go_wp2_with fail
  have HBD : Hid (Below W.heap.size W w9.drew) := HB.out.drew
  have HXD := Lib.hid (HXx0.out.rd.stay (kpB ((Below.refl w9.heap.size w9).drew)))
  go_region_held3 (fun w' => w'.cell? ⟨w.heap.size, 0, none⟩ = some (.int .i64 D0.states) ∧ w'.cell? ⟨w.heap.size, 1, none⟩ = some (.slice a0 D0.moves.length c0) ∧ w'.cell? ⟨w.heap.size, 2, none⟩ = some (.slice b0 D0.firsts.length d0) ∧ w'.cell? ⟨w.heap.size, 3, none⟩ = some (.slice f0 D0.ends.length g0) ∧ w'.cell? ⟨w5.heap.size, 0, none⟩ = some (.int .i64 D0.states) ∧ w'.cell? ⟨w5.heap.size, 1, none⟩ = some (.slice ax0 D0.moves.length cx0) ∧ w'.cell? ⟨w5.heap.size, 2, none⟩ = some (.slice bx0 D0.firsts.length dx0) ∧ w'.cell? ⟨w5.heap.size, 3, none⟩ = some (.slice fx0 D0.ends.length gx0))
    (first | exact ⟨K0_0, K0_1, K0_2, K0_3, KX0_0, KX0_1, KX0_2, KX0_3⟩ | exact ⟨(blk4 (blkBel hb10 K0.out)).1, (blk4 (blkBel hb10 K0.out)).2.1, (blk4 (blkBel hb10 K0.out)).2.2.1, (blk4 (blkBel hb10 K0.out)).2.2.2, (blk4 (blkBel hb10 KX0.out)).1, (blk4 (blkBel hb10 KX0.out)).2.1, (blk4 (blkBel hb10 KX0.out)).2.2.1, (blk4 (blkBel hb10 KX0.out)).2.2.2⟩ | exact ⟨(blk4 (blkBel hb11 (blkBel hb10 K0.out))).1, (blk4 (blkBel hb11 (blkBel hb10 K0.out))).2.1, (blk4 (blkBel hb11 (blkBel hb10 K0.out))).2.2.1, (blk4 (blkBel hb11 (blkBel hb10 K0.out))).2.2.2, (blk4 (blkBel hb11 (blkBel hb10 KX0.out))).1, (blk4 (blkBel hb11 (blkBel hb10 KX0.out))).2.1, (blk4 (blkBel hb11 (blkBel hb10 KX0.out))).2.2.1, (blk4 (blkBel hb11 (blkBel hb10 KX0.out))).2.2.2⟩)
    (first | (go_at_call 33; refine (toNfa_c _ _ _ D0 _ (H0.out.stay (kpB HBD.out)) HSM0.out).mono ?_; rintro e v100 ⟨y1, y2, y3, rfl, hb10, hd10⟩) | (go_at_call 35; refine (eqNfa_c _ _ _ _ _ _ D0 _ (HXD.out.stay (kpB hb10)) hd10.out.rd).mono ?_; rintro e v110 ⟨bq, rfl, hb11, hq0⟩; cases bq; exact (hbF hq0 trivial).elim))
  clear K0_0 K0_1 K0_2 K0_3 K0_l KW_0 KW_1 KW_2 KW_3 KW_l KX0_0 KX0_1 KX0_2 KX0_3 KX0_l KG_0 KG_1 KG_2 KG_3 KG_l
  have hb : Below w9.heap.size w9 v110 := ((Below.refl w9.heap.size w9).drew).trans (hb10.trans (hb11.mono hb10.size))
  clear hb10 hb11 HBD HXD hd10
  replace HB := Lib.hid (HB.out.trans (hb.mono HB.out.size))
  replace K0 := Lib.hid (blkBel hb K0.out)
  replace HB3 := Lib.hid (HB3.out.trans (hb.mono HB3.out.size))
  replace KW := Lib.hid (blkBel hb KW.out)
  replace HXx0 := Lib.hid (HXx0.out.stay (ksB hb))
  replace KX0 := Lib.hid (blkBel hb KX0.out)
  replace Hvg := Lib.hid (Hvg.out.stay hb.size (ksB hb))
  replace KG := Lib.hid (blkBel hb KG.out)
  clear hb
  obtain ⟨K0_0, K0_1, K0_2, K0_3⟩ := blk4 K0.out
  have K0_l : w.heap.size < v110.heap.size := (Array.getElem?_eq_some_iff.1 K0.out).1
  obtain ⟨KW_0, KW_1, KW_2, KW_3⟩ := blk4 KW.out
  have KW_l : w3.heap.size < v110.heap.size := (Array.getElem?_eq_some_iff.1 KW.out).1
  obtain ⟨KX0_0, KX0_1, KX0_2, KX0_3⟩ := blk4 KX0.out
  have KX0_l : w5.heap.size < v110.heap.size := (Array.getElem?_eq_some_iff.1 KX0.out).1
  obtain ⟨KG_0, KG_1, KG_2, KG_3⟩ := blk4 KG.out
  have KG_l : w7.heap.size < v110.heap.size := (Array.getElem?_eq_some_iff.1 KG.out).1
  have htt0 := HSM0.out.1; have htu0 := HSM0.out.2.1; have htl0 := HSM0.out.2.2
  go_wp2_with fail
  clear K0_0 K0_1 K0_2 K0_3 K0_l KW_0 KW_1 KW_2 KW_3 KW_l KX0_0 KX0_1 KX0_2 KX0_3 KX0_l KG_0 KG_1 KG_2 KG_3 KG_l
  have hsz0 : ∀ b : Nat, (w4.heap.size ≤ b ∧ b < w5.heap.size) → b < v110.heap.size := fun b hb => by have := hb.2; have := (Array.getElem?_eq_some_iff.1 KX0.out).1; omega
  refine (markNfa_a _ _ _ _ D0 (1) _ HXx0.out hsz0 (by omega) HSM0.out).mono ?_
  rintro e w10 ⟨rfl, hF⟩
  clear hsz0
  clear HXx0
  replace HB := Lib.hid (HB.out.trans (hF.out.low (B := W.heap.size) (fun b h => by have := h.1; omega) HB.out.size))
  replace K0 : Hid (w10.heap[w.heap.size]? = _) := (hF.out.block _ (Array.getElem?_eq_some_iff.1 K0.out).1 (fun h => by have h1 := h.1; have h2 := h.2; omega)).trans K0.out
  replace HB3 := Lib.hid (HB3.out.trans (hF.out.low (B := w3.heap.size) (fun b h => by have := h.1; omega) HB3.out.size))
  replace KW : Hid (w10.heap[w3.heap.size]? = _) := (hF.out.block _ (Array.getElem?_eq_some_iff.1 KW.out).1 (fun h => by have h1 := h.1; have h2 := h.2; omega)).trans KW.out
  replace KX0 : Hid (w10.heap[w5.heap.size]? = _) := (hF.out.block _ (Array.getElem?_eq_some_iff.1 KX0.out).1 (fun h => by have h1 := h.1; have h2 := h.2; omega)).trans KX0.out
  replace Hvg := Lib.hid (Hvg.out.stay hF.out.size (hF.out.ks.mono fun b h1 h2 => by have := h1.1; have := h2.2; omega))
  replace KG : Hid (w10.heap[w7.heap.size]? = _) := (hF.out.block _ (Array.getElem?_eq_some_iff.1 KG.out).1 (fun h => by have h1 := h.1; have h2 := h.2; omega)).trans KG.out
  clear hF
  obtain ⟨K0_0, K0_1, K0_2, K0_3⟩ := blk4 K0.out
  have K0_l : w.heap.size < w10.heap.size := (Array.getElem?_eq_some_iff.1 K0.out).1
  obtain ⟨KW_0, KW_1, KW_2, KW_3⟩ := blk4 KW.out
  have KW_l : w3.heap.size < w10.heap.size := (Array.getElem?_eq_some_iff.1 KW.out).1
  obtain ⟨KX0_0, KX0_1, KX0_2, KX0_3⟩ := blk4 KX0.out
  have KX0_l : w5.heap.size < w10.heap.size := (Array.getElem?_eq_some_iff.1 KX0.out).1
  obtain ⟨KG_0, KG_1, KG_2, KG_3⟩ := blk4 KG.out
  have KG_l : w7.heap.size < w10.heap.size := (Array.getElem?_eq_some_iff.1 KG.out).1
  obtain ⟨k0, hk0⟩ : ∃ k : Int, k = 1 + 3 * D0.moves.length + D0.firsts.length + D0.ends.length := ⟨_, rfl⟩
  rw [← hk0]
  have hk00 : 1 ≤ k0 := by omega
  have hk10 : k0 ≤ 10000000 := by omega
  clear hk0
  go_wp2_with fail
  clear K0_0 K0_1 K0_2 K0_3 K0_l KW_0 KW_1 KW_2 KW_3 KW_l KX0_0 KX0_1 KX0_2 KX0_3 KX0_l KG_0 KG_1 KG_2 KG_3 KG_l
  refine (eqNfa_e x _ _ _ _ _ _ q _ Hx Hvg.out.rd (HW3.out.stay (kpL HB3.out))).mono ?_
  rintro e w11 ⟨bq, rfl, hb, hq0⟩
  cases bq
  · exact (hbF hq0 trivial).elim
  clear hq0
  replace HB := Lib.hid (HB.out.trans (hb.mono HB.out.size))
  replace K0 := Lib.hid (blkBel hb K0.out)
  replace HB3 := Lib.hid (HB3.out.trans (hb.mono HB3.out.size))
  replace KW := Lib.hid (blkBel hb KW.out)
  replace KX0 := Lib.hid (blkBel hb KX0.out)
  replace Hvg := Lib.hid (Hvg.out.stay hb.size (ksB hb))
  replace KG := Lib.hid (blkBel hb KG.out)
  clear hb
  obtain ⟨K0_0, K0_1, K0_2, K0_3⟩ := blk4 K0.out
  have K0_l : w.heap.size < w11.heap.size := (Array.getElem?_eq_some_iff.1 K0.out).1
  obtain ⟨KW_0, KW_1, KW_2, KW_3⟩ := blk4 KW.out
  have KW_l : w3.heap.size < w11.heap.size := (Array.getElem?_eq_some_iff.1 KW.out).1
  obtain ⟨KX0_0, KX0_1, KX0_2, KX0_3⟩ := blk4 KX0.out
  have KX0_l : w5.heap.size < w11.heap.size := (Array.getElem?_eq_some_iff.1 KX0.out).1
  obtain ⟨KG_0, KG_1, KG_2, KG_3⟩ := blk4 KG.out
  have KG_l : w7.heap.size < w11.heap.size := (Array.getElem?_eq_some_iff.1 KG.out).1
  go_wp2_with fail
  clear K0_0 K0_1 K0_2 K0_3 K0_l KW_0 KW_1 KW_2 KW_3 KW_l KX0_0 KX0_1 KX0_2 KX0_3 KX0_l KG_0 KG_1 KG_2 KG_3 KG_l
  have hsr : ∀ b : Nat, (w6.heap.size ≤ b ∧ b < w7.heap.size) → b < w11.heap.size := fun b hb => by have := hb.2; have := (Array.getElem?_eq_some_iff.1 KG.out).1; omega
  refine (markNfa_e _ _ _ _ q 1 _ Hvg.out hsr (by omega) HSmall.out).mono ?_
  rintro e w12 ⟨rfl, hF, hM⟩
  clear hsr
  clear Hvg
  replace HB := Lib.hid (HB.out.trans (hF.out.low (B := W.heap.size) (fun b h => by have := h.1; omega) HB.out.size))
  replace K0 : Hid (w12.heap[w.heap.size]? = _) := (hF.out.block _ (Array.getElem?_eq_some_iff.1 K0.out).1 (fun h => by have h1 := h.1; have h2 := h.2; omega)).trans K0.out
  replace HB3 := Lib.hid (HB3.out.trans (hF.out.low (B := w3.heap.size) (fun b h => by have := h.1; omega) HB3.out.size))
  replace KW : Hid (w12.heap[w3.heap.size]? = _) := (hF.out.block _ (Array.getElem?_eq_some_iff.1 KW.out).1 (fun h => by have h1 := h.1; have h2 := h.2; omega)).trans KW.out
  replace KX0 : Hid (w12.heap[w5.heap.size]? = _) := (hF.out.block _ (Array.getElem?_eq_some_iff.1 KX0.out).1 (fun h => by have h1 := h.1; have h2 := h.2; omega)).trans KX0.out
  replace KG : Hid (w12.heap[w7.heap.size]? = _) := (hF.out.block _ (Array.getElem?_eq_some_iff.1 KG.out).1 (fun h => by have h1 := h.1; have h2 := h.2; omega)).trans KG.out
  have HM := Lib.hid hM.out; clear hM hF
  obtain ⟨K0_0, K0_1, K0_2, K0_3⟩ := blk4 K0.out
  have K0_l : w.heap.size < w12.heap.size := (Array.getElem?_eq_some_iff.1 K0.out).1
  obtain ⟨KW_0, KW_1, KW_2, KW_3⟩ := blk4 KW.out
  have KW_l : w3.heap.size < w12.heap.size := (Array.getElem?_eq_some_iff.1 KW.out).1
  obtain ⟨KX0_0, KX0_1, KX0_2, KX0_3⟩ := blk4 KX0.out
  have KX0_l : w5.heap.size < w12.heap.size := (Array.getElem?_eq_some_iff.1 KX0.out).1
  obtain ⟨KG_0, KG_1, KG_2, KG_3⟩ := blk4 KG.out
  have KG_l : w7.heap.size < w12.heap.size := (Array.getElem?_eq_some_iff.1 KG.out).1
  have htq := HSmall.out.1; have htq2 := HSmall.out.2.1; have htq3 := HSmall.out.2.2
  obtain ⟨kr, hkr⟩ : ∃ k : Int, k = 1 + 3 * (q.moves.length : Int) + (q.firsts.length : Int) + (q.ends.length : Int) := ⟨_, rfl⟩
  have hkr0 : 0 ≤ kr := by omega
  have hkr1 : kr ≤ 4000000000000 := by omega
  rw [← hkr]
  have hne := bneS kr
  go_wp2_with fail
  clear K0_0 K0_1 K0_2 K0_3 K0_l KW_0 KW_1 KW_2 KW_3 KW_l KX0_0 KX0_1 KX0_2 KX0_3 KX0_l KG_0 KG_1 KG_2 KG_3 KG_l
  refine (heldNfa_e _ _ _ _ q 1 _ HM.out (by omega) HSmall.out).mono ?_
  rintro e w13 ⟨rfl, hb⟩
  replace HB := Lib.hid (HB.out.trans (hb.mono HB.out.size))
  replace K0 := Lib.hid (blkBel hb K0.out)
  replace HB3 := Lib.hid (HB3.out.trans (hb.mono HB3.out.size))
  replace KW := Lib.hid (blkBel hb KW.out)
  replace KX0 := Lib.hid (blkBel hb KX0.out)
  replace KG := Lib.hid (blkBel hb KG.out)
  replace HM := Lib.hid (HM.out.stay hb)
  clear hb
  rw [← hkr]
  obtain ⟨K0_0, K0_1, K0_2, K0_3⟩ := blk4 K0.out
  have K0_l : w.heap.size < w13.heap.size := (Array.getElem?_eq_some_iff.1 K0.out).1
  obtain ⟨KW_0, KW_1, KW_2, KW_3⟩ := blk4 KW.out
  have KW_l : w3.heap.size < w13.heap.size := (Array.getElem?_eq_some_iff.1 KW.out).1
  obtain ⟨KX0_0, KX0_1, KX0_2, KX0_3⟩ := blk4 KX0.out
  have KX0_l : w5.heap.size < w13.heap.size := (Array.getElem?_eq_some_iff.1 KX0.out).1
  obtain ⟨KG_0, KG_1, KG_2, KG_3⟩ := blk4 KG.out
  have KG_l : w7.heap.size < w13.heap.size := (Array.getElem?_eq_some_iff.1 KG.out).1
  go_wp2_with fail
  clear K0_0 K0_1 K0_2 K0_3 K0_l KW_0 KW_1 KW_2 KW_3 KW_l KX0_0 KX0_1 KX0_2 KX0_3 KX0_l KG_0 KG_1 KG_2 KG_3 KG_l
  refine (toNfa_c _ _ _ D0 _ (H0.out.stay (kpB HB.out)) HSM0.out).mono ?_
  rintro e w14 ⟨zm0, zn0, ze0, rfl, hb, hd⟩
  replace HB := Lib.hid (HB.out.trans (hb.mono HB.out.size))
  replace K0 := Lib.hid (blkBel hb K0.out)
  replace HB3 := Lib.hid (HB3.out.trans (hb.mono HB3.out.size))
  replace KW := Lib.hid (blkBel hb KW.out)
  replace KX0 := Lib.hid (blkBel hb KX0.out)
  replace KG := Lib.hid (blkBel hb KG.out)
  replace HM := Lib.hid (HM.out.stay hb)
  have hzcz0 := hb.size; clear hb
  have HXz0 := Lib.hid hd.out.rd; clear hd
  obtain ⟨az0, cz0, bz0, dz0, fz0, gz0, rfl, rfl, rfl, _, _, _⟩ := HXz0.out.shapes
  obtain ⟨K0_0, K0_1, K0_2, K0_3⟩ := blk4 K0.out
  have K0_l : w.heap.size < w14.heap.size := (Array.getElem?_eq_some_iff.1 K0.out).1
  obtain ⟨KW_0, KW_1, KW_2, KW_3⟩ := blk4 KW.out
  have KW_l : w3.heap.size < w14.heap.size := (Array.getElem?_eq_some_iff.1 KW.out).1
  obtain ⟨KX0_0, KX0_1, KX0_2, KX0_3⟩ := blk4 KX0.out
  have KX0_l : w5.heap.size < w14.heap.size := (Array.getElem?_eq_some_iff.1 KX0.out).1
  obtain ⟨KG_0, KG_1, KG_2, KG_3⟩ := blk4 KG.out
  have KG_l : w7.heap.size < w14.heap.size := (Array.getElem?_eq_some_iff.1 KG.out).1
  go_wp2_with fail
  clear K0_0 K0_1 K0_2 K0_3 K0_l KW_0 KW_1 KW_2 KW_3 KW_l KX0_0 KX0_1 KX0_2 KX0_3 KX0_l KG_0 KG_1 KG_2 KG_3 KG_l
  refine (NfaStar_c _ _ _ D0 _ HXz0.out).mono ?_
  rintro e w15 ⟨vh1, vh2, vh3, rfl, hb, hvh⟩
  rw [hq.out] at hvh ⊢
  rw [← Hx.out]
  rw [hzb.out]
  have hzvh := hb.size
  replace HB := Lib.hid (HB.out.trans (hb.mono HB.out.size))
  replace K0 := Lib.hid (blkBel hb K0.out)
  replace HB3 := Lib.hid (HB3.out.trans (hb.mono HB3.out.size))
  replace KW := Lib.hid (blkBel hb KW.out)
  replace KX0 := Lib.hid (blkBel hb KX0.out)
  replace KG := Lib.hid (blkBel hb KG.out)
  replace HM := Lib.hid (HM.out.stay hb)
  replace HXz0 := Lib.hid (HXz0.out.stay (kpB hb))
  clear hb
  have Hvh := Lib.hid hvh.out.e; clear hvh
  obtain ⟨avh, cvh, bvh, dvh, fvh, gvh, rfl, rfl, rfl, _, _, _⟩ := Hvh.out.rd.shapes
  clear HXz0
  obtain ⟨K0_0, K0_1, K0_2, K0_3⟩ := blk4 K0.out
  have K0_l : w.heap.size < w15.heap.size := (Array.getElem?_eq_some_iff.1 K0.out).1
  obtain ⟨KW_0, KW_1, KW_2, KW_3⟩ := blk4 KW.out
  have KW_l : w3.heap.size < w15.heap.size := (Array.getElem?_eq_some_iff.1 KW.out).1
  obtain ⟨KX0_0, KX0_1, KX0_2, KX0_3⟩ := blk4 KX0.out
  have KX0_l : w5.heap.size < w15.heap.size := (Array.getElem?_eq_some_iff.1 KX0.out).1
  obtain ⟨KG_0, KG_1, KG_2, KG_3⟩ := blk4 KG.out
  have KG_l : w7.heap.size < w15.heap.size := (Array.getElem?_eq_some_iff.1 KG.out).1
  obtain ⟨w16, hw16⟩ : ∃ w16, w16 = w15.alloc (.cells #[.int .i64 x, .slice avh q.moves.length cvh, .slice bvh q.firsts.length dvh, .slice fvh q.ends.length gvh] 46) := ⟨_, rfl⟩
  have hbw16 : Below w15.heap.size w15 w16 := by rw [hw16]; exact (Below.refl _ _).alloc (Nat.le_refl _) _
  have KH : Hid (w16.heap[w15.heap.size]? = some (.cells #[.int .i64 x, .slice avh q.moves.length cvh, .slice bvh q.firsts.length dvh, .slice fvh q.ends.length gvh] 46 (0, 0))) := by rw [hw16]; exact blkNew _ _ rfl
  have Hw16 := Lib.hid hw16; clear hw16
  go_wp2_with fail
  rw [← Hw16.out]
  clear K0_0 K0_1 K0_2 K0_3 K0_l KW_0 KW_1 KW_2 KW_3 KW_l KX0_0 KX0_1 KX0_2 KX0_3 KX0_l KG_0 KG_1 KG_2 KG_3 KG_l
  replace HB := Lib.hid (HB.out.trans (hbw16.mono HB.out.size))
  replace K0 := Lib.hid (blkBel hbw16 K0.out)
  replace HB3 := Lib.hid (HB3.out.trans (hbw16.mono HB3.out.size))
  replace KW := Lib.hid (blkBel hbw16 KW.out)
  replace KX0 := Lib.hid (blkBel hbw16 KX0.out)
  replace KG := Lib.hid (blkBel hbw16 KG.out)
  replace HM := Lib.hid (HM.out.stay hbw16)
  replace Hvh := Lib.hid (Hvh.out.stay hbw16.size (ksB hbw16))
  clear hbw16
  refine (eqNfa_e x _ _ _ _ _ _ q _ Hx Hvh.out.rd (HW3.out.stay (kpL HB3.out))).mono ?_
  rintro e w17 ⟨bq, rfl, hb, hq0⟩
  cases bq
  · exact (hbF hq0 trivial).elim
  clear hq0
  replace HB := Lib.hid (HB.out.trans (hb.mono HB.out.size))
  replace K0 := Lib.hid (blkBel hb K0.out)
  replace HB3 := Lib.hid (HB3.out.trans (hb.mono HB3.out.size))
  replace KW := Lib.hid (blkBel hb KW.out)
  replace KX0 := Lib.hid (blkBel hb KX0.out)
  replace KG := Lib.hid (blkBel hb KG.out)
  replace HM := Lib.hid (HM.out.stay hb)
  replace Hvh := Lib.hid (Hvh.out.stay hb.size (ksB hb))
  replace KH := Lib.hid (blkBel hb KH.out)
  clear hb
  obtain ⟨K0_0, K0_1, K0_2, K0_3⟩ := blk4 K0.out
  have K0_l : w.heap.size < w17.heap.size := (Array.getElem?_eq_some_iff.1 K0.out).1
  obtain ⟨KW_0, KW_1, KW_2, KW_3⟩ := blk4 KW.out
  have KW_l : w3.heap.size < w17.heap.size := (Array.getElem?_eq_some_iff.1 KW.out).1
  obtain ⟨KX0_0, KX0_1, KX0_2, KX0_3⟩ := blk4 KX0.out
  have KX0_l : w5.heap.size < w17.heap.size := (Array.getElem?_eq_some_iff.1 KX0.out).1
  obtain ⟨KG_0, KG_1, KG_2, KG_3⟩ := blk4 KG.out
  have KG_l : w7.heap.size < w17.heap.size := (Array.getElem?_eq_some_iff.1 KG.out).1
  obtain ⟨KH_0, KH_1, KH_2, KH_3⟩ := blk4 KH.out
  have KH_l : w15.heap.size < w17.heap.size := (Array.getElem?_eq_some_iff.1 KH.out).1
  clear Hvh
  go_wp2_with fail
  clear K0_0 K0_1 K0_2 K0_3 K0_l KW_0 KW_1 KW_2 KW_3 KW_l KX0_0 KX0_1 KX0_2 KX0_3 KX0_l KG_0 KG_1 KG_2 KG_3 KG_l KH_0 KH_1 KH_2 KH_3 KH_l
  refine (heldNfa_e _ _ _ _ q 1 _ HM.out (by omega) HSmall.out).mono ?_
  rintro e w18 ⟨rfl, hb⟩
  replace HB := Lib.hid (HB.out.trans (hb.mono HB.out.size))
  replace K0 := Lib.hid (blkBel hb K0.out)
  replace HB3 := Lib.hid (HB3.out.trans (hb.mono HB3.out.size))
  replace KW := Lib.hid (blkBel hb KW.out)
  replace KX0 := Lib.hid (blkBel hb KX0.out)
  replace KG := Lib.hid (blkBel hb KG.out)
  replace HM := Lib.hid (HM.out.stay hb)
  replace KH := Lib.hid (blkBel hb KH.out)
  clear hb
  rw [← hkr]
  obtain ⟨K0_0, K0_1, K0_2, K0_3⟩ := blk4 K0.out
  have K0_l : w.heap.size < w18.heap.size := (Array.getElem?_eq_some_iff.1 K0.out).1
  obtain ⟨KW_0, KW_1, KW_2, KW_3⟩ := blk4 KW.out
  have KW_l : w3.heap.size < w18.heap.size := (Array.getElem?_eq_some_iff.1 KW.out).1
  obtain ⟨KX0_0, KX0_1, KX0_2, KX0_3⟩ := blk4 KX0.out
  have KX0_l : w5.heap.size < w18.heap.size := (Array.getElem?_eq_some_iff.1 KX0.out).1
  obtain ⟨KG_0, KG_1, KG_2, KG_3⟩ := blk4 KG.out
  have KG_l : w7.heap.size < w18.heap.size := (Array.getElem?_eq_some_iff.1 KG.out).1
  obtain ⟨KH_0, KH_1, KH_2, KH_3⟩ := blk4 KH.out
  have KH_l : w15.heap.size < w18.heap.size := (Array.getElem?_eq_some_iff.1 KH.out).1
  clear K0_0 K0_1 K0_2 K0_3 K0_l KW_0 KW_1 KW_2 KW_3 KW_l KX0_0 KX0_1 KX0_2 KX0_3 KX0_l KG_0 KG_1 KG_2 KG_3 KG_l KH_0 KH_1 KH_2 KH_3 KH_l
  have hfin := HB0.out.trans (HB.out.mono HB0.out.size)
  go_wp2
  go_ret
  exact ⟨rfl, hfin⟩
end Go.Proofs.Ytgihihnbapnnjaa.fnExactNfaStar
