/- FnExactExprOf answers true: the walk. -/
import Derived.Test.YtbcjhiponbfbnaaSxo
import Derived.Test.YtbcjhiponbfbnaaIex
import Derived.Test.YtbcjhiponbfbnaaGC
import Derived.Deep.RegionHeld3
set_option linter.unusedSimpArgs false
set_option linter.unusedVariables false
set_option linter.unusedSectionVars false
namespace Go.Proofs.Ytbcjhiponbfbnaa.fnExactExprOf
open Go.RowKit
set_option maxRecDepth 100000

set_option maxHeartbeats 2000000 in
theorem walk (w : World) (vn0 ve0 : Value) (D0 : DfaD) (h0 : DfaR (fun _ => True) w vn0 ve0 D0) :
    Calls Try.prog 6 #[.agg #[vn0, ve0]] w (Yes w) := by
  obtain ⟨a0, c0, b0, d0, rfl, rfl, hn0, hm0⟩ := h0.shapes
  obtain ⟨W, hW⟩ : ∃ W, W = w.alloc (.cells #[.slice a0 D0.1.length c0, .slice b0 D0.2.length d0] 49) := ⟨_, rfl⟩
  have HB0 : Hid (Below w.heap.size w W) := by rw [hW]; exact (Below.refl _ _).alloc (Nat.le_refl _) _
  have K0 : Hid (W.heap[w.heap.size]? = some (.cells #[.slice a0 D0.1.length c0, .slice b0 D0.2.length d0] 49 (0, 0))) := by rw [hW]; exact blkNew _ _ (by simp)
  have hWw : w.heap.size + 1 ≤ W.heap.size := by rw [hW]; simp
  have H0 := Lib.hid (h0.stay (kpB HB0.out)); clear h0
  have HW := Lib.hid hW; clear hW
  go_enter Try.func6, Try.ntmps6
  have HB : Hid (Below W.heap.size W W) := Below.refl _ _
  go_wp2_with fail
  rw [← HW.out]
  refine (szDfa_c _ _ D0 _ _ (H0.out.stay (kpB HB.out)) (by omega) (by omega)).mono ?_
  rintro e w1 ⟨m0, rfl, hb, hm⟩
  replace HB := Lib.hid (HB.out.trans (hb.mono HB.out.size))
  replace K0 := Lib.hid (blkBel hb K0.out)
  clear hb
  obtain ⟨K0_0, K0_1, K0_2, K0_3⟩ := blk2 K0.out
  have K0_l : w.heap.size < w1.heap.size := (Array.getElem?_eq_some_iff.1 K0.out).1
  rcases hm.out with rfl | ⟨hm0_0, hm1_0, hsml0⟩
  · clear hm
    go_wp2
    go_ret
    exact ⟨rfl, HB0.out.trans (HB.out.mono HB0.out.size)⟩
  have HSM0 := Lib.hid hsml0; clear hsml0 hm
  clear K0_0 K0_1 K0_2 K0_3 K0_l
  obtain ⟨K0_0, K0_1, K0_2, K0_3⟩ := blk2 K0.out
  have K0_l : w.heap.size < w1.heap.size := (Array.getElem?_eq_some_iff.1 K0.out).1
  have HSmall := Lib.hid (show _ from (ansQ_len D0))
  obtain ⟨Q, hQ⟩ : ∃ Q : List (Int × Int), Hid (ansQ (ansO D0) = Q) := ⟨_, rfl⟩
  rw [hQ.out] at HSmall
  have hqs := HSmall.out
  obtain ⟨P, hP⟩ : ∃ P : Prop, Hid (((ansO D0).isSome = true) = P) := ⟨_, rfl⟩
  obtain ⟨q, hql⟩ : ∃ q : Nat, q = Q.length := ⟨_, rfl⟩
  rw [← hql] at hqs
  have Hql := Lib.hid hql; clear hql
  go_wp2_with fail
  clear K0_0 K0_1 K0_2 K0_3 K0_l
  refine (toDfa_c _ _ D0 _ (H0.out.stay (kpB HB.out)) HSM0.out).mono ?_
  rintro e w2 ⟨yn0, ye0, rfl, hb, hd⟩
  replace HB := Lib.hid (HB.out.trans (hb.mono HB.out.size))
  replace K0 := Lib.hid (blkBel hb K0.out)
  have hzcy0 := hb.size; clear hb
  have HXy0 := Lib.hid hd.out.rd; clear hd
  obtain ⟨ay0, cy0, by0, dy0, rfl, rfl, _, _⟩ := HXy0.out.shapes
  obtain ⟨K0_0, K0_1, K0_2, K0_3⟩ := blk2 K0.out
  have K0_l : w.heap.size < w2.heap.size := (Array.getElem?_eq_some_iff.1 K0.out).1
  go_wp2_with fail
  clear K0_0 K0_1 K0_2 K0_3 K0_l
  refine (sExprOf_c _ _ D0 _ HXy0.out).mono ?_
  rintro e w3 ⟨vw, zvw, rfl, hb, hpvw, hvw⟩
  rw [hP.out] at hpvw
  rw [hQ.out] at hvw
  have hzvw := hb.size
  replace HB := Lib.hid (HB.out.trans (hb.mono HB.out.size))
  replace K0 := Lib.hid (blkBel hb K0.out)
  replace HXy0 := Lib.hid (HXy0.out.stay (kpB hb))
  clear hb
  have Hvw : Hid (Fl (PT w3) w3 vw Q.length (cells2 Q)) := hvw; clear hvw
  rw [← Hql.out] at Hvw
  obtain ⟨avw, cvw, rfl, _⟩ := Hvw.out.shape
  have hbz := bneSelf zvw
  clear HXy0
  have HB3 : Hid (Below w3.heap.size w3 w3) := Below.refl _ _
  have HW3 := Lib.hid ((Fl.inHeap Hvw.out).mono (T := (· < w3.heap.size)) (fun b h => h.2)); clear Hvw
  obtain ⟨K0_0, K0_1, K0_2, K0_3⟩ := blk2 K0.out
  have K0_l : w.heap.size < w3.heap.size := (Array.getElem?_eq_some_iff.1 K0.out).1
  -- copy 0
  go_wp2_with fail
  clear K0_0 K0_1 K0_2 K0_3 K0_l
  have hWl0 := HB.out.size
  have h3l0 := HB3.out.size
  refine (toDfa_c _ _ D0 _ (H0.out.stay (kpB HB.out)) HSM0.out).mono ?_
  rintro e w4 ⟨xn0, xe0, rfl, hb, hd⟩
  replace HB := Lib.hid (HB.out.trans (hb.mono HB.out.size))
  replace K0 := Lib.hid (blkBel hb K0.out)
  replace HB3 := Lib.hid (HB3.out.trans (hb.mono HB3.out.size))
  have hzx0 := hb.size; clear hb
  have HXx0 := Lib.hid hd.out; clear hd
  obtain ⟨ax0, cx0, bx0, dx0, rfl, rfl, _, _⟩ := HXx0.out.rd.shapes
  obtain ⟨K0_0, K0_1, K0_2, K0_3⟩ := blk2 K0.out
  have K0_l : w.heap.size < w4.heap.size := (Array.getElem?_eq_some_iff.1 K0.out).1
  obtain ⟨w5, hw5⟩ : ∃ w5, w5 = w4.alloc (.cells #[.slice ax0 D0.1.length cx0, .slice bx0 D0.2.length dx0] 52) := ⟨_, rfl⟩
  have hbw5 : Below w4.heap.size w4 w5 := by rw [hw5]; exact (Below.refl _ _).alloc (Nat.le_refl _) _
  have KX0 : Hid (w5.heap[w4.heap.size]? = some (.cells #[.slice ax0 D0.1.length cx0, .slice bx0 D0.2.length dx0] 52 (0, 0))) := by rw [hw5]; exact blkNew _ _ rfl
  have Hw5 := Lib.hid hw5; clear hw5
  go_wp2_with fail
  rw [← Hw5.out]
  clear K0_0 K0_1 K0_2 K0_3 K0_l
  replace HB := Lib.hid (HB.out.trans (hbw5.mono HB.out.size))
  replace K0 := Lib.hid (blkBel hbw5 K0.out)
  replace HB3 := Lib.hid (HB3.out.trans (hbw5.mono HB3.out.size))
  replace HXx0 := Lib.hid (HXx0.out.stay (ksB hbw5))
  clear hbw5
  have hWg := HB.out.size
  have h3g := HB3.out.size
  have hxg0 := (Array.getElem?_eq_some_iff.1 KX0.out).1
  refine (ExprOf_c _ _ D0 _ HXx0.out.rd).mono ?_
  rintro e w6 ⟨vg, zvg, rfl, hb, hpvg, hvg⟩
  rw [hP.out] at hpvg
  obtain rfl := boolEq hpvg hpvw
  clear hpvg
  rw [hQ.out] at hvg
  have hzvg := hb.size
  replace HB := Lib.hid (HB.out.trans (hb.mono HB.out.size))
  replace K0 := Lib.hid (blkBel hb K0.out)
  replace HB3 := Lib.hid (HB3.out.trans (hb.mono HB3.out.size))
  replace HXx0 := Lib.hid (HXx0.out.stay (ksB hb))
  replace KX0 := Lib.hid (blkBel hb KX0.out)
  clear hb
  have Hvg : Hid (FlW (w5.heap.size ≤ ·) w6 vg Q.length (cells2 Q)) := ownFl hvg.out; clear hvg
  rw [← Hql.out] at Hvg
  obtain ⟨avg, cvg, rfl, _⟩ := Hvg.out.shape
  obtain ⟨K0_0, K0_1, K0_2, K0_3⟩ := blk2 K0.out
  have K0_l : w.heap.size < w6.heap.size := (Array.getElem?_eq_some_iff.1 K0.out).1
  obtain ⟨KX0_0, KX0_1, KX0_2, KX0_3⟩ := blk2 KX0.out
  have KX0_l : w4.heap.size < w6.heap.size := (Array.getElem?_eq_some_iff.1 KX0.out).1
  go_wp2_with fail
  clear K0_0 K0_1 K0_2 K0_3 K0_l KX0_0 KX0_1 KX0_2 KX0_3 KX0_l
  refine (eqPartS_c _ _ Q _ (by have := Hvg.out.fl; unfold Pairs; rw [← Hql.out]; exact this) (by have := (HW3.out.stay (kpL HB3.out)); unfold Pairs; rw [← Hql.out]; exact this)).mono ?_
  rintro e w7 ⟨bq, rfl, hb, hq0⟩
  cases bq
  · exact (hbF hq0 trivial).elim
  clear hq0
  replace HB := Lib.hid (HB.out.trans (hb.mono HB.out.size))
  replace K0 := Lib.hid (blkBel hb K0.out)
  replace HB3 := Lib.hid (HB3.out.trans (hb.mono HB3.out.size))
  replace HXx0 := Lib.hid (HXx0.out.stay (ksB hb))
  replace KX0 := Lib.hid (blkBel hb KX0.out)
  replace Hvg := Lib.hid (Hvg.out.stay (ksB hb))
  clear hb
  obtain ⟨K0_0, K0_1, K0_2, K0_3⟩ := blk2 K0.out
  have K0_l : w.heap.size < w7.heap.size := (Array.getElem?_eq_some_iff.1 K0.out).1
  obtain ⟨KX0_0, KX0_1, KX0_2, KX0_3⟩ := blk2 KX0.out
  have KX0_l : w4.heap.size < w7.heap.size := (Array.getElem?_eq_some_iff.1 KX0.out).1
  go_wp2_with fail
  have HBD : Hid (Below W.heap.size W w7.drew) := HB.out.drew
  have HXD := Lib.hid (HXx0.out.rd.stay (kpB ((Below.refl w7.heap.size w7).drew)))
  go_region_held3 (fun w' => w'.cell? ⟨w.heap.size, 0, none⟩ = some (.slice a0 D0.1.length c0) ∧ w'.cell? ⟨w.heap.size, 1, none⟩ = some (.slice b0 D0.2.length d0) ∧ w'.cell? ⟨w4.heap.size, 0, none⟩ = some (.slice ax0 D0.1.length cx0) ∧ w'.cell? ⟨w4.heap.size, 1, none⟩ = some (.slice bx0 D0.2.length dx0))
    (first | exact ⟨K0_0, K0_1, KX0_0, KX0_1⟩ | exact ⟨(blk2 (blkBel hb10 K0.out)).1, (blk2 (blkBel hb10 K0.out)).2.1, (blk2 (blkBel hb10 KX0.out)).1, (blk2 (blkBel hb10 KX0.out)).2.1⟩ | exact ⟨(blk2 (blkBel hb11 (blkBel hb10 K0.out))).1, (blk2 (blkBel hb11 (blkBel hb10 K0.out))).2.1, (blk2 (blkBel hb11 (blkBel hb10 KX0.out))).1, (blk2 (blkBel hb11 (blkBel hb10 KX0.out))).2.1⟩)
    (first | (go_at_call 27; refine (toDfa_c _ _ D0 _ (H0.out.stay (kpB HBD.out)) HSM0.out).mono ?_; rintro e v100 ⟨y1, y2, rfl, hb10, hd10⟩) | (go_at_call 30; refine (eqDfa_c _ _ _ _ D0 _ (HXD.out.stay (kpB hb10)) hd10.out.rd).mono ?_; rintro e v110 ⟨bq, rfl, hb11, hq0⟩; cases bq; exact (hbF hq0 trivial).elim))
  clear K0_0 K0_1 K0_2 K0_3 K0_l KX0_0 KX0_1 KX0_2 KX0_3 KX0_l
  have hb : Below w7.heap.size w7 v110 := ((Below.refl w7.heap.size w7).drew).trans (hb10.trans (hb11.mono hb10.size))
  clear hb10 hb11 HBD HXD hd10
  replace HB := Lib.hid (HB.out.trans (hb.mono HB.out.size))
  replace K0 := Lib.hid (blkBel hb K0.out)
  replace HB3 := Lib.hid (HB3.out.trans (hb.mono HB3.out.size))
  replace HXx0 := Lib.hid (HXx0.out.stay (ksB hb))
  replace KX0 := Lib.hid (blkBel hb KX0.out)
  replace Hvg := Lib.hid (Hvg.out.stay (ksB hb))
  clear hb
  obtain ⟨K0_0, K0_1, K0_2, K0_3⟩ := blk2 K0.out
  have K0_l : w.heap.size < v110.heap.size := (Array.getElem?_eq_some_iff.1 K0.out).1
  obtain ⟨KX0_0, KX0_1, KX0_2, KX0_3⟩ := blk2 KX0.out
  have KX0_l : w4.heap.size < v110.heap.size := (Array.getElem?_eq_some_iff.1 KX0.out).1
  have htt0 := tot_small HSM0.out.1
  have htl0 := HSM0.out.2
  go_wp2_with fail
  clear K0_0 K0_1 K0_2 K0_3 K0_l KX0_0 KX0_1 KX0_2 KX0_3 KX0_l
  have hsz0 : ∀ b : Nat, (w3.heap.size ≤ b ∧ b < w4.heap.size) → b < v110.heap.size := fun b hb => by have := hb.2; have := (Array.getElem?_eq_some_iff.1 KX0.out).1; omega
  refine (markDfa_f _ _ D0 (1) _ HXx0.out hsz0 (by omega) HSM0.out).mono ?_
  rintro e w8 ⟨rfl, hF, hM⟩
  clear hM hsz0
  clear HXx0
  replace HB := Lib.hid (HB.out.trans (hF.out.low (B := W.heap.size) (fun b h => by have := h.1; omega) HB.out.size))
  replace K0 : Hid (w8.heap[w.heap.size]? = _) := (hF.out.block _ (Array.getElem?_eq_some_iff.1 K0.out).1 (fun h => by have h1 := h.1; have h2 := h.2; omega)).trans K0.out
  replace HB3 := Lib.hid (HB3.out.trans (hF.out.low (B := w3.heap.size) (fun b h => by have := h.1; omega) HB3.out.size))
  replace KX0 : Hid (w8.heap[w4.heap.size]? = _) := (hF.out.block _ (Array.getElem?_eq_some_iff.1 KX0.out).1 (fun h => by have h1 := h.1; have h2 := h.2; omega)).trans KX0.out
  replace Hvg := Lib.hid (Hvg.out.stay (hF.out.ks.mono fun b h1 h2 => by have := h1; have := h2.2; omega))
  clear hF
  obtain ⟨K0_0, K0_1, K0_2, K0_3⟩ := blk2 K0.out
  have K0_l : w.heap.size < w8.heap.size := (Array.getElem?_eq_some_iff.1 K0.out).1
  obtain ⟨KX0_0, KX0_1, KX0_2, KX0_3⟩ := blk2 KX0.out
  have KX0_l : w4.heap.size < w8.heap.size := (Array.getElem?_eq_some_iff.1 KX0.out).1
  obtain ⟨k0, hk0⟩ : ∃ k : Int, k = 1 + tot D0.1 + D0.2.length := ⟨_, rfl⟩
  rw [← hk0]
  have hk00 : 1 ≤ k0 := by omega
  have hk10 : k0 ≤ 1099512676400 := by omega
  clear hk0
  go_wp2_with fail
  clear K0_0 K0_1 K0_2 K0_3 K0_l KX0_0 KX0_1 KX0_2 KX0_3 KX0_l
  refine (eqPartS_c _ _ Q _ (by have := Hvg.out.fl; unfold Pairs; rw [← Hql.out]; exact this) (by have := (HW3.out.stay (kpL HB3.out)); unfold Pairs; rw [← Hql.out]; exact this)).mono ?_
  rintro e w9 ⟨bq, rfl, hb, hq0⟩
  cases bq
  · exact (hbF hq0 trivial).elim
  clear hq0
  replace HB := Lib.hid (HB.out.trans (hb.mono HB.out.size))
  replace K0 := Lib.hid (blkBel hb K0.out)
  replace HB3 := Lib.hid (HB3.out.trans (hb.mono HB3.out.size))
  replace KX0 := Lib.hid (blkBel hb KX0.out)
  replace Hvg := Lib.hid (Hvg.out.stay (ksB hb))
  clear hb
  obtain ⟨K0_0, K0_1, K0_2, K0_3⟩ := blk2 K0.out
  have K0_l : w.heap.size < w9.heap.size := (Array.getElem?_eq_some_iff.1 K0.out).1
  obtain ⟨KX0_0, KX0_1, KX0_2, KX0_3⟩ := blk2 KX0.out
  have KX0_l : w4.heap.size < w9.heap.size := (Array.getElem?_eq_some_iff.1 KX0.out).1
  go_wp2_with fail
  clear K0_0 K0_1 K0_2 K0_3 K0_l KX0_0 KX0_1 KX0_2 KX0_3 KX0_l
  refine (markPartS_f _ q _ 1 _ Hvg.out (by rw [length_cells2, ← Hql.out]) (by omega) (by omega)).mono ?_
  rintro e w10 ⟨rfl, hF, hM⟩
  clear Hvg
  replace HB := Lib.hid (HB.out.trans (hF.out.low (B := W.heap.size) (fun b h => by have h0 := h; omega) HB.out.size))
  replace K0 : Hid (w10.heap[w.heap.size]? = _) := (hF.out.block _ (Array.getElem?_eq_some_iff.1 K0.out).1 (fun h => by have h1 := h; omega)).trans K0.out
  replace HB3 := Lib.hid (HB3.out.trans (hF.out.low (B := w3.heap.size) (fun b h => by have h0 := h; omega) HB3.out.size))
  replace KX0 : Hid (w10.heap[w4.heap.size]? = _) := (hF.out.block _ (Array.getElem?_eq_some_iff.1 KX0.out).1 (fun h => by have h1 := h; omega)).trans KX0.out
  have HM := Lib.hid hM.out; clear hM hF
  obtain ⟨K0_0, K0_1, K0_2, K0_3⟩ := blk2 K0.out
  have K0_l : w.heap.size < w10.heap.size := (Array.getElem?_eq_some_iff.1 K0.out).1
  obtain ⟨KX0_0, KX0_1, KX0_2, KX0_3⟩ := blk2 KX0.out
  have KX0_l : w4.heap.size < w10.heap.size := (Array.getElem?_eq_some_iff.1 KX0.out).1
  obtain ⟨kr, hkr⟩ : ∃ k : Int, k = 1 + 2 * (q : Int) := ⟨_, rfl⟩
  have hkr0 : 0 ≤ kr := by omega
  have hkr1 : kr ≤ 4000000000000 := by omega
  rw [← hkr]
  have hne := bneS kr
  go_wp2_with fail
  clear K0_0 K0_1 K0_2 K0_3 K0_l KX0_0 KX0_1 KX0_2 KX0_3 KX0_l
  refine (heldPartS_c _ q 1 _ (FlW.fl HM.out) (by omega) (by omega)).mono ?_
  rintro e w' ⟨rfl, rfl⟩
  rw [← hkr]
  obtain ⟨K0_0, K0_1, K0_2, K0_3⟩ := blk2 K0.out
  have K0_l : w.heap.size < w10.heap.size := (Array.getElem?_eq_some_iff.1 K0.out).1
  obtain ⟨KX0_0, KX0_1, KX0_2, KX0_3⟩ := blk2 KX0.out
  have KX0_l : w4.heap.size < w10.heap.size := (Array.getElem?_eq_some_iff.1 KX0.out).1
  go_wp2_with fail
  clear K0_0 K0_1 K0_2 K0_3 K0_l KX0_0 KX0_1 KX0_2 KX0_3 KX0_l
  refine (toDfa_c _ _ D0 _ (H0.out.stay (kpB HB.out)) HSM0.out).mono ?_
  rintro e w11 ⟨zn0, ze0, rfl, hb, hd⟩
  replace HB := Lib.hid (HB.out.trans (hb.mono HB.out.size))
  replace K0 := Lib.hid (blkBel hb K0.out)
  replace HB3 := Lib.hid (HB3.out.trans (hb.mono HB3.out.size))
  replace KX0 := Lib.hid (blkBel hb KX0.out)
  replace HM := Lib.hid (HM.out.stay (ksB hb))
  have hzcz0 := hb.size; clear hb
  have HXz0 := Lib.hid hd.out.rd; clear hd
  obtain ⟨az0, cz0, bz0, dz0, rfl, rfl, _, _⟩ := HXz0.out.shapes
  obtain ⟨K0_0, K0_1, K0_2, K0_3⟩ := blk2 K0.out
  have K0_l : w.heap.size < w11.heap.size := (Array.getElem?_eq_some_iff.1 K0.out).1
  obtain ⟨KX0_0, KX0_1, KX0_2, KX0_3⟩ := blk2 KX0.out
  have KX0_l : w4.heap.size < w11.heap.size := (Array.getElem?_eq_some_iff.1 KX0.out).1
  go_wp2_with fail
  clear K0_0 K0_1 K0_2 K0_3 K0_l KX0_0 KX0_1 KX0_2 KX0_3 KX0_l
  refine (ExprOf_c _ _ D0 _ HXz0.out).mono ?_
  rintro e w12 ⟨vh, zvh, rfl, hb, hpvh, hvh⟩
  rw [hP.out] at hpvh
  obtain rfl := boolEq hpvh hpvw
  clear hpvh
  rw [hQ.out] at hvh
  have hzvh := hb.size
  replace HB := Lib.hid (HB.out.trans (hb.mono HB.out.size))
  replace K0 := Lib.hid (blkBel hb K0.out)
  replace HB3 := Lib.hid (HB3.out.trans (hb.mono HB3.out.size))
  replace KX0 := Lib.hid (blkBel hb KX0.out)
  replace HM := Lib.hid (HM.out.stay (ksB hb))
  replace HXz0 := Lib.hid (HXz0.out.stay (kpB hb))
  clear hb
  have Hvh : Hid (FlW (w11.heap.size ≤ ·) w12 vh Q.length (cells2 Q)) := ownFl hvh.out; clear hvh
  rw [← Hql.out] at Hvh
  obtain ⟨avh, cvh, rfl, _⟩ := Hvh.out.shape
  clear HXz0
  obtain ⟨K0_0, K0_1, K0_2, K0_3⟩ := blk2 K0.out
  have K0_l : w.heap.size < w12.heap.size := (Array.getElem?_eq_some_iff.1 K0.out).1
  obtain ⟨KX0_0, KX0_1, KX0_2, KX0_3⟩ := blk2 KX0.out
  have KX0_l : w4.heap.size < w12.heap.size := (Array.getElem?_eq_some_iff.1 KX0.out).1
  go_wp2_with fail
  clear K0_0 K0_1 K0_2 K0_3 K0_l KX0_0 KX0_1 KX0_2 KX0_3 KX0_l
  refine (eqPartS_c _ _ Q _ (by have := Hvh.out.fl; unfold Pairs; rw [← Hql.out]; exact this) (by have := (HW3.out.stay (kpL HB3.out)); unfold Pairs; rw [← Hql.out]; exact this)).mono ?_
  rintro e w13 ⟨bq, rfl, hb, hq0⟩
  cases bq
  · exact (hbF hq0 trivial).elim
  clear hq0
  replace HB := Lib.hid (HB.out.trans (hb.mono HB.out.size))
  replace K0 := Lib.hid (blkBel hb K0.out)
  replace HB3 := Lib.hid (HB3.out.trans (hb.mono HB3.out.size))
  replace KX0 := Lib.hid (blkBel hb KX0.out)
  replace HM := Lib.hid (HM.out.stay (ksB hb))
  replace Hvh := Lib.hid (Hvh.out.stay (ksB hb))
  clear hb
  obtain ⟨K0_0, K0_1, K0_2, K0_3⟩ := blk2 K0.out
  have K0_l : w.heap.size < w13.heap.size := (Array.getElem?_eq_some_iff.1 K0.out).1
  obtain ⟨KX0_0, KX0_1, KX0_2, KX0_3⟩ := blk2 KX0.out
  have KX0_l : w4.heap.size < w13.heap.size := (Array.getElem?_eq_some_iff.1 KX0.out).1
  clear Hvh
  go_wp2_with fail
  clear K0_0 K0_1 K0_2 K0_3 K0_l KX0_0 KX0_1 KX0_2 KX0_3 KX0_l
  refine (heldPartS_c _ q 1 _ (FlW.fl HM.out) (by omega) (by omega)).mono ?_
  rintro e w' ⟨rfl, rfl⟩
  rw [← hkr]
  obtain ⟨K0_0, K0_1, K0_2, K0_3⟩ := blk2 K0.out
  have K0_l : w.heap.size < w13.heap.size := (Array.getElem?_eq_some_iff.1 K0.out).1
  obtain ⟨KX0_0, KX0_1, KX0_2, KX0_3⟩ := blk2 KX0.out
  have KX0_l : w4.heap.size < w13.heap.size := (Array.getElem?_eq_some_iff.1 KX0.out).1
  clear K0_0 K0_1 K0_2 K0_3 K0_l KX0_0 KX0_1 KX0_2 KX0_3 KX0_l
  have hfin := HB0.out.trans (HB.out.mono HB0.out.size)
  go_wp2
  go_ret
  exact ⟨rfl, hfin⟩
end Go.Proofs.Ytbcjhiponbfbnaa.fnExactExprOf
