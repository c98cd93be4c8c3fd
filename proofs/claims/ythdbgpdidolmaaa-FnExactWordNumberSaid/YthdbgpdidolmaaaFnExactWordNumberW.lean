/- FnExactWordNumber answers true: the walk. -/
import Derived.Test.YthdbgpdidolmaaaWni
import Derived.Test.YthdbgpdidolmaaaEqf
import Derived.Test.YthdbgpdidolmaaaFa3
import Derived.Test.YthdbgpdidolmaaaEqf
import Derived.Deep.RegionHeld3
namespace Go.Proofs.Ythdbgpdidolmaaa.fnExactWordNumber
open Go.RowKit
set_option maxRecDepth 100000

set_option maxHeartbeats 2000000 in
theorem walk (w : World) (vn0 ve0 : Value) (D0 : DfaD) (h0 : DfaR (fun _ => True) w vn0 ve0 D0) (i1 : Int) (hi1 : -9223372036854775808 ≤ i1 ∧ i1 ≤ 9223372036854775807) :
    Calls Try.prog 6 #[.agg #[vn0, ve0], .int .i64 i1] w (Yes w) := by
  obtain ⟨a0, c0, b0, d0, rfl, rfl, hn0, hm0⟩ := h0.shapes
  obtain ⟨W, hW⟩ : ∃ W, W = w.alloc (.cells #[.slice a0 D0.1.length c0, .slice b0 D0.2.length d0] 32) := ⟨_, rfl⟩
  have HB0 : Hid (Below w.heap.size w W) := by rw [hW]; exact (Below.refl _ _).alloc (Nat.le_refl _) _
  have K0 : Hid (W.heap[w.heap.size]? = some (.cells #[.slice a0 D0.1.length c0, .slice b0 D0.2.length d0] 32 (0, 0))) := by rw [hW]; exact blkNew _ _ (by simp)
  have H0 := Lib.hid (h0.stay (kpB HB0.out)); clear h0
  have HW := Lib.hid hW; clear hW
  obtain ⟨q0a, Q0a⟩ : ∃ q : ByteArray, Hid (wnV D0 i1 = q) := ⟨_, rfl⟩
  obtain ⟨q1a, Q1a⟩ : ∃ q : Bool, Hid (wnB D0 i1 = q) := ⟨_, rfl⟩
  go_enter Try.func6, Try.ntmps6
  have HB : Hid (Below W.heap.size W W) := Below.refl _ _
  go_wp2_with fail
  rw [← HW.out]
  refine (szDfa_c _ _ D0 _ _ (H0.out.stay (kpB HB.out)) (by omega) (by omega)).mono ?_
  rintro e w1 ⟨m0, rfl, hb, hm⟩
  replace HB := Lib.hid (HB.out.trans (hb.mono HB.out.size))
  replace K0 := Lib.hid (blkBel hb K0.out)
  clear hb
  obtain ⟨K0_0, K0_1, K0_2, K0_3⟩ := blk2 K0.out
  have K0_l : w.heap.size < w1.heap.size := (Array.getElem?_eq_some_iff.1 K0.out).1
  rcases hm.out with rfl | ⟨hm0_0, hm1_0, hsml0⟩
  · clear hm
    go_wp2
    go_ret
    exact ⟨rfl, HB0.out.trans (HB.out.mono HB0.out.size)⟩
  have HSM0 := Lib.hid hsml0; clear hsml0 hm
  clear K0_0 K0_1 K0_2 K0_3 K0_l
  obtain ⟨K0_0, K0_1, K0_2, K0_3⟩ := blk2 K0.out
  have K0_l : w.heap.size < w1.heap.size := (Array.getElem?_eq_some_iff.1 K0.out).1
  go_wp2_with fail
  clear K0_0 K0_1 K0_2 K0_3 K0_l
  refine (toDfa_c _ _ D0 _ (H0.out.stay (kpB HB.out)) HSM0.out).mono ?_
  rintro e w2 ⟨yn0, ye0, rfl, hb, hd⟩
  replace HB := Lib.hid (HB.out.trans (hb.mono HB.out.size))
  replace K0 := Lib.hid (blkBel hb K0.out)
  clear hb
  have HXy0 := Lib.hid hd.out.rd; clear hd
  obtain ⟨ay0, cy0, by0, dy0, rfl, rfl, _, _⟩ := HXy0.out.shapes
  obtain ⟨K0_0, K0_1, K0_2, K0_3⟩ := blk2 K0.out
  have K0_l : w.heap.size < w2.heap.size := (Array.getElem?_eq_some_iff.1 K0.out).1
  go_wp2_with fail
  clear K0_0 K0_1 K0_2 K0_3 K0_l
  refine (sWordNumber_c _ _ D0 i1 _ HXy0.out hi1).mono ?_
  rintro e w3 ⟨rfl, hb⟩
  rw [Q0a.out, Q1a.out]
  replace HB := Lib.hid (HB.out.trans (hb.mono HB.out.size))
  replace K0 := Lib.hid (blkBel hb K0.out)
  replace HXy0 := Lib.hid (HXy0.out.stay (kpB hb))
  clear hb
  clear HXy0
  obtain ⟨K0_0, K0_1, K0_2, K0_3⟩ := blk2 K0.out
  have K0_l : w.heap.size < w3.heap.size := (Array.getElem?_eq_some_iff.1 K0.out).1
  go_wp2_with fail
  clear K0_0 K0_1 K0_2 K0_3 K0_l
  refine (toDfa_c _ _ D0 _ (H0.out.stay (kpB HB.out)) HSM0.out).mono ?_
  rintro e w4 ⟨xn0, xe0, rfl, hb, hd⟩
  replace HB := Lib.hid (HB.out.trans (hb.mono HB.out.size))
  replace K0 := Lib.hid (blkBel hb K0.out)
  clear hb
  have HXx0 := Lib.hid hd.out.rd; clear hd
  obtain ⟨ax0, cx0, bx0, dx0, rfl, rfl, _, _⟩ := HXx0.out.shapes
  obtain ⟨K0_0, K0_1, K0_2, K0_3⟩ := blk2 K0.out
  have K0_l : w.heap.size < w4.heap.size := (Array.getElem?_eq_some_iff.1 K0.out).1
  obtain ⟨w5, hw5⟩ : ∃ w5, w5 = w4.alloc (.cells #[.slice ax0 D0.1.length cx0, .slice bx0 D0.2.length dx0] 36) := ⟨_, rfl⟩
  have hbw5 : Below w4.heap.size w4 w5 := by rw [hw5]; exact (Below.refl _ _).alloc (Nat.le_refl _) _
  have KX0 : Hid (w5.heap[w4.heap.size]? = some (.cells #[.slice ax0 D0.1.length cx0, .slice bx0 D0.2.length dx0] 36 (0, 0))) := by rw [hw5]; exact blkNew _ _ rfl
  have Hw5 := Lib.hid hw5; clear hw5
  go_wp2_with fail
  rw [← Hw5.out]
  clear K0_0 K0_1 K0_2 K0_3 K0_l
  replace HB := Lib.hid (HB.out.trans (hbw5.mono HB.out.size))
  replace K0 := Lib.hid (blkBel hbw5 K0.out)
  replace HXx0 := Lib.hid (HXx0.out.stay (kpB hbw5))
  clear hbw5
  refine (WordNumber_c _ _ D0 i1 _ HXx0.out hi1).mono ?_
  rintro e w6 ⟨rfl, hb⟩
  rw [Q0a.out, Q1a.out]
  replace HB := Lib.hid (HB.out.trans (hb.mono HB.out.size))
  replace K0 := Lib.hid (blkBel hb K0.out)
  replace HXx0 := Lib.hid (HXx0.out.stay (kpB hb))
  replace KX0 := Lib.hid (blkBel hb KX0.out)
  clear hb
  obtain ⟨K0_0, K0_1, K0_2, K0_3⟩ := blk2 K0.out
  have K0_l : w.heap.size < w6.heap.size := (Array.getElem?_eq_some_iff.1 K0.out).1
  obtain ⟨KX0_0, KX0_1, KX0_2, KX0_3⟩ := blk2 KX0.out
  have KX0_l : w4.heap.size < w6.heap.size := (Array.getElem?_eq_some_iff.1 KX0.out).1
  have hne1 := bneSelf q1a
  go_wp2_with fail
  have HBD : Hid (Below W.heap.size W w6.drew) := HB.out.drew
  have HXD := Lib.hid (HXx0.out.stay (kpB ((Below.refl w6.heap.size w6).drew)))
  go_region_held3 (fun w' => w'.cell? ⟨w.heap.size, 0, none⟩ = some (.slice a0 D0.1.length c0) ∧ w'.cell? ⟨w.heap.size, 1, none⟩ = some (.slice b0 D0.2.length d0) ∧ w'.cell? ⟨w4.heap.size, 0, none⟩ = some (.slice ax0 D0.1.length cx0) ∧ w'.cell? ⟨w4.heap.size, 1, none⟩ = some (.slice bx0 D0.2.length dx0))
    (first | exact ⟨K0_0, K0_1, KX0_0, KX0_1⟩ | exact ⟨(blk2 (blkBel hb10 K0.out)).1, (blk2 (blkBel hb10 K0.out)).2.1, (blk2 (blkBel hb10 KX0.out)).1, (blk2 (blkBel hb10 KX0.out)).2.1⟩ | exact ⟨(blk2 (blkBel hb11 (blkBel hb10 K0.out))).1, (blk2 (blkBel hb11 (blkBel hb10 K0.out))).2.1, (blk2 (blkBel hb11 (blkBel hb10 KX0.out))).1, (blk2 (blkBel hb11 (blkBel hb10 KX0.out))).2.1⟩)
    (first | (go_at_call 22; refine (toDfa_c _ _ D0 _ (H0.out.stay (kpB HBD.out)) HSM0.out).mono ?_; rintro e v10 ⟨y1, y2, rfl, hb10, hd10⟩) | (go_at_call 24; refine (eqDfa_c _ _ _ _ D0 _ (HXD.out.stay (kpB hb10)) hd10.out.rd).mono ?_; rintro e v11 ⟨bq, rfl, hb11, hq⟩; cases bq; exact (hbF hq trivial).elim))
  clear K0_0 K0_1 K0_2 K0_3 K0_l KX0_0 KX0_1 KX0_2 KX0_3 KX0_l
  clear HXD hd10
  have hb : Below w6.heap.size w6 v11 := ((Below.refl w6.heap.size w6).drew).trans (hb10.trans (hb11.mono hb10.size))
  clear hb10 hb11 HBD
  replace HB := Lib.hid (HB.out.trans (hb.mono HB.out.size))
  replace K0 := Lib.hid (blkBel hb K0.out)
  replace HXx0 := Lib.hid (HXx0.out.stay (kpB hb))
  replace KX0 := Lib.hid (blkBel hb KX0.out)
  clear hb
  skip
  obtain ⟨K0_0, K0_1, K0_2, K0_3⟩ := blk2 K0.out
  have K0_l : w.heap.size < v11.heap.size := (Array.getElem?_eq_some_iff.1 K0.out).1
  obtain ⟨KX0_0, KX0_1, KX0_2, KX0_3⟩ := blk2 KX0.out
  have KX0_l : w4.heap.size < v11.heap.size := (Array.getElem?_eq_some_iff.1 KX0.out).1
  clear K0_0 K0_1 K0_2 K0_3 K0_l KX0_0 KX0_1 KX0_2 KX0_3 KX0_l
  have hfin := HB0.out.trans (HB.out.mono HB0.out.size)
  go_wp2
  go_ret
  exact ⟨rfl, hfin⟩
end Go.Proofs.Ythdbgpdidolmaaa.fnExactWordNumber
